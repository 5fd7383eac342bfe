/- What functions of this program compute: a model of each, and the proof that it is kept. -/
import Derived.Test.YtidmlhihfanglaaGreatDoorTextF01
import Derived.KernelRfl
namespace Go.WK.S
open Go Go.Proofs Go.WK Go.RowKit
set_option linter.unusedVariables false
set_option maxRecDepth 100000
set_option maxHeartbeats 4000000
/-! 59 bookplate/record.Valid -/
def m59 (a0 : D_api_Record) : Option Bool :=
  if a0.ID < 1 then
    some false
  else
    if (1000000000 : Int) < a0.ID then
      some false
    else
      if a0.Fields.length < 1 then
        some false
      else
        if 60 < a0.Fields.length then
          some false
        else
          (m93 a0.Fields m94).bind fun x385 =>
          some (!x385)
def post59 (r : Bool) (v : Value) (fs : List Fact) : Prop := v = .bool r ∧ fs = []
theorem en59 : Enters Tryz.prog 59 := ⟨_, Tryz.func59, by kernel_rfl, rfl⟩
theorem f59_spec {a0 : D_api_Record} {s376 : Value} {r : Bool} (hr : m59 a0 = some r) : Spec Tryz.prog 59 [.agg #[.int .i64 a0.ID, s376]] [(ty25.fact a0 [.int .i64 a0.ID, s376])] (post59 r) := by
  refine spec_start (N := 27) Tryz.func59 (by kernel_rfl) rfl rfl rfl ?_
  intro g hS
  unfold m59 at hr
  refine at_open (A := Unit) 0 rfl (fun _ => True) (fun _ => [((Ty.int .i64).fact a0.ID [.int .i64 a0.ID]), ((Ty.slice ty69).fact a0.Fields [s376])]) (fun F w h => ⟨(), trivial, ex25 h⟩) (fun _ _ => ?_)
  refine at_inv 0 rfl (fun l377 => ?_)
  replace l377 : (-9223372036854775808) ≤ a0.ID ∧ a0.ID ≤ 9223372036854775807 := l377
  refine at_seq ?_
  refine at_region ?_
  refine at_hv rfl ?_
  refine hv_box (cs := [.int .i64 a0.ID, s376]) rfl rfl rfl (fun b378 => ?_)
  refine at_lt (lt_assign rfl) rfl ?_
  refine at_nil ?_
  refine at_then ?_
  refine at_seq ?_
  refine at_seq ?_
  refine at_region ?_
  refine at_lt (lt_fieldAddr 0 rfl fld25_0 rfl) rfl ?_
  refine at_lt (lt_load_box 0 rfl ti3 rfl rfl rfl rfl rfl) rfl ?_
  refine at_lt (lt_lss rfl rfl) rfl ?_
  refine at_lt (lt_move rfl) rfl ?_
  by_cases h379 : a0.ID < 1
  · replace hr := ipos h379 hr
    refine at_off rfl rfl (decide_eq_true (by first | exact h379 | omega)) rfl ?_
    refine at_off rfl rfl (decide_eq_true (by first | exact h379 | omega)) rfl ?_
    refine at_off rfl rfl (decide_eq_true (by first | exact h379 | omega)) rfl ?_
    refine at_lt (lt_pick true rfl (decide_eq_true (by first | exact h379 | omega)) rfl) rfl ?_
    refine at_lt (lt_move rfl) rfl ?_
    refine at_off rfl rfl rfl rfl ?_
    refine at_off rfl rfl rfl rfl ?_
    refine at_off rfl rfl rfl rfl ?_
    refine at_off rfl rfl rfl rfl ?_
    refine at_lt (lt_pick true rfl rfl rfl) rfl ?_
    refine at_lt (lt_move rfl) rfl ?_
    refine at_off rfl rfl rfl rfl ?_
    refine at_off rfl rfl rfl rfl ?_
    refine at_off rfl rfl rfl rfl ?_
    refine at_off rfl rfl rfl rfl ?_
    refine at_lt (lt_pick true rfl rfl rfl) rfl ?_
    refine at_nil ?_
    refine at_then ?_
    refine at_true rfl rfl ?_
    refine at_seq ?_
    refine at_region ?_
    refine at_lt (lt_assign rfl) rfl ?_
    refine at_nil ?_
    refine at_then ?_
    refine at_ret ?_
    have hq := oinj hr
    clear hr
    subst hq
    refine at_then_ret ?_
    exact at_return (.bool false) [] hS Tryz.results59 (.cons (.tmp rfl) .nil) rfl rfl ⟨rfl, rfl⟩
  · replace hr := ineg h379 hr
    refine at_on rfl rfl (decide_eq_false (by first | exact h379 | omega)) ?_
    refine at_lt (lt_fieldAddr 0 rfl fld25_0 rfl) rfl ?_
    refine at_on rfl rfl (decide_eq_false (by first | exact h379 | omega)) ?_
    refine at_lt (lt_load_box 0 rfl ti3 rfl rfl rfl rfl rfl) rfl ?_
    refine at_on rfl rfl (decide_eq_false (by first | exact h379 | omega)) ?_
    refine at_lt (lt_gtr rfl rfl) rfl ?_
    refine at_lt (lt_pick false rfl (decide_eq_false (by first | exact h379 | omega)) rfl) rfl ?_
    refine at_lt (lt_move rfl) rfl ?_
    by_cases h380 : (1000000000 : Int) < a0.ID
    · replace hr := ipos h380 hr
      refine at_off rfl rfl (decide_eq_true (by first | exact h380 | omega)) rfl ?_
      refine at_off rfl rfl (decide_eq_true (by first | exact h380 | omega)) rfl ?_
      refine at_off rfl rfl (decide_eq_true (by first | exact h380 | omega)) rfl ?_
      refine at_off rfl rfl (decide_eq_true (by first | exact h380 | omega)) rfl ?_
      refine at_lt (lt_pick true rfl (decide_eq_true (by first | exact h380 | omega)) rfl) rfl ?_
      refine at_lt (lt_move rfl) rfl ?_
      refine at_off rfl rfl rfl rfl ?_
      refine at_off rfl rfl rfl rfl ?_
      refine at_off rfl rfl rfl rfl ?_
      refine at_off rfl rfl rfl rfl ?_
      refine at_lt (lt_pick true rfl rfl rfl) rfl ?_
      refine at_nil ?_
      refine at_then ?_
      refine at_true rfl rfl ?_
      refine at_seq ?_
      refine at_region ?_
      refine at_lt (lt_assign rfl) rfl ?_
      refine at_nil ?_
      refine at_then ?_
      refine at_ret ?_
      have hq := oinj hr
      clear hr
      subst hq
      refine at_then_ret ?_
      exact at_return (.bool false) [] hS Tryz.results59 (.cons (.tmp rfl) .nil) rfl rfl ⟨rfl, rfl⟩
    · replace hr := ineg h380 hr
      refine at_on rfl rfl (decide_eq_false (by first | exact h380 | omega)) ?_
      refine at_lt (lt_fieldAddr 1 rfl fld25_1 rfl) rfl ?_
      refine at_on rfl rfl (decide_eq_false (by first | exact h380 | omega)) ?_
      refine at_lt (lt_load_box 0 rfl ti23 rfl rfl rfl rfl rfl) rfl ?_
      refine at_inv 1 rfl (fun i381 => ?_)
      have l382 := slice_len i381
      refine at_on rfl rfl (decide_eq_false (by first | exact h380 | omega)) ?_
      refine at_lt (lt_flen 1 rfl rfl und23) rfl ?_
      refine at_on rfl rfl (decide_eq_false (by first | exact h380 | omega)) ?_
      refine at_lt (lt_lss rfl rfl) rfl ?_
      refine at_lt (lt_pick false rfl (decide_eq_false (by first | exact h380 | omega)) rfl) rfl ?_
      refine at_lt (lt_move rfl) rfl ?_
      by_cases h383 : a0.Fields.length < 1
      · replace hr := ipos h383 hr
        refine at_off rfl rfl (decide_eq_true (by omega)) rfl ?_
        refine at_off rfl rfl (decide_eq_true (by omega)) rfl ?_
        refine at_off rfl rfl (decide_eq_true (by omega)) rfl ?_
        refine at_off rfl rfl (decide_eq_true (by omega)) rfl ?_
        refine at_lt (lt_pick true rfl (decide_eq_true (by omega)) rfl) rfl ?_
        refine at_nil ?_
        refine at_then ?_
        refine at_true rfl rfl ?_
        refine at_seq ?_
        refine at_region ?_
        refine at_lt (lt_assign rfl) rfl ?_
        refine at_nil ?_
        refine at_then ?_
        refine at_ret ?_
        have hq := oinj hr
        clear hr
        subst hq
        refine at_then_ret ?_
        exact at_return (.bool false) [] hS Tryz.results59 (.cons (.tmp rfl) .nil) rfl rfl ⟨rfl, rfl⟩
      · replace hr := ineg h383 hr
        refine at_on rfl rfl (decide_eq_false (by omega)) ?_
        refine at_lt (lt_fieldAddr 1 rfl fld25_1 rfl) rfl ?_
        refine at_on rfl rfl (decide_eq_false (by omega)) ?_
        refine at_lt (lt_load_box 0 rfl ti23 rfl rfl rfl rfl rfl) rfl ?_
        refine at_on rfl rfl (decide_eq_false (by omega)) ?_
        refine at_lt (lt_flen 1 rfl rfl und23) rfl ?_
        refine at_on rfl rfl (decide_eq_false (by omega)) ?_
        refine at_lt (lt_gtr rfl rfl) rfl ?_
        refine at_lt (lt_pick false rfl (decide_eq_false (by omega)) rfl) rfl ?_
        refine at_nil ?_
        refine at_then ?_
        by_cases h384 : 60 < a0.Fields.length
        · replace hr := ipos h384 hr
          refine at_true rfl (decide_eq_true (by omega)) ?_
          refine at_seq ?_
          refine at_region ?_
          refine at_lt (lt_assign rfl) rfl ?_
          refine at_nil ?_
          refine at_then ?_
          refine at_ret ?_
          have hq := oinj hr
          clear hr
          subst hq
          refine at_then_ret ?_
          exact at_return (.bool false) [] hS Tryz.results59 (.cons (.tmp rfl) .nil) rfl rfl ⟨rfl, rfl⟩
        · replace hr := ineg h384 hr
          refine at_false rfl (decide_eq_false (by omega)) ?_
          refine at_skip ?_
          refine at_then ?_
          refine at_seq ?_
          refine at_region ?_
          refine at_lt (lt_fieldAddr 1 rfl fld25_1 rfl) rfl ?_
          refine at_lt (lt_load_box 0 rfl ti23 rfl rfl rfl rfl rfl) rfl ?_
          replace hr := obind hr
          obtain ⟨x385, h386, hr⟩ := hr
          refine at_fn 94 [] [] (sp96 m94) en94 rfl (by rintro _ _ _ ⟨a0, r, s387, h, rfl, rfl, rfl⟩; exact f94_spec h) ?_
          refine at_hv rfl ?_
          refine hv_call0 [2, 0] (f93_spec h386) rfl rfl rfl rfl ?_
          rintro _ _ ⟨rfl, rfl⟩
          refine at_lt (lt_not rfl) rfl ?_
          refine at_lt (lt_assign rfl) rfl ?_
          refine at_nil ?_
          refine at_then ?_
          refine at_ret ?_
          have hq := oinj hr
          clear hr
          subst hq
          exact at_return (.bool (!x385)) [] hS Tryz.results59 (.cons (.tmp rfl) .nil) rfl rfl ⟨rfl, rfl⟩
/-! 143 slices.insertionSortCmpFunc[bookplate/api.Field] -/
def m143_l2 (a0 : (List D_api_Field)) (a1 : Int) (p3 : (D_api_Field → D_api_Field → Option Int)) : Nat → Int → Option Unit
  | 0, _ => none
  | k + 1, x398 =>
    if a1 < x398 then
      (at? a0 x398).bind fun x404 =>
      (at? a0 (IntKind.i64.wrap (x398 - 1))).bind fun x409 =>
      (p3 x404 x409).bind fun x414 =>
      if x414 < 0 then
        none
      else
        some ()
    else
      some ()
def m143_l1 (a0 : (List D_api_Field)) (a1 : Int) (a2 : Int) (p3 : (D_api_Field → D_api_Field → Option Int)) : Nat → Int → Option Unit
  | 0, _ => none
  | k + 1, x392 =>
    if x392 < a2 then
      (m143_l2 a0 a1 p3 (0 + 1) x392).bind fun _ =>
      m143_l1 a0 a1 a2 p3 k (IntKind.i64.wrap (x392 + 1))
    else
      some ()
def m143 (a0 : (List D_api_Field)) (a1 : Int) (a2 : Int) (p3 : (D_api_Field → D_api_Field → Option Int)) : Option Unit :=
  (m143_l1 a0 a1 a2 p3 9223372036854775808 (IntKind.i64.wrap (a1 + 1))).bind fun _ =>
  some ()
def post143 (r : Unit) (v : Value) (fs : List Fact) : Prop := v = .tuple #[] ∧ fs = []
theorem en143 : Enters Tryz.prog 143 := ⟨_, Tryz.func143, by kernel_rfl, rfl⟩
theorem f143_spec {a0 : (List D_api_Field)} {a1 : Int} {a2 : Int} {p3 : (D_api_Field → D_api_Field → Option Int)} {w388 : Value} {w389 : Value} {r : Unit} (hr : m143 a0 a1 a2 p3 = some r) : Spec Tryz.prog 143 [w388, .int .i64 a1, .int .i64 a2, w389] [((Ty.slice ty69).fact a0 [w388]), ((Ty.int .i64).fact a1 [.int .i64 a1]), ((Ty.int .i64).fact a2 [.int .i64 a2]), (FnOk Tryz.prog w389 (sp116 p3))] (post143 r) := by
  refine spec_start (N := 53) Tryz.func143 (by kernel_rfl) rfl rfl rfl ?_
  intro g hS
  unfold m143 at hr
  refine at_inv 1 rfl (fun l390 => ?_)
  replace l390 : (-9223372036854775808) ≤ a1 ∧ a1 ≤ 9223372036854775807 := l390
  refine at_inv 2 rfl (fun l391 => ?_)
  replace l391 : (-9223372036854775808) ≤ a2 ∧ a2 ≤ 9223372036854775807 := l391
  refine at_seq ?_
  refine at_region ?_
  refine at_lt (lt_move rfl) rfl ?_
  refine at_lt (lt_addw rfl rfl) rfl ?_
  refine at_lt (lt_assign rfl) rfl ?_
  refine at_nil ?_
  refine at_then ?_
  refine at_int .i64 (IntKind.i64.wrap (a1 + 1)) (wrap_bd .i64 _) ?_
  replace hr := obind hr
  obtain ⟨r393, hl394, hr⟩ := hr
  refine at_cut (V := Unit) (fun e => (⟨[], [], [], []⟩ : St)) ?_ ?_
  · refine at_block ?_
    refine at_loopW (σ := Int) (V := Unit) (r := r393) (fun n s => m143_l1 a0 a1 a2 p3 n s) (fun s e => (⟨[(0, w388), (1, .int .i64 a1), (2, .int .i64 a2), (3, w389), (8, .int .i64 s)], [], [], [((Ty.int .i64).fact s [.int .i64 s]), ((Ty.slice ty69).fact a0 [w388]), ((Ty.int .i64).fact a1 [.int .i64 a1]), ((Ty.int .i64).fact a2 [.int .i64 a2]), (FnOk Tryz.prog w389 (sp116 p3))]⟩ : St)) (fun _ => rfl) _ (IntKind.i64.wrap (a1 + 1)) () hl394 ⟨⟨rfl, ⟨rfl, ⟨rfl, ⟨rfl, ⟨rfl, trivial⟩⟩⟩⟩⟩, ⟨[], rfl⟩, ⟨[], rfl⟩, ⟨[0, 1, 2, 3, 4], rfl⟩⟩ ?_
    clear hr hl394
    intro n x392 hr e
    skip
    skip
    change m143_l1 a0 a1 a2 p3 (n + 1) x392 = some r393 at hr
    change At _ _ (⟨[(0, w388), (1, .int .i64 a1), (2, .int .i64 a2), (3, w389), (8, .int .i64 x392)], [], [], [((Ty.int .i64).fact x392 [.int .i64 x392]), ((Ty.slice ty69).fact a0 [w388]), ((Ty.int .i64).fact a1 [.int .i64 a1]), ((Ty.int .i64).fact a2 [.int .i64 a2]), (FnOk Tryz.prog w389 (sp116 p3))]⟩ : St) _
    rw [m143_l1] at hr
    refine at_inv 0 rfl (fun l396 => ?_)
    replace l396 : (-9223372036854775808) ≤ x392 ∧ x392 ≤ 9223372036854775807 := l396
    refine at_seq ?_
    refine at_seq ?_
    refine at_region ?_
    refine at_lt (lt_move rfl) rfl ?_
    refine at_lt (lt_move rfl) rfl ?_
    refine at_lt (lt_lss rfl rfl) rfl ?_
    refine at_nil ?_
    refine at_then ?_
    by_cases h397 : x392 < a2
    · replace hr := ipos h397 hr
      refine at_true rfl (decide_eq_true (by first | exact h397 | omega)) ?_
      refine at_skip ?_
      refine at_then ?_
      refine at_seq ?_
      refine at_block ?_
      refine at_seq ?_
      refine at_region ?_
      refine at_lt (lt_move rfl) rfl ?_
      refine at_lt (lt_assign rfl) rfl ?_
      refine at_nil ?_
      refine at_then ?_
      replace hr := obind hr
      obtain ⟨r399, hl400, hr⟩ := hr
      refine at_cut (V := Unit) (fun e => (⟨[(0, w388), (1, .int .i64 a1), (2, .int .i64 a2), (3, w389), (8, .int .i64 x392)], [], [], [((Ty.slice ty69).fact a0 [w388]), ((Ty.int .i64).fact a1 [.int .i64 a1]), ((Ty.int .i64).fact a2 [.int .i64 a2]), (FnOk Tryz.prog w389 (sp116 p3)), ((Ty.int .i64).fact x392 [.int .i64 x392])]⟩ : St)) ?_ ?_
      · refine at_block ?_
        refine at_loopW (σ := Int) (V := Unit) (r := r399) (fun n s => m143_l2 a0 a1 p3 n s) (fun s e => (⟨[(0, w388), (1, .int .i64 a1), (2, .int .i64 a2), (3, w389), (8, .int .i64 x392), (9, .int .i64 s)], [], [], [((Ty.int .i64).fact s [.int .i64 s]), ((Ty.slice ty69).fact a0 [w388]), ((Ty.int .i64).fact a1 [.int .i64 a1]), ((Ty.int .i64).fact a2 [.int .i64 a2]), (FnOk Tryz.prog w389 (sp116 p3)), ((Ty.int .i64).fact x392 [.int .i64 x392])]⟩ : St)) (fun _ => rfl) _ x392 () hl400 ⟨⟨rfl, ⟨rfl, ⟨rfl, ⟨rfl, ⟨rfl, ⟨rfl, trivial⟩⟩⟩⟩⟩⟩, ⟨[], rfl⟩, ⟨[], rfl⟩, ⟨[0, 1, 2, 3, 4, 0], rfl⟩⟩ ?_
        clear hr hl400
        intro n x398 hr e
        skip
        skip
        change m143_l2 a0 a1 p3 (n + 1) x398 = some r399 at hr
        change At _ _ (⟨[(0, w388), (1, .int .i64 a1), (2, .int .i64 a2), (3, w389), (8, .int .i64 x392), (9, .int .i64 x398)], [], [], [((Ty.int .i64).fact x398 [.int .i64 x398]), ((Ty.slice ty69).fact a0 [w388]), ((Ty.int .i64).fact a1 [.int .i64 a1]), ((Ty.int .i64).fact a2 [.int .i64 a2]), (FnOk Tryz.prog w389 (sp116 p3)), ((Ty.int .i64).fact x392 [.int .i64 x392])]⟩ : St) _
        rw [m143_l2] at hr
        refine at_inv 0 rfl (fun l402 => ?_)
        replace l402 : (-9223372036854775808) ≤ x398 ∧ x398 ≤ 9223372036854775807 := l402
        refine at_seq ?_
        refine at_seq ?_
        by_cases h403 : a1 < x398
        · replace hr := ipos h403 hr
          replace hr := obind hr
          obtain ⟨x404, h405, hr⟩ := hr
          have := at?_lt h405
          refine at_elem 1 rfl h405 (fun p407 ec pa408 => ?_)
          refine at_open (A := Value) 0 rfl _ _ (fun F w h => op69 h) ?_
          rintro s406 rfl
          replace hr := obind hr
          obtain ⟨x409, h410, hr⟩ := hr
          have := at?_lt h410
          refine at_elem 5 rfl h410 (fun p412 ec pa413 => ?_)
          refine at_open (A := Value) 0 rfl _ _ (fun F w h => op69 h) ?_
          rintro s411 rfl
          replace hr := obind hr
          obtain ⟨x414, h415, hr⟩ := hr
          refine aa_start 17 (by kernel_rfl) ?_
          refine aa_pure (bs' := [true, false, false, false, false, false, false, false, false, false, false, false, false, false, false, false, false]) 0 rfl (by kernel_rfl) rfl rfl (lt_move rfl) rfl (ts_in 0 0 rfl rfl) ?_
          refine aa_pure (bs' := [true, true, false, false, false, false, false, false, false, false, false, false, false, false, false, false, false]) 1 rfl (by kernel_rfl) rfl rfl (lt_move rfl) rfl (ts_in 0 0 rfl rfl) ?_
          refine aa_pure (bs' := [true, true, true, false, false, false, false, false, false, false, false, false, false, false, false, false, false]) 2 rfl (by kernel_rfl) rfl rfl (lt_gtr rfl rfl) rfl (ts_in 0 0 rfl rfl) ?_
          refine aa_pure (bs' := [true, true, true, true, false, false, false, false, false, false, false, false, false, false, false, false, false]) 3 rfl (by kernel_rfl) rfl rfl (lt_move rfl) rfl (ts_in 0 0 rfl rfl) ?_
          refine aa_pure (bs' := [true, true, true, true, true, false, false, false, false, false, false, false, false, false, false, false, false]) 4 rfl (by kernel_rfl) rfl ⟨21, rfl, .inl ⟨_, rfl, gdq (v := true) (decide_eq_true (by first | exact h403 | omega)) rfl⟩⟩ (lt_move rfl) rfl (ts_in 0 0 rfl rfl) ?_
          refine aa_pure (bs' := [true, true, true, true, true, true, false, false, false, false, false, false, false, false, false, false, false]) 5 rfl (by kernel_rfl) rfl ⟨21, rfl, .inl ⟨_, rfl, gdq (v := true) (decide_eq_true (by first | exact h403 | omega)) rfl⟩⟩ (lt_move rfl) rfl (ts_in 0 0 rfl rfl) ?_
          refine aa_pure (bs' := [true, true, true, true, true, true, true, false, false, false, false, false, false, false, false, false, false]) 6 rfl (by kernel_rfl) rfl ⟨21, rfl, .inl ⟨_, rfl, gdq (v := true) (decide_eq_true (by first | exact h403 | omega)) rfl⟩⟩ (lt_move rfl) rfl (ts_in 0 0 rfl rfl) ?_
          refine aa_pure (bs' := [true, true, true, true, true, true, true, true, false, false, false, false, false, false, false, false, false]) 7 rfl (by kernel_rfl) rfl ⟨21, rfl, .inl ⟨_, rfl, gdq (v := true) (decide_eq_true (by first | exact h403 | omega)) rfl⟩⟩ (lt_idx rfl rfl pa408 und23 ti69) rfl (ts_in 0 0 rfl rfl) ?_
          refine aa_load (bs' := [true, true, true, true, true, true, true, true, true, false, false, false, false, false, false, false, false]) 8 rfl (by kernel_rfl) rfl ⟨21, rfl, .inl ⟨_, rfl, gdq (v := true) (decide_eq_true (by first | exact h403 | omega)) rfl⟩⟩ (lt_load_peek 7 rfl ti69 rfl rfl rfl rfl rfl) rfl (ts_in 0 0 rfl rfl) ?_
          refine aa_pure (bs' := [true, true, true, true, true, true, true, true, true, true, false, false, false, false, false, false, false]) 9 rfl (by kernel_rfl) rfl ⟨21, rfl, .inl ⟨_, rfl, gdq (v := true) (decide_eq_true (by first | exact h403 | omega)) rfl⟩⟩ (lt_move rfl) rfl (ts_in 0 0 rfl rfl) ?_
          refine aa_pure (bs' := [true, true, true, true, true, true, true, true, true, true, true, false, false, false, false, false, false]) 10 rfl (by kernel_rfl) rfl ⟨21, rfl, .inl ⟨_, rfl, gdq (v := true) (decide_eq_true (by first | exact h403 | omega)) rfl⟩⟩ (lt_move rfl) rfl (ts_in 0 0 rfl rfl) ?_
          refine aa_pure (bs' := [true, true, true, true, true, true, true, true, true, true, true, true, false, false, false, false, false]) 11 rfl (by kernel_rfl) rfl ⟨21, rfl, .inl ⟨_, rfl, gdq (v := true) (decide_eq_true (by first | exact h403 | omega)) rfl⟩⟩ (lt_subw rfl rfl) rfl (ts_in 0 0 rfl rfl) ?_
          refine aa_pure (bs' := [true, true, true, true, true, true, true, true, true, true, true, true, true, false, false, false, false]) 12 rfl (by kernel_rfl) rfl ⟨21, rfl, .inl ⟨_, rfl, gdq (v := true) (decide_eq_true (by first | exact h403 | omega)) rfl⟩⟩ (lt_idx rfl rfl pa413 und23 ti69) rfl (ts_in 0 0 rfl rfl) ?_
          refine aa_load (bs' := [true, true, true, true, true, true, true, true, true, true, true, true, true, true, false, false, false]) 13 rfl (by kernel_rfl) rfl ⟨21, rfl, .inl ⟨_, rfl, gdq (v := true) (decide_eq_true (by first | exact h403 | omega)) rfl⟩⟩ (lt_load_peek 3 rfl ti69 rfl rfl rfl rfl rfl) rfl (ts_in 0 0 rfl rfl) ?_
          refine aa_all (rs := [14]) (by kernel_rfl) rfl (ts_in 0 0 rfl rfl) (List.forall_mem_singleton.2 ?_)
          refine aa_op rfl ⟨21, rfl, .inl ⟨_, rfl, gdq (v := true) (decide_eq_true (by first | exact h403 | omega)) rfl⟩⟩ ?_
          refine hv_callf 12 [6, 2] rfl rfl rfl ⟨x404, x409, x414, s406, s411, h415, rfl, rfl, rfl⟩ rfl rfl ?_
          rintro _ _ ⟨rfl, rfl⟩
          refine at_inv 0 rfl (fun l417 => ?_)
          replace l417 : (-9223372036854775808) ≤ x414 ∧ x414 ≤ 9223372036854775807 := l417
          refine aa_pure (bs' := [true, true, true, true, true, true, true, true, true, true, true, true, true, true, true, true, false]) 15 rfl (by kernel_rfl) rfl ⟨21, rfl, .inl ⟨_, rfl, gdq (v := true) (decide_eq_true (by first | exact h403 | omega)) rfl⟩⟩ (lt_lss rfl rfl) rfl (ts_in 0 1 rfl rfl) ?_
          refine aa_pure (bs' := [true, true, true, true, true, true, true, true, true, true, true, true, true, true, true, true, true]) 16 rfl (by kernel_rfl) rfl rfl (lt_pick true rfl (decide_eq_true (by first | exact h403 | omega)) rfl) rfl (ts_in 0 1 rfl rfl) ?_
          refine aa_done (by kernel_rfl) (ts_in 0 1 rfl rfl) ?_
          refine at_then ?_
          by_cases h418 : x414 < 0
          · replace hr := ipos h418 hr
            cases hr
          · replace hr := ineg h418 hr
            refine at_false rfl (decide_eq_false (by first | exact h418 | omega)) ?_
            refine at_exit ?_
            refine at_then_exit ?_
            refine at_then_exit ?_
            refine at_in_exit ?_
            have hq := oinj hr
            clear hr
            subst hq
            exact at_leaf () ⟨⟨rfl, ⟨rfl, ⟨rfl, ⟨rfl, ⟨rfl, trivial⟩⟩⟩⟩⟩, ⟨[], rfl⟩, ⟨[], rfl⟩, ⟨[10, 11, 12, 13, 14], rfl⟩⟩
        · replace hr := ineg h403 hr
          refine aa_start 17 (by kernel_rfl) ?_
          refine aa_pure (bs' := [true, false, false, false, false, false, false, false, false, false, false, false, false, false, false, false, false]) 0 rfl (by kernel_rfl) rfl rfl (lt_move rfl) rfl (ts_in 0 0 rfl rfl) ?_
          refine aa_pure (bs' := [true, true, false, false, false, false, false, false, false, false, false, false, false, false, false, false, false]) 1 rfl (by kernel_rfl) rfl rfl (lt_move rfl) rfl (ts_in 0 0 rfl rfl) ?_
          refine aa_pure (bs' := [true, true, true, false, false, false, false, false, false, false, false, false, false, false, false, false, false]) 2 rfl (by kernel_rfl) rfl rfl (lt_gtr rfl rfl) rfl (ts_in 0 0 rfl rfl) ?_
          refine aa_pure (bs' := [true, true, true, true, false, false, false, false, false, false, false, false, false, false, false, false, false]) 3 rfl (by kernel_rfl) rfl rfl (lt_move rfl) rfl (ts_in 0 0 rfl rfl) ?_
          refine aa_off (bs' := [true, true, true, true, true, false, false, false, false, false, false, false, false, false, false, false, false]) 4 rfl (by kernel_rfl) rfl ⟨21, rfl, .inl ⟨_, rfl, gdq (v := false) (decide_eq_false (by first | exact h403 | omega)) rfl⟩⟩ rfl (ts_in 0 0 rfl rfl) ?_
          refine aa_off (bs' := [true, true, true, true, true, true, false, false, false, false, false, false, false, false, false, false, false]) 5 rfl (by kernel_rfl) rfl ⟨21, rfl, .inl ⟨_, rfl, gdq (v := false) (decide_eq_false (by first | exact h403 | omega)) rfl⟩⟩ rfl (ts_in 0 0 rfl rfl) ?_
          refine aa_off (bs' := [true, true, true, true, true, true, true, false, false, false, false, false, false, false, false, false, false]) 6 rfl (by kernel_rfl) rfl ⟨21, rfl, .inl ⟨_, rfl, gdq (v := false) (decide_eq_false (by first | exact h403 | omega)) rfl⟩⟩ rfl (ts_in 0 0 rfl rfl) ?_
          refine aa_off (bs' := [true, true, true, true, true, true, true, true, false, false, false, false, false, false, false, false, false]) 7 rfl (by kernel_rfl) rfl ⟨21, rfl, .inl ⟨_, rfl, gdq (v := false) (decide_eq_false (by first | exact h403 | omega)) rfl⟩⟩ rfl (ts_in 0 0 rfl rfl) ?_
          refine aa_off (bs' := [true, true, true, true, true, true, true, true, true, false, false, false, false, false, false, false, false]) 8 rfl (by kernel_rfl) rfl ⟨21, rfl, .inl ⟨_, rfl, gdq (v := false) (decide_eq_false (by first | exact h403 | omega)) rfl⟩⟩ rfl (ts_in 0 0 rfl rfl) ?_
          refine aa_off (bs' := [true, true, true, true, true, true, true, true, true, true, false, false, false, false, false, false, false]) 9 rfl (by kernel_rfl) rfl ⟨21, rfl, .inl ⟨_, rfl, gdq (v := false) (decide_eq_false (by first | exact h403 | omega)) rfl⟩⟩ rfl (ts_in 0 0 rfl rfl) ?_
          refine aa_off (bs' := [true, true, true, true, true, true, true, true, true, true, true, false, false, false, false, false, false]) 10 rfl (by kernel_rfl) rfl ⟨21, rfl, .inl ⟨_, rfl, gdq (v := false) (decide_eq_false (by first | exact h403 | omega)) rfl⟩⟩ rfl (ts_in 0 0 rfl rfl) ?_
          refine aa_off (bs' := [true, true, true, true, true, true, true, true, true, true, true, true, false, false, false, false, false]) 11 rfl (by kernel_rfl) rfl ⟨21, rfl, .inl ⟨_, rfl, gdq (v := false) (decide_eq_false (by first | exact h403 | omega)) rfl⟩⟩ rfl (ts_in 0 0 rfl rfl) ?_
          refine aa_off (bs' := [true, true, true, true, true, true, true, true, true, true, true, true, true, false, false, false, false]) 12 rfl (by kernel_rfl) rfl ⟨21, rfl, .inl ⟨_, rfl, gdq (v := false) (decide_eq_false (by first | exact h403 | omega)) rfl⟩⟩ rfl (ts_in 0 0 rfl rfl) ?_
          refine aa_off (bs' := [true, true, true, true, true, true, true, true, true, true, true, true, true, true, false, false, false]) 13 rfl (by kernel_rfl) rfl ⟨21, rfl, .inl ⟨_, rfl, gdq (v := false) (decide_eq_false (by first | exact h403 | omega)) rfl⟩⟩ rfl (ts_in 0 0 rfl rfl) ?_
          refine aa_off (bs' := [true, true, true, true, true, true, true, true, true, true, true, true, true, true, true, false, false]) 14 rfl (by kernel_rfl) rfl ⟨21, rfl, .inl ⟨_, rfl, gdq (v := false) (decide_eq_false (by first | exact h403 | omega)) rfl⟩⟩ rfl (ts_in 0 0 rfl rfl) ?_
          refine aa_off (bs' := [true, true, true, true, true, true, true, true, true, true, true, true, true, true, true, true, false]) 15 rfl (by kernel_rfl) rfl ⟨21, rfl, .inl ⟨_, rfl, gdq (v := false) (decide_eq_false (by first | exact h403 | omega)) rfl⟩⟩ rfl (ts_in 0 0 rfl rfl) ?_
          refine aa_pure (bs' := [true, true, true, true, true, true, true, true, true, true, true, true, true, true, true, true, true]) 16 rfl (by kernel_rfl) rfl rfl (lt_pick false rfl (decide_eq_false (by first | exact h403 | omega)) rfl) rfl (ts_in 0 0 rfl rfl) ?_
          refine aa_done (by kernel_rfl) (ts_in 0 0 rfl rfl) ?_
          refine at_then ?_
          refine at_false rfl rfl ?_
          refine at_exit ?_
          refine at_then_exit ?_
          refine at_then_exit ?_
          refine at_in_exit ?_
          have hq := oinj hr
          clear hr
          subst hq
          exact at_leaf () ⟨⟨rfl, ⟨rfl, ⟨rfl, ⟨rfl, ⟨rfl, trivial⟩⟩⟩⟩⟩, ⟨[], rfl⟩, ⟨[], rfl⟩, ⟨[1, 2, 3, 4, 5], rfl⟩⟩
      · clear hl400
        intro e
        change At _ _ (⟨[(0, w388), (1, .int .i64 a1), (2, .int .i64 a2), (3, w389), (8, .int .i64 x392)], [], [], [((Ty.slice ty69).fact a0 [w388]), ((Ty.int .i64).fact a1 [.int .i64 a1]), ((Ty.int .i64).fact a2 [.int .i64 a2]), (FnOk Tryz.prog w389 (sp116 p3)), ((Ty.int .i64).fact x392 [.int .i64 x392])]⟩ : St) _
        refine at_in ?_
        refine at_then ?_
        refine at_region ?_
        refine at_lt (lt_move rfl) rfl ?_
        refine at_lt (lt_addw rfl rfl) rfl ?_
        refine at_lt (lt_assign rfl) rfl ?_
        refine at_nil ?_
        refine at_int .i64 (IntKind.i64.wrap (x392 + 1)) (wrap_bd .i64 _) ?_
        exact at_again (σ := Int) (V := Unit) (lp := fun n s => m143_l1 a0 a1 a2 p3 n s) (S := fun s e => (⟨[(0, w388), (1, .int .i64 a1), (2, .int .i64 a2), (3, w389), (8, .int .i64 s)], [], [], [((Ty.int .i64).fact s [.int .i64 s]), ((Ty.slice ty69).fact a0 [w388]), ((Ty.int .i64).fact a1 [.int .i64 a1]), ((Ty.int .i64).fact a2 [.int .i64 a2]), (FnOk Tryz.prog w389 (sp116 p3))]⟩ : St)) (IntKind.i64.wrap (x392 + 1)) () hr ⟨⟨rfl, ⟨rfl, ⟨rfl, ⟨rfl, ⟨rfl, trivial⟩⟩⟩⟩⟩, ⟨[], rfl⟩, ⟨[], rfl⟩, ⟨[0, 1, 2, 3, 4], rfl⟩⟩
    · replace hr := ineg h397 hr
      refine at_false rfl (decide_eq_false (by first | exact h397 | omega)) ?_
      refine at_exit ?_
      refine at_then_exit ?_
      refine at_then_exit ?_
      refine at_in_exit ?_
      have hq := oinj hr
      clear hr
      subst hq
      exact at_leaf () ⟨trivial, ⟨[], rfl⟩, ⟨[], rfl⟩, ⟨[], rfl⟩⟩
  · clear hl394
    intro e
    change At _ _ (⟨[], [], [], []⟩ : St) _
    have hq := oinj hr
    clear hr
    subst hq
    exact at_return (.tuple #[]) [] hS Tryz.results143 (.nil) rfl rfl ⟨rfl, rfl⟩
/-! 110 slices.stableCmpFunc[bookplate/api.Field] -/
def m110_l1 (a0 : (List D_api_Field)) (a1 : Int) (p2 : (D_api_Field → D_api_Field → Option Int)) : Nat → Int → Int → Option Int
  | 0, _, _ => none
  | k + 1, x437, x438 =>
    if x438 ≤ a1 then
      (m143 a0 x437 x438 p2).bind fun x445 =>
      m110_l1 a0 a1 p2 k x438 (IntKind.i64.wrap (x438 + 20))
    else
      some x437
def m110_l3 (a1 : Int) : Nat → Int → Int → Option Int
  | 0, _, _ => none
  | k + 1, x456, x457 =>
    if x457 ≤ a1 then
      none
    else
      some x456
def m110_l2 (a1 : Int) : Nat → Int → Option Unit
  | 0, _ => none
  | k + 1, x450 =>
    if x450 < a1 then
      (m110_l3 a1 9223372036854775808 0 (IntKind.i64.wrap (2 * x450))).bind fun x458 =>
      Option.bind (α := Unit) (
        if IntKind.i64.wrap (x458 + x450) < a1 then
          none
        else
          some ()
      ) fun _ =>
      m110_l2 a1 k (IntKind.i64.wrap (x450 * 2))
    else
      some ()
def m110 (a0 : (List D_api_Field)) (a1 : Int) (p2 : (D_api_Field → D_api_Field → Option Int)) : Option Unit :=
  (m110_l1 a0 a1 p2 9223372036854775808 0 20).bind fun x439 =>
  (m143 a0 x439 a1 p2).bind fun x448 =>
  (m110_l2 a1 9223372036854775808 20).bind fun _ =>
  some ()
def post110 (r : Unit) (v : Value) (fs : List Fact) : Prop := v = .tuple #[] ∧ fs = []
theorem en110 : Enters Tryz.prog 110 := ⟨_, Tryz.func110, by kernel_rfl, rfl⟩
theorem f110_spec {a0 : (List D_api_Field)} {a1 : Int} {p2 : (D_api_Field → D_api_Field → Option Int)} {w434 : Value} {w435 : Value} {r : Unit} (hr : m110 a0 a1 p2 = some r) : Spec Tryz.prog 110 [w434, .int .i64 a1, w435] [((Ty.slice ty69).fact a0 [w434]), ((Ty.int .i64).fact a1 [.int .i64 a1]), (FnOk Tryz.prog w435 (sp116 p2))] (post110 r) := by
  refine spec_start (N := 63) Tryz.func110 (by kernel_rfl) rfl rfl rfl ?_
  intro g hS
  unfold m110 at hr
  refine at_inv 1 rfl (fun l436 => ?_)
  replace l436 : (-9223372036854775808) ≤ a1 ∧ a1 ≤ 9223372036854775807 := l436
  refine at_seq ?_
  refine at_region ?_
  refine at_lt (lt_assign rfl) rfl ?_
  refine at_nil ?_
  refine at_then ?_
  refine at_seq ?_
  refine at_region ?_
  refine at_lt (lt_move rfl) rfl ?_
  refine at_lt (lt_assign rfl) rfl ?_
  refine at_lt (lt_assign rfl) rfl ?_
  refine at_nil ?_
  refine at_then ?_
  refine at_seq ?_
  refine at_int .i64 0 (by simp only [lo, hi]; omega) ?_
  refine at_int .i64 20 (by simp only [lo, hi]; omega) ?_
  replace hr := obind hr
  obtain ⟨x439, hl440, hr⟩ := hr
  refine at_cut (V := Unit) (fun e => (⟨[(0, w434), (1, .int .i64 a1), (2, w435), (6, .int .i64 20), (7, .int .i64 x439)], [], [], [((Ty.int .i64).fact x439 [.int .i64 x439]), ((Ty.slice ty69).fact a0 [w434]), ((Ty.int .i64).fact a1 [.int .i64 a1]), (FnOk Tryz.prog w435 (sp116 p2))]⟩ : St)) ?_ ?_
  · refine at_block ?_
    refine at_loopW (σ := (Int × Int)) (V := Unit) (r := x439) (fun n s => m110_l1 a0 a1 p2 n s.1 s.2) (fun s e => (⟨[(0, w434), (1, .int .i64 a1), (2, w435), (6, .int .i64 20), (7, .int .i64 s.1), (8, .int .i64 s.2)], [], [], [((Ty.int .i64).fact s.1 [.int .i64 s.1]), ((Ty.int .i64).fact s.2 [.int .i64 s.2]), ((Ty.slice ty69).fact a0 [w434]), ((Ty.int .i64).fact a1 [.int .i64 a1]), (FnOk Tryz.prog w435 (sp116 p2))]⟩ : St)) (fun _ => rfl) _ (0, 20) () hl440 ⟨⟨rfl, ⟨rfl, ⟨rfl, ⟨rfl, ⟨rfl, ⟨rfl, trivial⟩⟩⟩⟩⟩⟩, ⟨[], rfl⟩, ⟨[], rfl⟩, ⟨[1, 0, 2, 3, 4], rfl⟩⟩ ?_
    clear hr hl440
    intro n s hr e
    obtain ⟨x437, x438⟩ := s
    skip
    change m110_l1 a0 a1 p2 (n + 1) x437 x438 = some x439 at hr
    change At _ _ (⟨[(0, w434), (1, .int .i64 a1), (2, w435), (6, .int .i64 20), (7, .int .i64 x437), (8, .int .i64 x438)], [], [], [((Ty.int .i64).fact x437 [.int .i64 x437]), ((Ty.int .i64).fact x438 [.int .i64 x438]), ((Ty.slice ty69).fact a0 [w434]), ((Ty.int .i64).fact a1 [.int .i64 a1]), (FnOk Tryz.prog w435 (sp116 p2))]⟩ : St) _
    rw [m110_l1] at hr
    refine at_inv 0 rfl (fun l442 => ?_)
    replace l442 : (-9223372036854775808) ≤ x437 ∧ x437 ≤ 9223372036854775807 := l442
    refine at_inv 1 rfl (fun l443 => ?_)
    replace l443 : (-9223372036854775808) ≤ x438 ∧ x438 ≤ 9223372036854775807 := l443
    refine at_seq ?_
    refine at_seq ?_
    refine at_region ?_
    refine at_lt (lt_move rfl) rfl ?_
    refine at_lt (lt_move rfl) rfl ?_
    refine at_lt (lt_leq rfl rfl) rfl ?_
    refine at_nil ?_
    refine at_then ?_
    by_cases h444 : x438 ≤ a1
    · replace hr := ipos h444 hr
      refine at_true rfl (decide_eq_true (by first | exact h444 | omega)) ?_
      refine at_skip ?_
      refine at_then ?_
      refine at_block ?_
      refine at_seq ?_
      refine at_region ?_
      refine at_lt (lt_move rfl) rfl ?_
      refine at_lt (lt_move rfl) rfl ?_
      refine at_lt (lt_move rfl) rfl ?_
      refine at_lt (lt_move rfl) rfl ?_
      replace hr := obind hr
      obtain ⟨x445, h446, hr⟩ := hr
      refine at_hv rfl ?_
      refine hv_call0 [2, 0, 1, 4] (f143_spec h446) rfl rfl rfl rfl ?_
      rintro _ _ ⟨rfl, rfl⟩
      refine at_nil ?_
      refine at_then ?_
      refine at_seq ?_
      refine at_region ?_
      refine at_lt (lt_move rfl) rfl ?_
      refine at_lt (lt_assign rfl) rfl ?_
      refine at_nil ?_
      refine at_then ?_
      refine at_region ?_
      refine at_lt (lt_move rfl) rfl ?_
      refine at_lt (lt_move rfl) rfl ?_
      refine at_lt (lt_addw rfl rfl) rfl ?_
      refine at_lt (lt_assign rfl) rfl ?_
      refine at_nil ?_
      refine at_in ?_
      refine at_int .i64 (IntKind.i64.wrap (x438 + 20)) (wrap_bd .i64 _) ?_
      exact at_again (σ := (Int × Int)) (V := Unit) (lp := fun n s => m110_l1 a0 a1 p2 n s.1 s.2) (S := fun s e => (⟨[(0, w434), (1, .int .i64 a1), (2, w435), (6, .int .i64 20), (7, .int .i64 s.1), (8, .int .i64 s.2)], [], [], [((Ty.int .i64).fact s.1 [.int .i64 s.1]), ((Ty.int .i64).fact s.2 [.int .i64 s.2]), ((Ty.slice ty69).fact a0 [w434]), ((Ty.int .i64).fact a1 [.int .i64 a1]), (FnOk Tryz.prog w435 (sp116 p2))]⟩ : St)) (x438, IntKind.i64.wrap (x438 + 20)) () hr ⟨⟨rfl, ⟨rfl, ⟨rfl, ⟨rfl, ⟨rfl, ⟨rfl, trivial⟩⟩⟩⟩⟩⟩, ⟨[], rfl⟩, ⟨[], rfl⟩, ⟨[2, 0, 3, 4, 5], rfl⟩⟩
    · replace hr := ineg h444 hr
      refine at_false rfl (decide_eq_false (by first | exact h444 | omega)) ?_
      refine at_exit ?_
      refine at_then_exit ?_
      refine at_then_exit ?_
      refine at_in_exit ?_
      have hq := oinj hr
      clear hr
      subst hq
      exact at_leaf () ⟨⟨rfl, ⟨rfl, ⟨rfl, ⟨rfl, ⟨rfl, trivial⟩⟩⟩⟩⟩, ⟨[], rfl⟩, ⟨[], rfl⟩, ⟨[0, 2, 3, 4], rfl⟩⟩
  · clear hl440
    intro e
    change At _ _ (⟨[(0, w434), (1, .int .i64 a1), (2, w435), (6, .int .i64 20), (7, .int .i64 x439)], [], [], [((Ty.int .i64).fact x439 [.int .i64 x439]), ((Ty.slice ty69).fact a0 [w434]), ((Ty.int .i64).fact a1 [.int .i64 a1]), (FnOk Tryz.prog w435 (sp116 p2))]⟩ : St) _
    refine at_inv 0 rfl (fun l447 => ?_)
    replace l447 : (-9223372036854775808) ≤ x439 ∧ x439 ≤ 9223372036854775807 := l447
    refine at_then ?_
    refine at_seq ?_
    refine at_region ?_
    refine at_lt (lt_move rfl) rfl ?_
    refine at_lt (lt_move rfl) rfl ?_
    refine at_lt (lt_move rfl) rfl ?_
    refine at_lt (lt_move rfl) rfl ?_
    replace hr := obind hr
    obtain ⟨x448, h449, hr⟩ := hr
    refine at_hv rfl ?_
    refine hv_call0 [1, 0, 2, 3] (f143_spec h449) rfl rfl rfl rfl ?_
    rintro _ _ ⟨rfl, rfl⟩
    refine at_nil ?_
    refine at_then ?_
    refine at_int .i64 20 (by simp only [lo, hi]; omega) ?_
    replace hr := obind hr
    obtain ⟨r451, hl452, hr⟩ := hr
    refine at_cut (V := Unit) (fun e => (⟨[], [], [], []⟩ : St)) ?_ ?_
    · refine at_block ?_
      refine at_loopW (σ := Int) (V := Unit) (r := r451) (fun n s => m110_l2 a1 n s) (fun s e => (⟨[(0, w434), (1, .int .i64 a1), (2, w435), (6, .int .i64 s)], [], [], [((Ty.int .i64).fact s [.int .i64 s]), ((Ty.slice ty69).fact a0 [w434]), ((Ty.int .i64).fact a1 [.int .i64 a1]), (FnOk Tryz.prog w435 (sp116 p2))]⟩ : St)) (fun _ => rfl) _ 20 () hl452 ⟨⟨rfl, ⟨rfl, ⟨rfl, ⟨rfl, trivial⟩⟩⟩⟩, ⟨[], rfl⟩, ⟨[], rfl⟩, ⟨[0, 2, 3, 4], rfl⟩⟩ ?_
      clear hr hl452
      intro n x450 hr e
      skip
      skip
      change m110_l2 a1 (n + 1) x450 = some r451 at hr
      change At _ _ (⟨[(0, w434), (1, .int .i64 a1), (2, w435), (6, .int .i64 x450)], [], [], [((Ty.int .i64).fact x450 [.int .i64 x450]), ((Ty.slice ty69).fact a0 [w434]), ((Ty.int .i64).fact a1 [.int .i64 a1]), (FnOk Tryz.prog w435 (sp116 p2))]⟩ : St) _
      rw [m110_l2] at hr
      refine at_inv 0 rfl (fun l454 => ?_)
      replace l454 : (-9223372036854775808) ≤ x450 ∧ x450 ≤ 9223372036854775807 := l454
      refine at_seq ?_
      refine at_seq ?_
      refine at_region ?_
      refine at_lt (lt_move rfl) rfl ?_
      refine at_lt (lt_move rfl) rfl ?_
      refine at_lt (lt_lss rfl rfl) rfl ?_
      refine at_nil ?_
      refine at_then ?_
      by_cases h455 : x450 < a1
      · replace hr := ipos h455 hr
        refine at_true rfl (decide_eq_true (by first | exact h455 | omega)) ?_
        refine at_skip ?_
        refine at_then ?_
        refine at_block ?_
        refine at_seq ?_
        refine at_region ?_
        refine at_lt (lt_move rfl) rfl ?_
        refine at_lt (lt_mulw rfl rfl) rfl ?_
        refine at_lt (lt_assign rfl) rfl ?_
        refine at_lt (lt_assign rfl) rfl ?_
        refine at_nil ?_
        refine at_then ?_
        refine at_seq ?_
        refine at_int .i64 0 (by simp only [lo, hi]; omega) ?_
        refine at_int .i64 (IntKind.i64.wrap (2 * x450)) (wrap_bd .i64 _) ?_
        replace hr := obind hr
        obtain ⟨x458, hl459, hr⟩ := hr
        refine at_cut (V := Unit) (fun e => (⟨[(0, w434), (1, .int .i64 a1), (2, w435), (6, .int .i64 x450), (7, .int .i64 x458)], [], [], [((Ty.int .i64).fact x458 [.int .i64 x458]), ((Ty.slice ty69).fact a0 [w434]), ((Ty.int .i64).fact a1 [.int .i64 a1]), (FnOk Tryz.prog w435 (sp116 p2)), ((Ty.int .i64).fact x450 [.int .i64 x450])]⟩ : St)) ?_ ?_
        · refine at_block ?_
          refine at_loopW (σ := (Int × Int)) (V := Unit) (r := x458) (fun n s => m110_l3 a1 n s.1 s.2) (fun s e => (⟨[(0, w434), (1, .int .i64 a1), (2, w435), (6, .int .i64 x450), (7, .int .i64 s.1), (8, .int .i64 s.2)], [], [], [((Ty.int .i64).fact s.1 [.int .i64 s.1]), ((Ty.int .i64).fact s.2 [.int .i64 s.2]), ((Ty.slice ty69).fact a0 [w434]), ((Ty.int .i64).fact a1 [.int .i64 a1]), (FnOk Tryz.prog w435 (sp116 p2)), ((Ty.int .i64).fact x450 [.int .i64 x450])]⟩ : St)) (fun _ => rfl) _ (0, IntKind.i64.wrap (2 * x450)) () hl459 ⟨⟨rfl, ⟨rfl, ⟨rfl, ⟨rfl, ⟨rfl, ⟨rfl, trivial⟩⟩⟩⟩⟩⟩, ⟨[], rfl⟩, ⟨[], rfl⟩, ⟨[1, 0, 3, 4, 5, 2], rfl⟩⟩ ?_
          clear hr hl459
          intro n s hr e
          obtain ⟨x456, x457⟩ := s
          skip
          change m110_l3 a1 (n + 1) x456 x457 = some x458 at hr
          change At _ _ (⟨[(0, w434), (1, .int .i64 a1), (2, w435), (6, .int .i64 x450), (7, .int .i64 x456), (8, .int .i64 x457)], [], [], [((Ty.int .i64).fact x456 [.int .i64 x456]), ((Ty.int .i64).fact x457 [.int .i64 x457]), ((Ty.slice ty69).fact a0 [w434]), ((Ty.int .i64).fact a1 [.int .i64 a1]), (FnOk Tryz.prog w435 (sp116 p2)), ((Ty.int .i64).fact x450 [.int .i64 x450])]⟩ : St) _
          rw [m110_l3] at hr
          refine at_inv 0 rfl (fun l461 => ?_)
          replace l461 : (-9223372036854775808) ≤ x456 ∧ x456 ≤ 9223372036854775807 := l461
          refine at_inv 1 rfl (fun l462 => ?_)
          replace l462 : (-9223372036854775808) ≤ x457 ∧ x457 ≤ 9223372036854775807 := l462
          refine at_seq ?_
          refine at_seq ?_
          refine at_region ?_
          refine at_lt (lt_move rfl) rfl ?_
          refine at_lt (lt_move rfl) rfl ?_
          refine at_lt (lt_leq rfl rfl) rfl ?_
          refine at_nil ?_
          refine at_then ?_
          by_cases h463 : x457 ≤ a1
          · replace hr := ipos h463 hr
            cases hr
          · replace hr := ineg h463 hr
            refine at_false rfl (decide_eq_false (by first | exact h463 | omega)) ?_
            refine at_exit ?_
            refine at_then_exit ?_
            refine at_then_exit ?_
            refine at_in_exit ?_
            have hq := oinj hr
            clear hr
            subst hq
            exact at_leaf () ⟨⟨rfl, ⟨rfl, ⟨rfl, ⟨rfl, ⟨rfl, trivial⟩⟩⟩⟩⟩, ⟨[], rfl⟩, ⟨[], rfl⟩, ⟨[0, 2, 3, 4, 5], rfl⟩⟩
        · clear hl459
          intro e
          change At _ _ (⟨[(0, w434), (1, .int .i64 a1), (2, w435), (6, .int .i64 x450), (7, .int .i64 x458)], [], [], [((Ty.int .i64).fact x458 [.int .i64 x458]), ((Ty.slice ty69).fact a0 [w434]), ((Ty.int .i64).fact a1 [.int .i64 a1]), (FnOk Tryz.prog w435 (sp116 p2)), ((Ty.int .i64).fact x450 [.int .i64 x450])]⟩ : St) _
          refine at_inv 0 rfl (fun l466 => ?_)
          replace l466 : (-9223372036854775808) ≤ x458 ∧ x458 ≤ 9223372036854775807 := l466
          refine at_then ?_
          refine at_seq ?_
          refine at_seq ?_
          refine at_region ?_
          refine at_lt (lt_move rfl) rfl ?_
          refine at_lt (lt_move rfl) rfl ?_
          refine at_lt (lt_addw rfl rfl) rfl ?_
          refine at_lt (lt_assign rfl) rfl ?_
          refine at_nil ?_
          refine at_then ?_
          refine at_seq ?_
          refine at_region ?_
          refine at_lt (lt_move rfl) rfl ?_
          refine at_lt (lt_move rfl) rfl ?_
          refine at_lt (lt_lss rfl rfl) rfl ?_
          refine at_nil ?_
          refine at_then ?_
          replace hr := obind hr
          obtain ⟨r467, hc468, hr⟩ := hr
          refine at_cut (V := Unit) (fun e => (⟨[(0, w434), (1, .int .i64 a1), (2, w435), (6, .int .i64 x450)], [], [], [((Ty.slice ty69).fact a0 [w434]), ((Ty.int .i64).fact a1 [.int .i64 a1]), (FnOk Tryz.prog w435 (sp116 p2)), ((Ty.int .i64).fact x450 [.int .i64 x450])]⟩ : St)) ?_ ?_
          · clear hr
            have hr := hc468
            clear hc468
            by_cases h469 : IntKind.i64.wrap (x458 + x450) < a1
            · replace hr := ipos h469 hr
              cases hr
            · replace hr := ineg h469 hr
              refine at_false rfl (decide_eq_false (by first | exact h469 | omega)) ?_
              refine at_skip ?_
              have hq := oinj hr
              clear hr
              subst hq
              exact at_leaf () ⟨⟨rfl, ⟨rfl, ⟨rfl, ⟨rfl, trivial⟩⟩⟩⟩, ⟨[], rfl⟩, ⟨[], rfl⟩, ⟨[1, 2, 3, 4], rfl⟩⟩
          · clear hc468
            intro _
            change At _ _ (⟨[(0, w434), (1, .int .i64 a1), (2, w435), (6, .int .i64 x450)], [], [], [((Ty.slice ty69).fact a0 [w434]), ((Ty.int .i64).fact a1 [.int .i64 a1]), (FnOk Tryz.prog w435 (sp116 p2)), ((Ty.int .i64).fact x450 [.int .i64 x450])]⟩ : St) _
            refine at_then ?_
            refine at_region ?_
            refine at_lt (lt_move rfl) rfl ?_
            refine at_lt (lt_mulw rfl rfl) rfl ?_
            refine at_lt (lt_assign rfl) rfl ?_
            refine at_nil ?_
            refine at_in ?_
            refine at_int .i64 (IntKind.i64.wrap (x450 * 2)) (wrap_bd .i64 _) ?_
            exact at_again (σ := Int) (V := Unit) (lp := fun n s => m110_l2 a1 n s) (S := fun s e => (⟨[(0, w434), (1, .int .i64 a1), (2, w435), (6, .int .i64 s)], [], [], [((Ty.int .i64).fact s [.int .i64 s]), ((Ty.slice ty69).fact a0 [w434]), ((Ty.int .i64).fact a1 [.int .i64 a1]), (FnOk Tryz.prog w435 (sp116 p2))]⟩ : St)) (IntKind.i64.wrap (x450 * 2)) () hr ⟨⟨rfl, ⟨rfl, ⟨rfl, ⟨rfl, trivial⟩⟩⟩⟩, ⟨[], rfl⟩, ⟨[], rfl⟩, ⟨[0, 1, 2, 3], rfl⟩⟩
      · replace hr := ineg h455 hr
        refine at_false rfl (decide_eq_false (by first | exact h455 | omega)) ?_
        refine at_exit ?_
        refine at_then_exit ?_
        refine at_then_exit ?_
        refine at_in_exit ?_
        have hq := oinj hr
        clear hr
        subst hq
        exact at_leaf () ⟨trivial, ⟨[], rfl⟩, ⟨[], rfl⟩, ⟨[], rfl⟩⟩
    · clear hl452
      intro e
      change At _ _ (⟨[], [], [], []⟩ : St) _
      have hq := oinj hr
      clear hr
      subst hq
      exact at_return (.tuple #[]) [] hS Tryz.results110 (.nil) rfl rfl ⟨rfl, rfl⟩
/-! 76 slices.SortStableFunc[[]bookplate/api.Field,bookplate/api.Field] -/
def m76 (a0 : (List D_api_Field)) (p1 : (D_api_Field → D_api_Field → Option Int)) : Option Unit :=
  (m110 a0 (a0.length : Int) p1).bind fun x476 =>
  some ()
def post76 (r : Unit) (v : Value) (fs : List Fact) : Prop := v = .tuple #[] ∧ fs = []
theorem en76 : Enters Tryz.prog 76 := ⟨_, Tryz.func76, by kernel_rfl, rfl⟩
theorem f76_spec {a0 : (List D_api_Field)} {p1 : (D_api_Field → D_api_Field → Option Int)} {w472 : Value} {w473 : Value} {r : Unit} (hr : m76 a0 p1 = some r) : Spec Tryz.prog 76 [w472, w473] [((Ty.slice ty69).fact a0 [w472]), (FnOk Tryz.prog w473 (sp116 p1))] (post76 r) := by
  refine spec_start (N := 9) Tryz.func76 (by kernel_rfl) rfl rfl rfl ?_
  intro g hS
  unfold m76 at hr
  refine at_region ?_
  refine at_lt (lt_move rfl) rfl ?_
  refine at_lt (lt_move rfl) rfl ?_
  refine at_inv 0 rfl (fun i474 => ?_)
  have l475 := slice_len i474
  refine at_lt (lt_flen 0 rfl rfl und23) rfl ?_
  refine at_lt (lt_move rfl) rfl ?_
  replace hr := obind hr
  obtain ⟨x476, h477, hr⟩ := hr
  refine at_int .i64 (a0.length : Int) (by simp only [lo, hi]; omega) ?_
  refine at_hv rfl ?_
  refine hv_call0 [1, 0, 2] (f110_spec h477) rfl rfl rfl rfl ?_
  rintro _ _ ⟨rfl, rfl⟩
  refine at_nil ?_
  have hq := oinj hr
  clear hr
  subst hq
  exact at_return (.tuple #[]) [] hS Tryz.results76 (.nil) rfl rfl ⟨rfl, rfl⟩
/-! 108 cmp.isNaN[string] -/
def m108 (a0 : Str) : Option Bool :=
  some (!decide (a0 = a0))
def post108 (r : Bool) (v : Value) (fs : List Fact) : Prop := v = .bool r ∧ fs = []
theorem en108 : Enters Tryz.prog 108 := ⟨_, Tryz.func108, by kernel_rfl, rfl⟩
theorem f108_spec {a0 : Str} {r : Bool} (hr : m108 a0 = some r) : Spec Tryz.prog 108 [str a0] [(Ty.str.fact a0 [str a0])] (post108 r) := by
  refine spec_start (N := 6) Tryz.func108 (by kernel_rfl) rfl rfl rfl ?_
  intro g hS
  unfold m108 at hr
  refine at_seq ?_
  refine at_region ?_
  refine at_lt (lt_assign rfl) rfl ?_
  refine at_nil ?_
  refine at_then ?_
  refine at_seq ?_
  refine at_region ?_
  refine at_lt (lt_move rfl) rfl ?_
  refine at_lt (lt_move rfl) rfl ?_
  refine at_lt (lt_sneq rfl rfl) rfl ?_
  refine at_lt (lt_assign rfl) rfl ?_
  refine at_nil ?_
  refine at_then ?_
  refine at_ret ?_
  have hq := oinj hr
  clear hr
  subst hq
  exact at_return (.bool (!decide (a0 = a0))) [] hS Tryz.results108 (.cons (.tmp rfl) .nil) rfl rfl ⟨rfl, rfl⟩
/-! 71 cmp.Compare[string] -/
def m71 (a0 : Str) (a1 : Str) : Option Int :=
  (m108 a0).bind fun x478 =>
  (m108 a1).bind fun x480 =>
  if x478 = true then
    if x480 = true then
      some 0
    else
      some (-1)
  else
    if x480 = true then
      some 1
    else
      if (Op.bytesLess a0 a1) = true then
        some (-1)
      else
        if (Op.bytesLess a1 a0) = true then
          some 1
        else
          some 0
def post71 (r : Int) (v : Value) (fs : List Fact) : Prop := v = .int .i64 r ∧ fs = [((Ty.int .i64).fact r [.int .i64 r])]
theorem en71 : Enters Tryz.prog 71 := ⟨_, Tryz.func71, by kernel_rfl, rfl⟩
theorem f71_spec {a0 : Str} {a1 : Str} {r : Int} (hr : m71 a0 a1 = some r) : Spec Tryz.prog 71 [str a0, str a1] [(Ty.str.fact a0 [str a0]), (Ty.str.fact a1 [str a1])] (post71 r) := by
  refine spec_start (N := 20) Tryz.func71 (by kernel_rfl) rfl rfl rfl ?_
  intro g hS
  unfold m71 at hr
  refine at_seq ?_
  refine at_region ?_
  refine at_lt (lt_assign rfl) rfl ?_
  refine at_nil ?_
  refine at_then ?_
  refine at_seq ?_
  refine at_region ?_
  refine at_lt (lt_move rfl) rfl ?_
  replace hr := obind hr
  obtain ⟨x478, h479, hr⟩ := hr
  refine at_hv rfl ?_
  refine hv_call0 [0] (f108_spec h479) rfl rfl rfl rfl ?_
  rintro _ _ ⟨rfl, rfl⟩
  refine at_lt (lt_assign rfl) rfl ?_
  refine at_nil ?_
  refine at_then ?_
  refine at_seq ?_
  refine at_region ?_
  refine at_lt (lt_move rfl) rfl ?_
  replace hr := obind hr
  obtain ⟨x480, h481, hr⟩ := hr
  refine at_hv rfl ?_
  refine hv_call0 [1] (f108_spec h481) rfl rfl rfl rfl ?_
  rintro _ _ ⟨rfl, rfl⟩
  refine at_lt (lt_assign rfl) rfl ?_
  refine at_nil ?_
  refine at_then ?_
  refine at_seq ?_
  refine at_seq ?_
  refine at_region ?_
  refine at_lt (lt_move rfl) rfl ?_
  refine at_nil ?_
  refine at_then ?_
  by_cases h482 : x478 = true
  · replace hr := ipos h482 hr
    refine at_true rfl h482 ?_
    refine at_seq ?_
    refine at_seq ?_
    refine at_region ?_
    refine at_lt (lt_move rfl) rfl ?_
    refine at_nil ?_
    refine at_then ?_
    by_cases h483 : x480 = true
    · replace hr := ipos h483 hr
      refine at_true rfl h483 ?_
      refine at_seq ?_
      refine at_region ?_
      refine at_lt (lt_assign rfl) rfl ?_
      refine at_nil ?_
      refine at_then ?_
      refine at_ret ?_
      have hq := oinj hr
      clear hr
      subst hq
      refine at_then_ret ?_
      refine at_then_ret ?_
      refine at_int .i64 0 (by simp only [lo, hi]; omega) ?_
      exact at_return (.int .i64 0) [0] hS Tryz.results71 (.cons (.tmp rfl) .nil) rfl rfl ⟨rfl, rfl⟩
    · replace hr := ineg h483 hr
      refine at_false rfl (bf h483) ?_
      refine at_skip ?_
      refine at_then ?_
      refine at_seq ?_
      refine at_region ?_
      refine at_lt (lt_assign rfl) rfl ?_
      refine at_nil ?_
      refine at_then ?_
      refine at_ret ?_
      have hq := oinj hr
      clear hr
      subst hq
      refine at_then_ret ?_
      refine at_int .i64 (-1) (by simp only [lo, hi]; omega) ?_
      exact at_return (.int .i64 (-1)) [0] hS Tryz.results71 (.cons (.tmp rfl) .nil) rfl rfl ⟨rfl, rfl⟩
  · replace hr := ineg h482 hr
    refine at_false rfl (bf h482) ?_
    refine at_skip ?_
    refine at_then ?_
    refine at_seq ?_
    refine at_seq ?_
    refine at_region ?_
    refine at_lt (lt_move rfl) rfl ?_
    refine at_nil ?_
    refine at_then ?_
    by_cases h484 : x480 = true
    · replace hr := ipos h484 hr
      refine at_true rfl h484 ?_
      refine at_seq ?_
      refine at_region ?_
      refine at_lt (lt_assign rfl) rfl ?_
      refine at_nil ?_
      refine at_then ?_
      refine at_ret ?_
      have hq := oinj hr
      clear hr
      subst hq
      refine at_then_ret ?_
      refine at_int .i64 1 (by simp only [lo, hi]; omega) ?_
      exact at_return (.int .i64 1) [0] hS Tryz.results71 (.cons (.tmp rfl) .nil) rfl rfl ⟨rfl, rfl⟩
    · replace hr := ineg h484 hr
      refine at_false rfl (bf h484) ?_
      refine at_skip ?_
      refine at_then ?_
      refine at_seq ?_
      refine at_seq ?_
      refine at_region ?_
      refine at_lt (lt_move rfl) rfl ?_
      refine at_lt (lt_move rfl) rfl ?_
      refine at_lt (lt_slss rfl rfl) rfl ?_
      refine at_nil ?_
      refine at_then ?_
      by_cases h485 : (Op.bytesLess a0 a1) = true
      · replace hr := ipos h485 hr
        refine at_true rfl h485 ?_
        refine at_seq ?_
        refine at_region ?_
        refine at_lt (lt_assign rfl) rfl ?_
        refine at_nil ?_
        refine at_then ?_
        refine at_ret ?_
        have hq := oinj hr
        clear hr
        subst hq
        refine at_then_ret ?_
        refine at_int .i64 (-1) (by simp only [lo, hi]; omega) ?_
        exact at_return (.int .i64 (-1)) [0] hS Tryz.results71 (.cons (.tmp rfl) .nil) rfl rfl ⟨rfl, rfl⟩
      · replace hr := ineg h485 hr
        refine at_false rfl (bf h485) ?_
        refine at_skip ?_
        refine at_then ?_
        refine at_seq ?_
        refine at_seq ?_
        refine at_region ?_
        refine at_lt (lt_move rfl) rfl ?_
        refine at_lt (lt_move rfl) rfl ?_
        refine at_lt (lt_sgtr rfl rfl) rfl ?_
        refine at_nil ?_
        refine at_then ?_
        by_cases h486 : (Op.bytesLess a1 a0) = true
        · replace hr := ipos h486 hr
          refine at_true rfl h486 ?_
          refine at_seq ?_
          refine at_region ?_
          refine at_lt (lt_assign rfl) rfl ?_
          refine at_nil ?_
          refine at_then ?_
          refine at_ret ?_
          have hq := oinj hr
          clear hr
          subst hq
          refine at_then_ret ?_
          refine at_int .i64 1 (by simp only [lo, hi]; omega) ?_
          exact at_return (.int .i64 1) [0] hS Tryz.results71 (.cons (.tmp rfl) .nil) rfl rfl ⟨rfl, rfl⟩
        · replace hr := ineg h486 hr
          refine at_false rfl (bf h486) ?_
          refine at_skip ?_
          refine at_then ?_
          refine at_seq ?_
          refine at_region ?_
          refine at_lt (lt_assign rfl) rfl ?_
          refine at_nil ?_
          refine at_then ?_
          refine at_ret ?_
          have hq := oinj hr
          clear hr
          subst hq
          refine at_int .i64 0 (by simp only [lo, hi]; omega) ?_
          exact at_return (.int .i64 0) [0] hS Tryz.results71 (.cons (.tmp rfl) .nil) rfl rfl ⟨rfl, rfl⟩
/-! 77 bookplate/crosswalk.convert$1 -/
def m77 (a0 : D_api_Field) (a1 : D_api_Field) : Option Int :=
  (m71 a0.Tag a1.Tag).bind fun x491 =>
  some x491
def post77 (r : Int) (v : Value) (fs : List Fact) : Prop := v = .int .i64 r ∧ fs = [((Ty.int .i64).fact r [.int .i64 r])]
theorem en77 : Enters Tryz.prog 77 := ⟨_, Tryz.func77, by kernel_rfl, rfl⟩
theorem f77_spec {a0 : D_api_Field} {a1 : D_api_Field} {s487 : Value} {s488 : Value} {r : Int} (hr : m77 a0 a1 = some r) : Spec Tryz.prog 77 [.agg #[str a0.Tag, .int .u8 (a0.Ind_0.toNat : Int), .int .u8 (a0.Ind_1.toNat : Int), s487], .agg #[str a1.Tag, .int .u8 (a1.Ind_0.toNat : Int), .int .u8 (a1.Ind_1.toNat : Int), s488]] [(ty69.fact a0 [str a0.Tag, .int .u8 (a0.Ind_0.toNat : Int), .int .u8 (a0.Ind_1.toNat : Int), s487]), (ty69.fact a1 [str a1.Tag, .int .u8 (a1.Ind_0.toNat : Int), .int .u8 (a1.Ind_1.toNat : Int), s488])] (post77 r) := by
  refine spec_start (N := 10) Tryz.func77 (by kernel_rfl) rfl rfl rfl ?_
  intro g hS
  unfold m77 at hr
  refine at_open (A := Unit) 0 rfl (fun _ => True) (fun _ => [(Ty.str.fact a0.Tag [str a0.Tag]), ((Ty.slice ty66).fact a0.Subs [s487])]) (fun F w h => ⟨(), trivial, ex69 h⟩) (fun _ _ => ?_)
  refine at_open (A := Unit) 3 rfl (fun _ => True) (fun _ => [(Ty.str.fact a1.Tag [str a1.Tag]), ((Ty.slice ty66).fact a1.Subs [s488])]) (fun F w h => ⟨(), trivial, ex69 h⟩) (fun _ _ => ?_)
  refine at_seq ?_
  refine at_region ?_
  refine at_hv rfl ?_
  refine hv_box (cs := [str a0.Tag, .int .u8 (a0.Ind_0.toNat : Int), .int .u8 (a0.Ind_1.toNat : Int), s487]) rfl rfl rfl (fun b489 => ?_)
  refine at_hv rfl ?_
  refine hv_box (cs := [str a1.Tag, .int .u8 (a1.Ind_0.toNat : Int), .int .u8 (a1.Ind_1.toNat : Int), s488]) rfl rfl rfl (fun b490 => ?_)
  refine at_lt (lt_assign rfl) rfl ?_
  refine at_nil ?_
  refine at_then ?_
  refine at_seq ?_
  refine at_region ?_
  refine at_lt (lt_fieldAddr 0 rfl fld69_0 rfl) rfl ?_
  refine at_lt (lt_load_box 1 rfl ti9 rfl rfl rfl rfl rfl) rfl ?_
  refine at_lt (lt_fieldAddr 0 rfl fld69_0 rfl) rfl ?_
  refine at_lt (lt_load_box 0 rfl ti9 rfl rfl rfl rfl rfl) rfl ?_
  replace hr := obind hr
  obtain ⟨x491, h492, hr⟩ := hr
  refine at_hv rfl ?_
  refine hv_call0 [2, 0] (f71_spec h492) rfl rfl rfl rfl ?_
  rintro _ _ ⟨rfl, rfl⟩
  refine at_inv 0 rfl (fun l493 => ?_)
  replace l493 : (-9223372036854775808) ≤ x491 ∧ x491 ≤ 9223372036854775807 := l493
  refine at_lt (lt_assign rfl) rfl ?_
  refine at_nil ?_
  refine at_then ?_
  refine at_ret ?_
  have hq := oinj hr
  clear hr
  subst hq
  exact at_return (.int .i64 x491) [0] hS Tryz.results77 (.cons (.tmp rfl) .nil) rfl rfl ⟨rfl, rfl⟩
/-! 41 bookplate/crosswalk.convert -/
def m41_l2 (p3 : (D_crosswalk_Entry → UInt8 → Option (UInt8 × Bool))) (x522 : D_api_Field) (x529 : (D_crosswalk_Entry × Str × Bool)) : Nat → Nat → (List D_api_Sub) → Option (List D_api_Sub)
  | 0, _, _ => none
  | k + 1, x537, x538 =>
    if x537 < x522.Subs.length then
      (x522.Subs[x537]?).bind fun x549 =>
      (p3 (⟨x529.1.From, x529.1.To, x529.1.Codes⟩ : D_crosswalk_Entry) x549.Code).bind fun x554 =>
      Option.bind (α := (List D_api_Sub)) (
        if x529.2.2 = true then
          if x554.2 = true then
            if x538.length + 1 ≤ 5864062014805 then
              some (x538 ++ [(⟨x554.1, x549.Value⟩ : D_api_Sub)])
            else none
          else
            some x538
        else
          some x538
      ) fun x556 =>
      m41_l2 p3 x522 x529 k (x537 + 1) x556
    else
      some x538
def m41_l1 (a1 : D_api_Record) (p2 : (Str → Option (D_crosswalk_Entry × Str × Bool))) (p3 : (D_crosswalk_Entry → UInt8 → Option (UInt8 × Bool))) : Nat → Nat → (List D_api_Field) → Option (List D_api_Field)
  | 0, _, _ => none
  | k + 1, x510, x511 =>
    if x510 < a1.Fields.length then
      (a1.Fields[x510]?).bind fun x522 =>
      (p2 x522.Tag).bind fun x529 =>
      (m41_l2 p3 x522 x529 (x522.Subs.length + 1) 0 ([] : (List D_api_Sub))).bind fun x542 =>
      Option.bind (α := (List D_api_Field)) (
        if 0 < x542.length then
          if x511.length + 1 ≤ 2932031007402 then
            some (x511 ++ [(⟨x529.2.1, x522.Ind_0, x522.Ind_1, x542⟩ : D_api_Field)])
          else none
        else
          some x511
      ) fun x570 =>
      m41_l1 a1 p2 p3 k (x510 + 1) x570
    else
      some x511
def m41 (a0 : (List D_crosswalk_Entry)) (a1 : D_api_Record) (p2 : (Str → Option (D_crosswalk_Entry × Str × Bool))) (p3 : (D_crosswalk_Entry → UInt8 → Option (UInt8 × Bool))) : Option (D_api_Record × Int) :=
  (m27 a0).bind fun x501 =>
  if x501 = true then
    (m59 (⟨a1.ID, a1.Fields⟩ : D_api_Record)).bind fun x504 =>
    if x504 = true then
      (m41_l1 a1 p2 p3 (a1.Fields.length + 1) 0 ([] : (List D_api_Field))).bind fun x515 =>
      if x515.length = 0 then
        some ((⟨0, ([] : (List D_api_Field))⟩ : D_api_Record), 9)
      else
        (m76 x515 m77).bind fun x586 =>
        some ((⟨a1.ID, x515⟩ : D_api_Record), 0)
    else
      some ((⟨0, ([] : (List D_api_Field))⟩ : D_api_Record), 1)
  else
    some ((⟨0, ([] : (List D_api_Field))⟩ : D_api_Record), 1)
def post41 (r : (D_api_Record × Int)) (v : Value) (fs : List Fact) : Prop := ∃ s592 : Value, v = .tuple #[.agg #[.int .i64 r.1.ID, s592], .int .i64 r.2] ∧ fs = [(ty25.fact r.1 [.int .i64 r.1.ID, s592]), ((Ty.int .i64).fact r.2 [.int .i64 r.2])]
theorem en41 : Enters Tryz.prog 41 := ⟨_, Tryz.func41, by kernel_rfl, rfl⟩
theorem f41_spec {a0 : (List D_crosswalk_Entry)} {a1 : D_api_Record} {p2 : (Str → Option (D_crosswalk_Entry × Str × Bool))} {p3 : (D_crosswalk_Entry → UInt8 → Option (UInt8 × Bool))} {w494 : Value} {s495 : Value} {w496 : Value} {w497 : Value} {r : (D_api_Record × Int)} (hr : m41 a0 a1 p2 p3 = some r) : Spec Tryz.prog 41 [w494, .agg #[.int .i64 a1.ID, s495], w496, w497] [((Ty.slice ty76).fact a0 [w494]), (ty25.fact a1 [.int .i64 a1.ID, s495]), (FnOk Tryz.prog w496 (sp79 p2)), (FnOk Tryz.prog w497 (sp80 p3))] (post41 r) := by
  refine spec_start (N := 101) Tryz.func41 (by kernel_rfl) rfl rfl rfl ?_
  intro g hS
  unfold m41 at hr
  refine at_open (A := Unit) 1 rfl (fun _ => True) (fun _ => [((Ty.int .i64).fact a1.ID [.int .i64 a1.ID]), ((Ty.slice ty69).fact a1.Fields [s495])]) (fun F w h => ⟨(), trivial, ex25 h⟩) (fun _ _ => ?_)
  refine at_inv 0 rfl (fun l498 => ?_)
  replace l498 : (-9223372036854775808) ≤ a1.ID ∧ a1.ID ≤ 9223372036854775807 := l498
  refine at_seq ?_
  refine at_region ?_
  refine at_hv rfl ?_
  refine hv_box (cs := [.int .i64 a1.ID, s495]) rfl rfl rfl (fun b499 => ?_)
  refine at_hv rfl ?_
  refine hv_alloc (cs := [.int .i64 0, (.slice none 0 0)]) ti25 rfl rfl (fun b500 => ?_)
  refine at_lt (lt_assign rfl) rfl ?_
  refine at_nil ?_
  refine at_then ?_
  refine at_seq ?_
  refine at_seq ?_
  refine at_region ?_
  refine at_lt (lt_move rfl) rfl ?_
  replace hr := obind hr
  obtain ⟨x501, h502, hr⟩ := hr
  refine at_hv rfl ?_
  refine hv_call0 [2] (f27_spec h502) rfl rfl rfl rfl ?_
  rintro _ _ ⟨rfl, rfl⟩
  refine at_lt (lt_not rfl) rfl ?_
  refine at_lt (lt_move rfl) rfl ?_
  by_cases h503 : x501 = true
  · replace hr := ipos h503 hr
    refine at_on rfl rfl (nt h503) ?_
    refine at_lt (lt_load_box 1 rfl ti25 rfl rfl rfl rfl rfl) rfl ?_
    replace hr := obind hr
    obtain ⟨x504, h505, hr⟩ := hr
    refine at_derive [0, 1] (ty25.fact (⟨a1.ID, a1.Fields⟩ : D_api_Record) [.int .i64 a1.ID, s495]) rfl (fun F w h => mk25 (x := (⟨a1.ID, a1.Fields⟩ : D_api_Record)) h) ?_
    refine at_on rfl rfl (nt h503) ?_
    refine at_hv rfl ?_
    refine hv_call0 [0] (f59_spec h505) rfl rfl rfl rfl ?_
    rintro _ _ ⟨rfl, rfl⟩
    refine at_on rfl rfl (nt h503) ?_
    refine at_lt (lt_not rfl) rfl ?_
    refine at_lt (lt_pick false rfl (nt h503) rfl) rfl ?_
    refine at_nil ?_
    refine at_then ?_
    by_cases h506 : x504 = true
    · replace hr := ipos h506 hr
      refine at_false rfl (nt h506) ?_
      refine at_skip ?_
      refine at_then ?_
      refine at_seq ?_
      refine at_region ?_
      refine at_lt (lt_fieldAddr 0 rfl fld25_0 rfl) rfl ?_
      refine at_lt (lt_load_box 1 rfl ti3 rfl rfl rfl rfl rfl) rfl ?_
      refine at_lt (lt_build (cs := [.int .i64 a1.ID, (.slice none 0 0)]) rfl ti25 pl25 rfl) rfl ?_
      refine at_hv rfl ?_
      refine hv_alloc (cs := [.int .i64 0, (.slice none 0 0)]) ti25 rfl rfl (fun b507 => ?_)
      refine at_hv rfl ?_
      refine hv_store_box 0 (cs' := [.int .i64 a1.ID, (.slice none 0 0)]) rfl rfl ti25 rfl rfl rfl rfl rfl ?_
      refine at_nil ?_
      refine at_then ?_
      refine at_seq ?_
      refine at_seq ?_
      refine at_region ?_
      refine at_lt (lt_fieldAddr 1 rfl fld25_1 rfl) rfl ?_
      refine at_lt (lt_load_box 2 rfl ti23 rfl rfl rfl rfl rfl) rfl ?_
      refine at_inv 2 rfl (fun i508 => ?_)
      have l509 := slice_len i508
      refine at_lt (lt_flen 2 rfl rfl und23) rfl ?_
      refine at_lt (lt_move rfl) rfl ?_
      refine at_nil ?_
      refine at_then ?_
      refine at_int .i64 0 (by simp only [lo, hi]; omega) ?_
      refine at_rownew none 69 4 ?_
      refine at_rownil ty69 ?_
      refine at_mkpure (q := (([] : (List D_api_Field)).length * ty69.bytes ≤ 140737488355328)) (by simp only [List.nil_append, List.cons_append, List.length_cons, List.length_nil, ty69_bytes] <;> omega) ?_
      replace hr := obind hr
      obtain ⟨x515, hl519, hr⟩ := hr
      refine at_cut (V := Value × Nat × (List Value)) (fun e => (⟨[(8, .pointer (some (Addr.add ⟨b500, 0, none⟩ 0))), (10, .pointer (some (Addr.add ⟨b507, 0, none⟩ 0)))], [⟨b507, [.int .i64 a1.ID, e.1], 25⟩, ⟨b500, [.int .i64 0, (.slice none 0 0)], 25⟩], [⟨e.1, 69, 4, e.2.1, e.2.2⟩], [(ty69.row x515 e.2.2), (pureF (x515.length * ty69.bytes ≤ 140737488355328)), ((Ty.int .i64).fact a1.ID [.int .i64 a1.ID])]⟩ : St)) ?_ ?_
      · refine at_block ?_
        refine at_loopW (σ := (Nat × (List D_api_Field))) (V := Value × Nat × (List Value)) (r := x515) (fun n s => m41_l1 a1 p2 p3 n s.1 s.2) (fun s e => (⟨[(2, w496), (3, w497), (8, .pointer (some (Addr.add ⟨b500, 0, none⟩ 0))), (10, .pointer (some (Addr.add ⟨b507, 0, none⟩ 0))), (34, s495), (35, .int .i64 (a1.Fields.length : Int)), (36, .int .i64 (s.1 : Int))], [⟨b507, [.int .i64 a1.ID, e.1], 25⟩, ⟨b500, [.int .i64 0, (.slice none 0 0)], 25⟩], [⟨e.1, 69, 4, e.2.1, e.2.2⟩], [((Ty.int .i64).fact (s.1 : Int) [.int .i64 (s.1 : Int)]), (ty69.row s.2 e.2.2), (pureF (s.2.length * ty69.bytes ≤ 140737488355328)), (FnOk Tryz.prog w496 (sp79 p2)), (FnOk Tryz.prog w497 (sp80 p3)), ((Ty.slice ty69).fact a1.Fields [s495]), ((Ty.int .i64).fact a1.ID [.int .i64 a1.ID])]⟩ : St)) (fun _ => rfl) _ (0, ([] : (List D_api_Field))) ((.slice none 0 0), 0, []) hl519 ⟨⟨rfl, ⟨rfl, ⟨rfl, ⟨rfl, ⟨rfl, ⟨rfl, ⟨rfl, trivial⟩⟩⟩⟩⟩⟩⟩, ⟨[true, true, false], rfl⟩, ⟨[true], rfl⟩, ⟨[2, 1, 0, 8, 9, 5, 4], rfl⟩⟩ ?_
        clear hr hl519
        intro n s hr e
        obtain ⟨x510, x511⟩ := s
        obtain ⟨v512, n513, i514⟩ := e
        change m41_l1 a1 p2 p3 (n + 1) x510 x511 = some x515 at hr
        change At _ _ (⟨[(2, w496), (3, w497), (8, .pointer (some (Addr.add ⟨b500, 0, none⟩ 0))), (10, .pointer (some (Addr.add ⟨b507, 0, none⟩ 0))), (34, s495), (35, .int .i64 (a1.Fields.length : Int)), (36, .int .i64 (x510 : Int))], [⟨b507, [.int .i64 a1.ID, v512], 25⟩, ⟨b500, [.int .i64 0, (.slice none 0 0)], 25⟩], [⟨v512, 69, 4, n513, i514⟩], [((Ty.int .i64).fact (x510 : Int) [.int .i64 (x510 : Int)]), (ty69.row x511 i514), (pureF (x511.length * ty69.bytes ≤ 140737488355328)), (FnOk Tryz.prog w496 (sp79 p2)), (FnOk Tryz.prog w497 (sp80 p3)), ((Ty.slice ty69).fact a1.Fields [s495]), ((Ty.int .i64).fact a1.ID [.int .i64 a1.ID])]⟩ : St) _
        rw [m41_l1] at hr
        refine at_seq ?_
        refine at_region ?_
        refine at_lt (lt_lss rfl rfl) rfl ?_
        refine at_nil ?_
        refine at_then ?_
        refine at_seq ?_
        by_cases h521 : x510 < a1.Fields.length
        · replace hr := ipos h521 hr
          refine at_true rfl (decide_eq_true (by omega)) ?_
          refine at_skip ?_
          refine at_then ?_
          refine at_seq ?_
          refine at_block ?_
          refine at_seq ?_
          refine at_region ?_
          replace hr := obind hr
          obtain ⟨x522, h523, hr⟩ := hr
          have := (List.getElem?_eq_some_iff.1 h523).1
          refine at_elem 5 rfl (nat_at' h523) (fun p525 ec pa526 => ?_)
          refine at_open (A := Value) 0 rfl _ _ (fun F w h => op69 h) ?_
          rintro s524 rfl
          refine at_lt (lt_idx rfl rfl pa526 und23 ti69) rfl ?_
          refine at_lt (lt_load_peek 3 rfl ti69 rfl rfl rfl rfl rfl) rfl ?_
          refine at_hv rfl ?_
          refine hv_alloc (cs := [str ([] : Str), .int .u8 0, .int .u8 0, (.slice none 0 0)]) ti69 rfl rfl (fun b527 => ?_)
          refine at_one 1 rfl (fun ho528 => ?_)
          refine at_hv rfl ?_
          refine hv_store_box 0 (cs' := [str x522.Tag, .int .u8 (x522.Ind_0.toNat : Int), .int .u8 (x522.Ind_1.toNat : Int), s524]) rfl rfl ti69 rfl rfl rfl rfl (allc rfl (allc rfl (allc rfl (allc ho528 rfl)))) ?_
          refine at_nil ?_
          refine at_then ?_
          refine at_seq ?_
          refine at_region ?_
          refine at_lt (lt_move rfl) rfl ?_
          refine at_lt (lt_fieldAddr 0 rfl fld69_0 rfl) rfl ?_
          refine at_lt (lt_load_box 0 rfl ti9 rfl rfl rfl rfl rfl) rfl ?_
          replace hr := obind hr
          obtain ⟨x529, h530, hr⟩ := hr
          refine at_hv rfl ?_
          refine hv_callf 7 [0] rfl rfl rfl ⟨x522.Tag, x529, h530, rfl, rfl, rfl⟩ rfl rfl ?_
          rintro _ _ ⟨s531, rfl, rfl⟩
          refine at_open (A := Unit) 0 rfl (fun _ => True) (fun _ => [(Ty.str.fact x529.1.From [str x529.1.From]), (Ty.str.fact x529.1.To [str x529.1.To]), ((Ty.slice ty82).fact x529.1.Codes [s531])]) (fun F w h => ⟨(), trivial, ex76 h⟩) (fun _ _ => ?_)
          refine at_lt (lt_move rfl) rfl ?_
          refine at_lt (lt_extract rfl rfl) rfl ?_
          refine at_lt (lt_extract rfl rfl) rfl ?_
          refine at_lt (lt_extract rfl rfl) rfl ?_
          refine at_hv rfl ?_
          refine hv_alloc (cs := [str ([] : Str), str ([] : Str), (.slice none 0 0)]) ti76 rfl rfl (fun b532 => ?_)
          refine at_one 2 rfl (fun ho533 => ?_)
          refine at_hv rfl ?_
          refine hv_store_box 0 (cs' := [str x529.1.From, str x529.1.To, s531]) rfl rfl ti76 rfl rfl rfl rfl (allc rfl (allc rfl (allc ho533 rfl))) ?_
          refine at_lt (lt_assign rfl) rfl ?_
          refine at_lt (lt_assign rfl) rfl ?_
          refine at_nil ?_
          refine at_then ?_
          refine at_seq ?_
          refine at_region ?_
          refine at_lt (lt_move rfl) rfl ?_
          refine at_lt (lt_fieldAddr 1 rfl fld69_1 rfl) rfl ?_
          refine at_lt (lt_load_box 1 rfl ti64 rfl rfl rfl rfl rfl) rfl ?_
          refine at_lt (lt_build (cs := [str x529.2.1, .int .u8 (x522.Ind_0.toNat : Int), .int .u8 (x522.Ind_1.toNat : Int), (.slice none 0 0)]) rfl ti69 pl69 rfl) rfl ?_
          refine at_hv rfl ?_
          refine hv_alloc (cs := [str ([] : Str), .int .u8 0, .int .u8 0, (.slice none 0 0)]) ti69 rfl rfl (fun b534 => ?_)
          refine at_hv rfl ?_
          refine hv_store_box 0 (cs' := [str x529.2.1, .int .u8 (x522.Ind_0.toNat : Int), .int .u8 (x522.Ind_1.toNat : Int), (.slice none 0 0)]) rfl rfl ti69 rfl rfl rfl rfl rfl ?_
          refine at_nil ?_
          refine at_then ?_
          refine at_seq ?_
          refine at_seq ?_
          refine at_region ?_
          refine at_lt (lt_fieldAddr 3 rfl fld69_2 rfl) rfl ?_
          refine at_lt (lt_load_box 2 rfl ti67 rfl rfl rfl rfl rfl) rfl ?_
          refine at_inv 6 rfl (fun i535 => ?_)
          have l536 := slice_len i535
          refine at_lt (lt_flen 6 rfl rfl und67) rfl ?_
          refine at_lt (lt_move rfl) rfl ?_
          refine at_nil ?_
          refine at_then ?_
          refine at_int .i64 0 (by simp only [lo, hi]; omega) ?_
          refine at_rownew none 66 2 ?_
          refine at_rownil ty66 ?_
          refine at_mkpure (q := (([] : (List D_api_Sub)).length * ty66.bytes ≤ 140737488355328)) (by simp only [List.nil_append, List.cons_append, List.length_cons, List.length_nil, ty66_bytes] <;> omega) ?_
          replace hr := obind hr
          obtain ⟨x542, hl546, hr⟩ := hr
          refine at_cut (V := Value × Nat × (List Value)) (fun e => (⟨[(2, w496), (3, w497), (8, .pointer (some (Addr.add ⟨b500, 0, none⟩ 0))), (10, .pointer (some (Addr.add ⟨b507, 0, none⟩ 0))), (16, .pointer (some (Addr.add ⟨b534, 0, none⟩ 0))), (34, s495), (35, .int .i64 (a1.Fields.length : Int)), (36, .int .i64 (x510 : Int))], [⟨b534, [str x529.2.1, .int .u8 (x522.Ind_0.toNat : Int), .int .u8 (x522.Ind_1.toNat : Int), e.1], 69⟩, ⟨b507, [.int .i64 a1.ID, v512], 25⟩, ⟨b500, [.int .i64 0, (.slice none 0 0)], 25⟩], [⟨e.1, 66, 2, e.2.1, e.2.2⟩, ⟨v512, 69, 4, n513, i514⟩], [(ty66.row x542 e.2.2), (pureF (x542.length * ty66.bytes ≤ 140737488355328)), (FnOk Tryz.prog w496 (sp79 p2)), (FnOk Tryz.prog w497 (sp80 p3)), ((Ty.slice ty69).fact a1.Fields [s495]), ((Ty.int .i64).fact (x510 : Int) [.int .i64 (x510 : Int)]), (Ty.str.fact x529.2.1 [str x529.2.1]), ((Ty.int .i64).fact a1.ID [.int .i64 a1.ID]), (ty69.row x511 i514), (pureF (x511.length * ty69.bytes ≤ 140737488355328))]⟩ : St)) ?_ ?_
          · refine at_block ?_
            refine at_loopW (σ := (Nat × (List D_api_Sub))) (V := Value × Nat × (List Value)) (r := x542) (fun n s => m41_l2 p3 x522 x529 n s.1 s.2) (fun s e => (⟨[(2, w496), (3, w497), (8, .pointer (some (Addr.add ⟨b500, 0, none⟩ 0))), (10, .pointer (some (Addr.add ⟨b507, 0, none⟩ 0))), (13, .pointer (some (Addr.add ⟨b532, 0, none⟩ 0))), (15, .bool x529.2.2), (16, .pointer (some (Addr.add ⟨b534, 0, none⟩ 0))), (34, s495), (35, .int .i64 (a1.Fields.length : Int)), (36, .int .i64 (x510 : Int)), (53, s524), (54, .int .i64 (x522.Subs.length : Int)), (55, .int .i64 (s.1 : Int))], [⟨b534, [str x529.2.1, .int .u8 (x522.Ind_0.toNat : Int), .int .u8 (x522.Ind_1.toNat : Int), e.1], 69⟩, ⟨b532, [str x529.1.From, str x529.1.To, s531], 76⟩, ⟨b507, [.int .i64 a1.ID, v512], 25⟩, ⟨b500, [.int .i64 0, (.slice none 0 0)], 25⟩], [⟨e.1, 66, 2, e.2.1, e.2.2⟩, ⟨v512, 69, 4, n513, i514⟩], [((Ty.int .i64).fact (s.1 : Int) [.int .i64 (s.1 : Int)]), (ty66.row s.2 e.2.2), (pureF (s.2.length * ty66.bytes ≤ 140737488355328)), (FnOk Tryz.prog w496 (sp79 p2)), (FnOk Tryz.prog w497 (sp80 p3)), ((Ty.slice ty69).fact a1.Fields [s495]), ((Ty.int .i64).fact (x510 : Int) [.int .i64 (x510 : Int)]), ((Ty.slice ty66).fact x522.Subs [s524]), (Ty.str.fact x529.1.From [str x529.1.From]), (Ty.str.fact x529.1.To [str x529.1.To]), ((Ty.slice ty82).fact x529.1.Codes [s531]), ((Ty.int .i64).fact a1.ID [.int .i64 a1.ID]), (ty69.row x511 i514), (pureF (x511.length * ty69.bytes ≤ 140737488355328)), (Ty.str.fact x529.2.1 [str x529.2.1])]⟩ : St)) (fun _ => rfl) _ (0, ([] : (List D_api_Sub))) ((.slice none 0 0), 0, []) hl546 ⟨⟨rfl, ⟨rfl, ⟨rfl, ⟨rfl, ⟨rfl, ⟨rfl, ⟨rfl, ⟨rfl, ⟨rfl, ⟨rfl, ⟨rfl, ⟨rfl, ⟨rfl, trivial⟩⟩⟩⟩⟩⟩⟩⟩⟩⟩⟩⟩⟩, ⟨[true, true, false, true, true], rfl⟩, ⟨[true, true], rfl⟩, ⟨[2, 1, 0, 15, 16, 17, 12, 9, 3, 4, 5, 18, 13, 14, 7], rfl⟩⟩ ?_
            clear hr hl546
            intro n s hr e
            obtain ⟨x537, x538⟩ := s
            obtain ⟨v539, n540, i541⟩ := e
            change m41_l2 p3 x522 x529 (n + 1) x537 x538 = some x542 at hr
            change At _ _ (⟨[(2, w496), (3, w497), (8, .pointer (some (Addr.add ⟨b500, 0, none⟩ 0))), (10, .pointer (some (Addr.add ⟨b507, 0, none⟩ 0))), (13, .pointer (some (Addr.add ⟨b532, 0, none⟩ 0))), (15, .bool x529.2.2), (16, .pointer (some (Addr.add ⟨b534, 0, none⟩ 0))), (34, s495), (35, .int .i64 (a1.Fields.length : Int)), (36, .int .i64 (x510 : Int)), (53, s524), (54, .int .i64 (x522.Subs.length : Int)), (55, .int .i64 (x537 : Int))], [⟨b534, [str x529.2.1, .int .u8 (x522.Ind_0.toNat : Int), .int .u8 (x522.Ind_1.toNat : Int), v539], 69⟩, ⟨b532, [str x529.1.From, str x529.1.To, s531], 76⟩, ⟨b507, [.int .i64 a1.ID, v512], 25⟩, ⟨b500, [.int .i64 0, (.slice none 0 0)], 25⟩], [⟨v539, 66, 2, n540, i541⟩, ⟨v512, 69, 4, n513, i514⟩], [((Ty.int .i64).fact (x537 : Int) [.int .i64 (x537 : Int)]), (ty66.row x538 i541), (pureF (x538.length * ty66.bytes ≤ 140737488355328)), (FnOk Tryz.prog w496 (sp79 p2)), (FnOk Tryz.prog w497 (sp80 p3)), ((Ty.slice ty69).fact a1.Fields [s495]), ((Ty.int .i64).fact (x510 : Int) [.int .i64 (x510 : Int)]), ((Ty.slice ty66).fact x522.Subs [s524]), (Ty.str.fact x529.1.From [str x529.1.From]), (Ty.str.fact x529.1.To [str x529.1.To]), ((Ty.slice ty82).fact x529.1.Codes [s531]), ((Ty.int .i64).fact a1.ID [.int .i64 a1.ID]), (ty69.row x511 i514), (pureF (x511.length * ty69.bytes ≤ 140737488355328)), (Ty.str.fact x529.2.1 [str x529.2.1])]⟩ : St) _
            rw [m41_l2] at hr
            refine at_seq ?_
            refine at_region ?_
            refine at_lt (lt_lss rfl rfl) rfl ?_
            refine at_nil ?_
            refine at_then ?_
            refine at_seq ?_
            by_cases h548 : x537 < x522.Subs.length
            · replace hr := ipos h548 hr
              refine at_true rfl (decide_eq_true (by omega)) ?_
              refine at_skip ?_
              refine at_then ?_
              refine at_seq ?_
              refine at_block ?_
              refine at_seq ?_
              refine at_region ?_
              replace hr := obind hr
              obtain ⟨x549, h550, hr⟩ := hr
              have := (List.getElem?_eq_some_iff.1 h550).1
              refine at_elem 7 rfl (nat_at' h550) (fun p551 ec pa552 => ?_)
              refine at_open (A := Unit) 0 rfl _ _ (fun F w h => op66 h) ?_
              rintro _ rfl
              refine at_lt (lt_idx rfl rfl pa552 und67 ti66) rfl ?_
              refine at_lt (lt_load_peek 2 rfl ti66 rfl rfl rfl rfl rfl) rfl ?_
              refine at_hv rfl ?_
              refine hv_alloc (cs := [.int .u8 0, str ([] : Str)]) ti66 rfl rfl (fun b553 => ?_)
              refine at_hv rfl ?_
              refine hv_store_box 0 (cs' := [.int .u8 (x549.Code.toNat : Int), str x549.Value]) rfl rfl ti66 rfl rfl rfl rfl rfl ?_
              refine at_nil ?_
              refine at_then ?_
              refine at_seq ?_
              refine at_region ?_
              refine at_lt (lt_move rfl) rfl ?_
              refine at_lt (lt_load_box 2 rfl ti76 rfl rfl rfl rfl rfl) rfl ?_
              refine at_lt (lt_fieldAddr 0 rfl fld66_0 rfl) rfl ?_
              refine at_lt (lt_load_box 0 rfl ti5 rfl rfl rfl rfl rfl) rfl ?_
              replace hr := obind hr
              obtain ⟨x554, h555, hr⟩ := hr
              refine at_derive [11, 12, 13] (ty76.fact (⟨x529.1.From, x529.1.To, x529.1.Codes⟩ : D_crosswalk_Entry) [str x529.1.From, str x529.1.To, s531]) rfl (fun F w h => mk76 (x := (⟨x529.1.From, x529.1.To, x529.1.Codes⟩ : D_crosswalk_Entry)) h) ?_
              refine at_hv rfl ?_
              refine hv_callf 8 [0] rfl rfl rfl ⟨(⟨x529.1.From, x529.1.To, x529.1.Codes⟩ : D_crosswalk_Entry), x549.Code, x554, s531, h555, rfl, rfl, rfl⟩ rfl rfl ?_
              rintro _ _ ⟨rfl, rfl⟩
              refine at_lt (lt_move rfl) rfl ?_
              refine at_lt (lt_extract rfl rfl) rfl ?_
              refine at_lt (lt_extract rfl rfl) rfl ?_
              refine at_lt (lt_assign rfl) rfl ?_
              refine at_lt (lt_assign rfl) rfl ?_
              refine at_nil ?_
              refine at_then ?_
              refine at_seq ?_
              replace hr := obind hr
              obtain ⟨x556, hc560, hr⟩ := hr
              refine at_cutR1 (V := Value × Nat × (List Value)) (fun e => (⟨[(2, w496), (3, w497), (8, .pointer (some (Addr.add ⟨b500, 0, none⟩ 0))), (10, .pointer (some (Addr.add ⟨b507, 0, none⟩ 0))), (13, .pointer (some (Addr.add ⟨b532, 0, none⟩ 0))), (15, .bool x529.2.2), (16, .pointer (some (Addr.add ⟨b534, 0, none⟩ 0))), (34, s495), (35, .int .i64 (a1.Fields.length : Int)), (36, .int .i64 (x510 : Int)), (53, s524), (54, .int .i64 (x522.Subs.length : Int)), (55, .int .i64 (x537 : Int))], [⟨b534, [str x529.2.1, .int .u8 (x522.Ind_0.toNat : Int), .int .u8 (x522.Ind_1.toNat : Int), e.1], 69⟩, ⟨b532, [str x529.1.From, str x529.1.To, s531], 76⟩, ⟨b507, [.int .i64 a1.ID, v512], 25⟩, ⟨b500, [.int .i64 0, (.slice none 0 0)], 25⟩], [⟨e.1, 66, 2, e.2.1, e.2.2⟩, ⟨v512, 69, 4, n513, i514⟩], [(ty66.row x556 e.2.2), (pureF (x556.length * ty66.bytes ≤ 140737488355328)), (FnOk Tryz.prog w496 (sp79 p2)), (FnOk Tryz.prog w497 (sp80 p3)), ((Ty.slice ty69).fact a1.Fields [s495]), ((Ty.int .i64).fact (x510 : Int) [.int .i64 (x510 : Int)]), ((Ty.slice ty66).fact x522.Subs [s524]), ((Ty.int .i64).fact (x537 : Int) [.int .i64 (x537 : Int)]), (Ty.str.fact x529.1.From [str x529.1.From]), (Ty.str.fact x529.1.To [str x529.1.To]), ((Ty.slice ty82).fact x529.1.Codes [s531]), ((Ty.int .i64).fact a1.ID [.int .i64 a1.ID]), (ty69.row x511 i514), (pureF (x511.length * ty69.bytes ≤ 140737488355328)), (Ty.str.fact x529.2.1 [str x529.2.1])]⟩ : St)) ?_ ?_
              · clear hr
                have hr := hc560
                clear hc560
                refine at_region ?_
                refine at_lt (lt_move rfl) rfl ?_
                refine at_lt (lt_move rfl) rfl ?_
                by_cases h561 : x529.2.2 = true
                · replace hr := ipos h561 hr
                  refine at_on rfl rfl h561 ?_
                  refine at_lt (lt_move rfl) rfl ?_
                  refine at_lt (lt_pick true rfl h561 rfl) rfl ?_
                  refine at_nil ?_
                  refine at_then ?_
                  by_cases h562 : x554.2 = true
                  · replace hr := ipos h562 hr
                    refine at_true rfl h562 ?_
                    refine at_region ?_
                    refine at_lt (lt_fieldAddr 3 rfl fld69_2 rfl) rfl ?_
                    refine at_lt (lt_load_box 1 rfl ti67 rfl rfl rfl rfl rfl) rfl ?_
                    refine at_lt (lt_move rfl) rfl ?_
                    refine at_lt (lt_fieldAddr 1 rfl fld66_1 rfl) rfl ?_
                    refine at_lt (lt_load_box 0 rfl ti9 rfl rfl rfl rfl rfl) rfl ?_
                    refine at_lt (lt_build (cs := [.int .u8 (x554.1.toNat : Int), str x549.Value]) rfl ti66 pl66 rfl) rfl ?_
                    refine at_hv rfl ?_
                    refine hv_bslice (cs := [.int .u8 (x554.1.toNat : Int), str x549.Value]) rfl und67 ti66 rfl rfl rfl rfl rfl (fun s563 => ?_)
                    replace hr := imust hr
                    obtain ⟨h564, hr⟩ := hr
                    refine at_derive [1] (ty66.fact (⟨x554.1, x549.Value⟩ : D_api_Sub) [.int .u8 (x554.1.toNat : Int), str x549.Value]) rfl (fun F w h => mk66 (x := (⟨x554.1, x549.Value⟩ : D_api_Sub)) h) ?_
                    refine at_rown 1 6 rfl rfl rfl (fun hn566 => ?_)
                    refine at_hv rfl ?_
                    refine hv_append 1 0 rfl rfl rfl rfl und67 ti66 rfl rfl rfl (by omega) (by omega) rfl (fun s565 => ?_)
                    refine at_rowsnoc 6 0 rfl rfl ?_
                    refine at_lt (lt_fieldAddr 3 rfl fld69_2 rfl) rfl ?_
                    refine at_rowv 1 rfl (fun ho567 => ?_)
                    replace ho567 := row_one (by obtain ⟨a, c, h⟩ := ho567; exact ⟨a, _, c, h⟩)
                    refine at_hv rfl ?_
                    refine hv_store1 1 (cs' := [str x529.2.1, .int .u8 (x522.Ind_0.toNat : Int), .int .u8 (x522.Ind_1.toNat : Int), s565]) rfl rfl ti67 rfl rfl rfl rfl ho567 ?_
                    refine at_nil ?_
                    have hq := oinj hr
                    clear hr
                    subst hq
                    refine at_mkpure (q := ((x538 ++ [(⟨x554.1, x549.Value⟩ : D_api_Sub)]).length * ty66.bytes ≤ 140737488355328)) (by simp only [List.length_append, List.length_cons, List.length_nil, ty66_bytes] <;> omega) ?_
                    exact at_leaf (s565, n540 + 1, i541 ++ [.int .u8 (x554.1.toNat : Int), str x549.Value]) ⟨⟨rfl, ⟨rfl, ⟨rfl, ⟨rfl, ⟨rfl, ⟨rfl, ⟨rfl, ⟨rfl, ⟨rfl, ⟨rfl, ⟨rfl, ⟨rfl, ⟨rfl, trivial⟩⟩⟩⟩⟩⟩⟩⟩⟩⟩⟩⟩⟩, ⟨[false, true, true, true, true], rfl⟩, ⟨[false, true, true], rfl⟩, ⟨[1, 0, 10, 11, 12, 13, 14, 7, 15, 16, 17, 18, 19, 20, 21], rfl⟩⟩
                  · replace hr := ineg h562 hr
                    refine at_false rfl (bf h562) ?_
                    refine at_skip ?_
                    have hq := oinj hr
                    clear hr
                    subst hq
                    exact at_leaf (v539, n540, i541) ⟨⟨rfl, ⟨rfl, ⟨rfl, ⟨rfl, ⟨rfl, ⟨rfl, ⟨rfl, ⟨rfl, ⟨rfl, ⟨rfl, ⟨rfl, ⟨rfl, ⟨rfl, trivial⟩⟩⟩⟩⟩⟩⟩⟩⟩⟩⟩⟩⟩, ⟨[false, true, true, true, true], rfl⟩, ⟨[true, true], rfl⟩, ⟨[5, 6, 7, 8, 9, 10, 11, 4, 12, 13, 14, 15, 16, 17, 18], rfl⟩⟩
                · replace hr := ineg h561 hr
                  refine at_off rfl rfl (bf h561) rfl ?_
                  refine at_lt (lt_pick false rfl (bf h561) rfl) rfl ?_
                  refine at_nil ?_
                  refine at_then ?_
                  refine at_false rfl rfl ?_
                  refine at_skip ?_
                  have hq := oinj hr
                  clear hr
                  subst hq
                  exact at_leaf (v539, n540, i541) ⟨⟨rfl, ⟨rfl, ⟨rfl, ⟨rfl, ⟨rfl, ⟨rfl, ⟨rfl, ⟨rfl, ⟨rfl, ⟨rfl, ⟨rfl, ⟨rfl, ⟨rfl, trivial⟩⟩⟩⟩⟩⟩⟩⟩⟩⟩⟩⟩⟩, ⟨[false, true, true, true, true], rfl⟩, ⟨[true, true], rfl⟩, ⟨[5, 6, 7, 8, 9, 10, 11, 4, 12, 13, 14, 15, 16, 17, 18], rfl⟩⟩
              · clear hc560
                intro e
                obtain ⟨v557, n558, i559⟩ := e
                change At _ _ (⟨[(2, w496), (3, w497), (8, .pointer (some (Addr.add ⟨b500, 0, none⟩ 0))), (10, .pointer (some (Addr.add ⟨b507, 0, none⟩ 0))), (13, .pointer (some (Addr.add ⟨b532, 0, none⟩ 0))), (15, .bool x529.2.2), (16, .pointer (some (Addr.add ⟨b534, 0, none⟩ 0))), (34, s495), (35, .int .i64 (a1.Fields.length : Int)), (36, .int .i64 (x510 : Int)), (53, s524), (54, .int .i64 (x522.Subs.length : Int)), (55, .int .i64 (x537 : Int))], [⟨b534, [str x529.2.1, .int .u8 (x522.Ind_0.toNat : Int), .int .u8 (x522.Ind_1.toNat : Int), v557], 69⟩, ⟨b532, [str x529.1.From, str x529.1.To, s531], 76⟩, ⟨b507, [.int .i64 a1.ID, v512], 25⟩, ⟨b500, [.int .i64 0, (.slice none 0 0)], 25⟩], [⟨v557, 66, 2, n558, i559⟩, ⟨v512, 69, 4, n513, i514⟩], [(ty66.row x556 i559), (pureF (x556.length * ty66.bytes ≤ 140737488355328)), (FnOk Tryz.prog w496 (sp79 p2)), (FnOk Tryz.prog w497 (sp80 p3)), ((Ty.slice ty69).fact a1.Fields [s495]), ((Ty.int .i64).fact (x510 : Int) [.int .i64 (x510 : Int)]), ((Ty.slice ty66).fact x522.Subs [s524]), ((Ty.int .i64).fact (x537 : Int) [.int .i64 (x537 : Int)]), (Ty.str.fact x529.1.From [str x529.1.From]), (Ty.str.fact x529.1.To [str x529.1.To]), ((Ty.slice ty82).fact x529.1.Codes [s531]), ((Ty.int .i64).fact a1.ID [.int .i64 a1.ID]), (ty69.row x511 i514), (pureF (x511.length * ty69.bytes ≤ 140737488355328)), (Ty.str.fact x529.2.1 [str x529.2.1])]⟩ : St) _
                refine at_in ?_
                refine at_then ?_
                refine at_region ?_
                refine at_lt (lt_add rfl rfl (by simp only [lo, hi]; omega)) rfl ?_
                refine at_lt (lt_move rfl) rfl ?_
                refine at_nil ?_
                refine at_int .i64 (x537 + 1 : Int) (by simp only [lo, hi]; omega) ?_
                exact at_again (σ := (Nat × (List D_api_Sub))) (V := Value × Nat × (List Value)) (lp := fun n s => m41_l2 p3 x522 x529 n s.1 s.2) (S := fun s e => (⟨[(2, w496), (3, w497), (8, .pointer (some (Addr.add ⟨b500, 0, none⟩ 0))), (10, .pointer (some (Addr.add ⟨b507, 0, none⟩ 0))), (13, .pointer (some (Addr.add ⟨b532, 0, none⟩ 0))), (15, .bool x529.2.2), (16, .pointer (some (Addr.add ⟨b534, 0, none⟩ 0))), (34, s495), (35, .int .i64 (a1.Fields.length : Int)), (36, .int .i64 (x510 : Int)), (53, s524), (54, .int .i64 (x522.Subs.length : Int)), (55, .int .i64 (s.1 : Int))], [⟨b534, [str x529.2.1, .int .u8 (x522.Ind_0.toNat : Int), .int .u8 (x522.Ind_1.toNat : Int), e.1], 69⟩, ⟨b532, [str x529.1.From, str x529.1.To, s531], 76⟩, ⟨b507, [.int .i64 a1.ID, v512], 25⟩, ⟨b500, [.int .i64 0, (.slice none 0 0)], 25⟩], [⟨e.1, 66, 2, e.2.1, e.2.2⟩, ⟨v512, 69, 4, n513, i514⟩], [((Ty.int .i64).fact (s.1 : Int) [.int .i64 (s.1 : Int)]), (ty66.row s.2 e.2.2), (pureF (s.2.length * ty66.bytes ≤ 140737488355328)), (FnOk Tryz.prog w496 (sp79 p2)), (FnOk Tryz.prog w497 (sp80 p3)), ((Ty.slice ty69).fact a1.Fields [s495]), ((Ty.int .i64).fact (x510 : Int) [.int .i64 (x510 : Int)]), ((Ty.slice ty66).fact x522.Subs [s524]), (Ty.str.fact x529.1.From [str x529.1.From]), (Ty.str.fact x529.1.To [str x529.1.To]), ((Ty.slice ty82).fact x529.1.Codes [s531]), ((Ty.int .i64).fact a1.ID [.int .i64 a1.ID]), (ty69.row x511 i514), (pureF (x511.length * ty69.bytes ≤ 140737488355328)), (Ty.str.fact x529.2.1 [str x529.2.1])]⟩ : St)) (x537 + 1, x556) (v557, n558, i559) hr ⟨⟨rfl, ⟨rfl, ⟨rfl, ⟨rfl, ⟨rfl, ⟨rfl, ⟨rfl, ⟨rfl, ⟨rfl, ⟨rfl, ⟨rfl, ⟨rfl, ⟨rfl, trivial⟩⟩⟩⟩⟩⟩⟩⟩⟩⟩⟩⟩⟩, ⟨[true, true, true, true], rfl⟩, ⟨[true, true], rfl⟩, ⟨[0, 1, 2, 3, 4, 5, 6, 7, 9, 10, 11, 12, 13, 14, 15], rfl⟩⟩
            · replace hr := ineg h548 hr
              refine at_false rfl (decide_eq_false (by omega)) ?_
              refine at_exit ?_
              refine at_then_exit ?_
              refine at_then_exit ?_
              refine at_in_exit ?_
              have hq := oinj hr
              clear hr
              subst hq
              exact at_leaf (v539, n540, i541) ⟨⟨rfl, ⟨rfl, ⟨rfl, ⟨rfl, ⟨rfl, ⟨rfl, ⟨rfl, ⟨rfl, trivial⟩⟩⟩⟩⟩⟩⟩⟩, ⟨[true, false, true, true], rfl⟩, ⟨[true, true], rfl⟩, ⟨[1, 2, 3, 4, 5, 6, 14, 11, 12, 13], rfl⟩⟩
          · clear hl546
            intro e
            obtain ⟨v543, n544, i545⟩ := e
            change At _ _ (⟨[(2, w496), (3, w497), (8, .pointer (some (Addr.add ⟨b500, 0, none⟩ 0))), (10, .pointer (some (Addr.add ⟨b507, 0, none⟩ 0))), (16, .pointer (some (Addr.add ⟨b534, 0, none⟩ 0))), (34, s495), (35, .int .i64 (a1.Fields.length : Int)), (36, .int .i64 (x510 : Int))], [⟨b534, [str x529.2.1, .int .u8 (x522.Ind_0.toNat : Int), .int .u8 (x522.Ind_1.toNat : Int), v543], 69⟩, ⟨b507, [.int .i64 a1.ID, v512], 25⟩, ⟨b500, [.int .i64 0, (.slice none 0 0)], 25⟩], [⟨v543, 66, 2, n544, i545⟩, ⟨v512, 69, 4, n513, i514⟩], [(ty66.row x542 i545), (pureF (x542.length * ty66.bytes ≤ 140737488355328)), (FnOk Tryz.prog w496 (sp79 p2)), (FnOk Tryz.prog w497 (sp80 p3)), ((Ty.slice ty69).fact a1.Fields [s495]), ((Ty.int .i64).fact (x510 : Int) [.int .i64 (x510 : Int)]), (Ty.str.fact x529.2.1 [str x529.2.1]), ((Ty.int .i64).fact a1.ID [.int .i64 a1.ID]), (ty69.row x511 i514), (pureF (x511.length * ty69.bytes ≤ 140737488355328))]⟩ : St) _
            refine at_then ?_
            refine at_seq ?_
            refine at_region ?_
            refine at_lt (lt_fieldAddr 3 rfl fld69_2 rfl) rfl ?_
            refine at_lt (lt_load_box 0 rfl ti67 rfl rfl rfl rfl rfl) rfl ?_
            refine at_rown 0 0 rfl rfl rfl (fun hn568 => ?_)
            refine at_rowv 0 rfl (fun hv569 => ?_)
            refine at_lt (lt_rlen rfl hv569 und67 hn568) rfl ?_
            refine at_lt (lt_gtr rfl rfl) rfl ?_
            refine at_nil ?_
            refine at_then ?_
            replace hr := obind hr
            obtain ⟨x570, hc574, hr⟩ := hr
            refine at_cut (V := Value × Nat × (List Value)) (fun e => (⟨[(2, w496), (3, w497), (8, .pointer (some (Addr.add ⟨b500, 0, none⟩ 0))), (10, .pointer (some (Addr.add ⟨b507, 0, none⟩ 0))), (34, s495), (35, .int .i64 (a1.Fields.length : Int)), (36, .int .i64 (x510 : Int))], [⟨b507, [.int .i64 a1.ID, e.1], 25⟩, ⟨b500, [.int .i64 0, (.slice none 0 0)], 25⟩], [⟨e.1, 69, 4, e.2.1, e.2.2⟩], [(ty69.row x570 e.2.2), (pureF (x570.length * ty69.bytes ≤ 140737488355328)), (FnOk Tryz.prog w496 (sp79 p2)), (FnOk Tryz.prog w497 (sp80 p3)), ((Ty.slice ty69).fact a1.Fields [s495]), ((Ty.int .i64).fact (x510 : Int) [.int .i64 (x510 : Int)]), ((Ty.int .i64).fact a1.ID [.int .i64 a1.ID])]⟩ : St)) ?_ ?_
            · clear hr
              have hr := hc574
              clear hc574
              by_cases h575 : 0 < x542.length
              · replace hr := ipos h575 hr
                refine at_true rfl (decide_eq_true (by omega)) ?_
                refine at_region ?_
                refine at_lt (lt_fieldAddr 1 rfl fld25_1 rfl) rfl ?_
                refine at_lt (lt_load_box 1 rfl ti23 rfl rfl rfl rfl rfl) rfl ?_
                refine at_lt (lt_load_box 0 rfl ti69 rfl rfl rfl rfl rfl) rfl ?_
                refine at_hv rfl ?_
                refine hv_bslice (cs := [str x529.2.1, .int .u8 (x522.Ind_0.toNat : Int), .int .u8 (x522.Ind_1.toNat : Int), v543]) rfl und23 ti69 rfl rfl rfl rfl rfl (fun s576 => ?_)
                replace hr := imust hr
                obtain ⟨h577, hr⟩ := hr
                refine at_pure 1 rfl (fun hb579 => ?_)
                refine at_release 1 0 rfl rfl rfl hb579 ?_
                refine at_derive [7, 0] (ty69.fact (⟨x529.2.1, x522.Ind_0, x522.Ind_1, x542⟩ : D_api_Field) [str x529.2.1, .int .u8 (x522.Ind_0.toNat : Int), .int .u8 (x522.Ind_1.toNat : Int), v543]) rfl (fun F w h => mk69 (x := (⟨x529.2.1, x522.Ind_0, x522.Ind_1, x542⟩ : D_api_Field)) h) ?_
                refine at_rown 1 10 rfl rfl rfl (fun hn580 => ?_)
                refine at_one 1 rfl (fun ho581 => ?_)
                refine at_hv rfl ?_
                refine hv_append 1 0 rfl rfl rfl rfl und23 ti69 rfl rfl (allc rfl (allc rfl (allc rfl (allc ho581 rfl)))) (by omega) (by omega) rfl (fun s578 => ?_)
                refine at_rowsnoc 10 0 rfl rfl ?_
                refine at_lt (lt_fieldAddr 1 rfl fld25_1 rfl) rfl ?_
                refine at_rowv 1 rfl (fun ho582 => ?_)
                replace ho582 := row_one (by obtain ⟨a, c, h⟩ := ho582; exact ⟨a, _, c, h⟩)
                refine at_hv rfl ?_
                refine hv_store1 1 (cs' := [.int .i64 a1.ID, s578]) rfl rfl ti23 rfl rfl rfl rfl ho582 ?_
                refine at_nil ?_
                have hq := oinj hr
                clear hr
                subst hq
                refine at_mkpure (q := ((x511 ++ [(⟨x529.2.1, x522.Ind_0, x522.Ind_1, x542⟩ : D_api_Field)]).length * ty69.bytes ≤ 140737488355328)) (by simp only [List.length_append, List.length_cons, List.length_nil, ty69_bytes] <;> omega) ?_
                exact at_leaf (s578, n513 + 1, i514 ++ [str x529.2.1, .int .u8 (x522.Ind_0.toNat : Int), .int .u8 (x522.Ind_1.toNat : Int), v543]) ⟨⟨rfl, ⟨rfl, ⟨rfl, ⟨rfl, ⟨rfl, ⟨rfl, ⟨rfl, trivial⟩⟩⟩⟩⟩⟩⟩, ⟨[false, true, true], rfl⟩, ⟨[false, true], rfl⟩, ⟨[1, 0, 6, 7, 8, 9, 11], rfl⟩⟩
              · replace hr := ineg h575 hr
                refine at_false rfl (decide_eq_false (by omega)) ?_
                refine at_skip ?_
                have hq := oinj hr
                clear hr
                subst hq
                exact at_leaf (v512, n513, i514) ⟨⟨rfl, ⟨rfl, ⟨rfl, ⟨rfl, ⟨rfl, ⟨rfl, ⟨rfl, trivial⟩⟩⟩⟩⟩⟩⟩, ⟨[false, true, true], rfl⟩, ⟨[false, true], rfl⟩, ⟨[8, 9, 2, 3, 4, 5, 7], rfl⟩⟩
            · clear hc574
              intro e
              obtain ⟨v571, n572, i573⟩ := e
              change At _ _ (⟨[(2, w496), (3, w497), (8, .pointer (some (Addr.add ⟨b500, 0, none⟩ 0))), (10, .pointer (some (Addr.add ⟨b507, 0, none⟩ 0))), (34, s495), (35, .int .i64 (a1.Fields.length : Int)), (36, .int .i64 (x510 : Int))], [⟨b507, [.int .i64 a1.ID, v571], 25⟩, ⟨b500, [.int .i64 0, (.slice none 0 0)], 25⟩], [⟨v571, 69, 4, n572, i573⟩], [(ty69.row x570 i573), (pureF (x570.length * ty69.bytes ≤ 140737488355328)), (FnOk Tryz.prog w496 (sp79 p2)), (FnOk Tryz.prog w497 (sp80 p3)), ((Ty.slice ty69).fact a1.Fields [s495]), ((Ty.int .i64).fact (x510 : Int) [.int .i64 (x510 : Int)]), ((Ty.int .i64).fact a1.ID [.int .i64 a1.ID])]⟩ : St) _
              refine at_in ?_
              refine at_then ?_
              refine at_region ?_
              refine at_lt (lt_add rfl rfl (by simp only [lo, hi]; omega)) rfl ?_
              refine at_lt (lt_move rfl) rfl ?_
              refine at_nil ?_
              refine at_int .i64 (x510 + 1 : Int) (by simp only [lo, hi]; omega) ?_
              exact at_again (σ := (Nat × (List D_api_Field))) (V := Value × Nat × (List Value)) (lp := fun n s => m41_l1 a1 p2 p3 n s.1 s.2) (S := fun s e => (⟨[(2, w496), (3, w497), (8, .pointer (some (Addr.add ⟨b500, 0, none⟩ 0))), (10, .pointer (some (Addr.add ⟨b507, 0, none⟩ 0))), (34, s495), (35, .int .i64 (a1.Fields.length : Int)), (36, .int .i64 (s.1 : Int))], [⟨b507, [.int .i64 a1.ID, e.1], 25⟩, ⟨b500, [.int .i64 0, (.slice none 0 0)], 25⟩], [⟨e.1, 69, 4, e.2.1, e.2.2⟩], [((Ty.int .i64).fact (s.1 : Int) [.int .i64 (s.1 : Int)]), (ty69.row s.2 e.2.2), (pureF (s.2.length * ty69.bytes ≤ 140737488355328)), (FnOk Tryz.prog w496 (sp79 p2)), (FnOk Tryz.prog w497 (sp80 p3)), ((Ty.slice ty69).fact a1.Fields [s495]), ((Ty.int .i64).fact a1.ID [.int .i64 a1.ID])]⟩ : St)) (x510 + 1, x570) (v571, n572, i573) hr ⟨⟨rfl, ⟨rfl, ⟨rfl, ⟨rfl, ⟨rfl, ⟨rfl, ⟨rfl, trivial⟩⟩⟩⟩⟩⟩⟩, ⟨[true, true], rfl⟩, ⟨[true], rfl⟩, ⟨[0, 1, 2, 3, 4, 5, 7], rfl⟩⟩
        · replace hr := ineg h521 hr
          refine at_false rfl (decide_eq_false (by omega)) ?_
          refine at_exit ?_
          refine at_then_exit ?_
          refine at_then_exit ?_
          refine at_in_exit ?_
          have hq := oinj hr
          clear hr
          subst hq
          exact at_leaf (v512, n513, i514) ⟨⟨rfl, ⟨rfl, trivial⟩⟩, ⟨[true, true], rfl⟩, ⟨[true], rfl⟩, ⟨[1, 2, 6], rfl⟩⟩
      · clear hl519
        intro e
        obtain ⟨v516, n517, i518⟩ := e
        change At _ _ (⟨[(8, .pointer (some (Addr.add ⟨b500, 0, none⟩ 0))), (10, .pointer (some (Addr.add ⟨b507, 0, none⟩ 0)))], [⟨b507, [.int .i64 a1.ID, v516], 25⟩, ⟨b500, [.int .i64 0, (.slice none 0 0)], 25⟩], [⟨v516, 69, 4, n517, i518⟩], [(ty69.row x515 i518), (pureF (x515.length * ty69.bytes ≤ 140737488355328)), ((Ty.int .i64).fact a1.ID [.int .i64 a1.ID])]⟩ : St) _
        refine at_then ?_
        refine at_seq ?_
        refine at_seq ?_
        refine at_region ?_
        refine at_lt (lt_fieldAddr 1 rfl fld25_1 rfl) rfl ?_
        refine at_lt (lt_load_box 0 rfl ti23 rfl rfl rfl rfl rfl) rfl ?_
        refine at_rown 0 0 rfl rfl rfl (fun hn583 => ?_)
        refine at_rowv 0 rfl (fun hv584 => ?_)
        refine at_lt (lt_rlen rfl hv584 und23 hn583) rfl ?_
        refine at_lt (lt_eql rfl rfl) rfl ?_
        refine at_nil ?_
        refine at_then ?_
        by_cases h585 : x515.length = 0
        · replace hr := ipos h585 hr
          refine at_true rfl (decide_eq_true (by omega)) ?_
          refine at_seq ?_
          refine at_region ?_
          refine at_lt (lt_build (cs := [.int .i64 0, (.slice none 0 0)]) rfl ti25 pl25 rfl) rfl ?_
          refine at_hv rfl ?_
          refine hv_store_box 1 (cs' := [.int .i64 0, (.slice none 0 0)]) rfl rfl ti25 rfl rfl rfl rfl rfl ?_
          refine at_lt (lt_assign rfl) rfl ?_
          refine at_nil ?_
          refine at_then ?_
          refine at_ret ?_
          have hq := oinj hr
          clear hr
          subst hq
          refine at_then_ret ?_
          refine at_int .i64 0 (by simp only [lo, hi]; omega) ?_
          refine at_fnil ty69 none ?_
          refine at_derive [1, 0] (ty25.fact (⟨0, ([] : (List D_api_Field))⟩ : D_api_Record) [.int .i64 0, (.slice none 0 0)]) rfl (fun F w h => mk25 (x := (⟨0, ([] : (List D_api_Field))⟩ : D_api_Record)) h) ?_
          refine at_int .i64 9 (by simp only [lo, hi]; omega) ?_
          exact at_return (.tuple #[.agg #[.int .i64 0, (.slice none 0 0)], .int .i64 9]) [1, 0] hS Tryz.results41 (.cons (.cell 1 rfl ti25 rfl rfl rfl rfl) (.cons (.tmp rfl) .nil)) rfl rfl ⟨((.slice none 0 0)), rfl, rfl⟩
        · replace hr := ineg h585 hr
          refine at_false rfl (decide_eq_false (by omega)) ?_
          refine at_skip ?_
          refine at_then ?_
          refine at_seq ?_
          refine at_region ?_
          refine at_lt (lt_fieldAddr 1 rfl fld25_1 rfl) rfl ?_
          refine at_lt (lt_load_box 0 rfl ti23 rfl rfl rfl rfl rfl) rfl ?_
          replace hr := obind hr
          obtain ⟨x586, h587, hr⟩ := hr
          refine at_fn 77 [] [] (sp116 m77) en77 rfl (by rintro _ _ _ ⟨a0, a1, r, s588, s589, h, rfl, rfl, rfl⟩; exact f77_spec h) ?_
          refine at_pure 2 rfl (fun hb590 => ?_)
          refine at_release 0 1 rfl rfl rfl hb590 ?_
          refine at_hv rfl ?_
          refine hv_call0 [0, 1] (f76_spec h587) rfl rfl rfl rfl ?_
          rintro _ _ ⟨rfl, rfl⟩
          refine at_nil ?_
          refine at_then ?_
          refine at_seq ?_
          refine at_region ?_
          refine at_lt (lt_load_box 0 rfl ti25 rfl rfl rfl rfl rfl) rfl ?_
          refine at_one 0 rfl (fun ho591 => ?_)
          refine at_hv rfl ?_
          refine hv_store_box 1 (cs' := [.int .i64 a1.ID, v516]) rfl rfl ti25 rfl rfl rfl rfl (allc rfl (allc ho591 rfl)) ?_
          refine at_lt (lt_assign rfl) rfl ?_
          refine at_nil ?_
          refine at_then ?_
          refine at_ret ?_
          have hq := oinj hr
          clear hr
          subst hq
          refine at_derive [4, 0] (ty25.fact (⟨a1.ID, x515⟩ : D_api_Record) [.int .i64 a1.ID, v516]) rfl (fun F w h => mk25 (x := (⟨a1.ID, x515⟩ : D_api_Record)) h) ?_
          refine at_int .i64 0 (by simp only [lo, hi]; omega) ?_
          exact at_return (.tuple #[.agg #[.int .i64 a1.ID, v516], .int .i64 0]) [1, 0] hS Tryz.results41 (.cons (.cell 1 rfl ti25 rfl rfl rfl rfl) (.cons (.tmp rfl) .nil)) rfl rfl ⟨v516, rfl, rfl⟩
    · replace hr := ineg h506 hr
      refine at_true rfl (nf (bf h506)) ?_
      refine at_seq ?_
      refine at_region ?_
      refine at_lt (lt_build (cs := [.int .i64 0, (.slice none 0 0)]) rfl ti25 pl25 rfl) rfl ?_
      refine at_hv rfl ?_
      refine hv_store_box 0 (cs' := [.int .i64 0, (.slice none 0 0)]) rfl rfl ti25 rfl rfl rfl rfl rfl ?_
      refine at_lt (lt_assign rfl) rfl ?_
      refine at_nil ?_
      refine at_then ?_
      refine at_ret ?_
      have hq := oinj hr
      clear hr
      subst hq
      refine at_then_ret ?_
      refine at_int .i64 0 (by simp only [lo, hi]; omega) ?_
      refine at_fnil ty69 none ?_
      refine at_derive [1, 0] (ty25.fact (⟨0, ([] : (List D_api_Field))⟩ : D_api_Record) [.int .i64 0, (.slice none 0 0)]) rfl (fun F w h => mk25 (x := (⟨0, ([] : (List D_api_Field))⟩ : D_api_Record)) h) ?_
      refine at_int .i64 1 (by simp only [lo, hi]; omega) ?_
      exact at_return (.tuple #[.agg #[.int .i64 0, (.slice none 0 0)], .int .i64 1]) [1, 0] hS Tryz.results41 (.cons (.cell 0 rfl ti25 rfl rfl rfl rfl) (.cons (.tmp rfl) .nil)) rfl rfl ⟨((.slice none 0 0)), rfl, rfl⟩
  · replace hr := ineg h503 hr
    refine at_off rfl rfl (nf (bf h503)) rfl ?_
    refine at_off rfl rfl (nf (bf h503)) rfl ?_
    refine at_off rfl rfl (nf (bf h503)) rfl ?_
    refine at_lt (lt_pick true rfl (nf (bf h503)) rfl) rfl ?_
    refine at_nil ?_
    refine at_then ?_
    refine at_true rfl rfl ?_
    refine at_seq ?_
    refine at_region ?_
    refine at_lt (lt_build (cs := [.int .i64 0, (.slice none 0 0)]) rfl ti25 pl25 rfl) rfl ?_
    refine at_hv rfl ?_
    refine hv_store_box 0 (cs' := [.int .i64 0, (.slice none 0 0)]) rfl rfl ti25 rfl rfl rfl rfl rfl ?_
    refine at_lt (lt_assign rfl) rfl ?_
    refine at_nil ?_
    refine at_then ?_
    refine at_ret ?_
    have hq := oinj hr
    clear hr
    subst hq
    refine at_then_ret ?_
    refine at_int .i64 0 (by simp only [lo, hi]; omega) ?_
    refine at_fnil ty69 none ?_
    refine at_derive [1, 0] (ty25.fact (⟨0, ([] : (List D_api_Field))⟩ : D_api_Record) [.int .i64 0, (.slice none 0 0)]) rfl (fun F w h => mk25 (x := (⟨0, ([] : (List D_api_Field))⟩ : D_api_Record)) h) ?_
    refine at_int .i64 1 (by simp only [lo, hi]; omega) ?_
    exact at_return (.tuple #[.agg #[.int .i64 0, (.slice none 0 0)], .int .i64 1]) [1, 0] hS Tryz.results41 (.cons (.cell 0 rfl ti25 rfl rfl rfl rfl) (.cons (.tmp rfl) .nil)) rfl rfl ⟨((.slice none 0 0)), rfl, rfl⟩
/-! 111 slices.IndexFunc[[]bookplate/crosswalk.Entry,bookplate/crosswalk.Entry] -/
def m111_l1 (a0 : (List D_crosswalk_Entry)) (p1 : (D_crosswalk_Entry → Option Bool)) : Nat → Nat → Option (Fl Int Unit)
  | 0, _ => none
  | k + 1, x597 =>
    if x597 < a0.length then
      (a0[x597]?).bind fun x602 =>
      (p1 x602).bind fun x607 =>
      if x607 = true then
        some (Fl.ret (x597 : Int))
      else
        m111_l1 a0 p1 k (x597 + 1)
    else
      some (Fl.go ())
def m111 (a0 : (List D_crosswalk_Entry)) (p1 : (D_crosswalk_Entry → Option Bool)) : Option Int :=
  (m111_l1 a0 p1 (a0.length + 1) 0).bind fun r => match r with
  | .ret x => some x
  | .go _ =>
    some (-1)
def post111 (r : Int) (v : Value) (fs : List Fact) : Prop := v = .int .i64 r ∧ fs = [((Ty.int .i64).fact r [.int .i64 r])]
theorem en111 : Enters Tryz.prog 111 := ⟨_, Tryz.func111, by kernel_rfl, rfl⟩
theorem f111_spec {a0 : (List D_crosswalk_Entry)} {p1 : (D_crosswalk_Entry → Option Bool)} {w593 : Value} {w594 : Value} {r : Int} (hr : m111 a0 p1 = some r) : Spec Tryz.prog 111 [w593, w594] [((Ty.slice ty76).fact a0 [w593]), (FnOk Tryz.prog w594 (sp98 p1))] (post111 r) := by
  refine spec_start (N := 19) Tryz.func111 (by kernel_rfl) rfl rfl rfl ?_
  intro g hS
  unfold m111 at hr
  refine at_seq ?_
  refine at_region ?_
  refine at_lt (lt_assign rfl) rfl ?_
  refine at_nil ?_
  refine at_then ?_
  refine at_seq ?_
  refine at_seq ?_
  refine at_region ?_
  refine at_lt (lt_move rfl) rfl ?_
  refine at_inv 0 rfl (fun i595 => ?_)
  have l596 := slice_len i595
  refine at_lt (lt_flen 0 rfl rfl und33) rfl ?_
  refine at_lt (lt_move rfl) rfl ?_
  refine at_nil ?_
  refine at_then ?_
  refine at_int .i64 0 (by simp only [lo, hi]; omega) ?_
  replace hr := obind hr
  obtain ⟨r598, hl599, hk600⟩ := hr
  refine at_cutP (V := (Unit) × (Unit)) (fun v => r598 = Fl.go v.1) (fun v => (⟨[], [], [], []⟩ : St)) ?_ ?_
  · refine at_block ?_
    refine at_loopW (σ := Nat) (V := Unit) (r := r598) (fun n s => m111_l1 a0 p1 n s) (fun s e => (⟨[(0, w593), (1, w594), (7, .int .i64 (a0.length : Int)), (8, .int .i64 (s : Int))], [], [], [((Ty.int .i64).fact (s : Int) [.int .i64 (s : Int)]), ((Ty.slice ty76).fact a0 [w593]), (FnOk Tryz.prog w594 (sp98 p1))]⟩ : St)) (fun _ => rfl) _ 0 () hl599 ⟨⟨rfl, ⟨rfl, ⟨rfl, ⟨rfl, trivial⟩⟩⟩⟩, ⟨[], rfl⟩, ⟨[], rfl⟩, ⟨[0, 1, 2], rfl⟩⟩ ?_
    clear hl599
    intro n x597 hr e
    skip
    skip
    change m111_l1 a0 p1 (n + 1) x597 = some r598 at hr
    change At _ _ (⟨[(0, w593), (1, w594), (7, .int .i64 (a0.length : Int)), (8, .int .i64 (x597 : Int))], [], [], [((Ty.int .i64).fact (x597 : Int) [.int .i64 (x597 : Int)]), ((Ty.slice ty76).fact a0 [w593]), (FnOk Tryz.prog w594 (sp98 p1))]⟩ : St) _
    rw [m111_l1] at hr
    refine at_seq ?_
    refine at_region ?_
    refine at_lt (lt_lss rfl rfl) rfl ?_
    refine at_nil ?_
    refine at_then ?_
    refine at_seq ?_
    by_cases h601 : x597 < a0.length
    · replace hr := ipos h601 hr
      refine at_true rfl (decide_eq_true (by omega)) ?_
      refine at_skip ?_
      refine at_then ?_
      refine at_seq ?_
      refine at_block ?_
      refine at_seq ?_
      refine at_region ?_
      refine at_lt (lt_move rfl) rfl ?_
      refine at_lt (lt_assign rfl) rfl ?_
      refine at_nil ?_
      refine at_then ?_
      refine at_seq ?_
      refine at_region ?_
      refine at_lt (lt_move rfl) rfl ?_
      refine at_lt (lt_move rfl) rfl ?_
      refine at_lt (lt_move rfl) rfl ?_
      replace hr := obind hr
      obtain ⟨x602, h603, hr⟩ := hr
      have := (List.getElem?_eq_some_iff.1 h603).1
      refine at_elem 1 rfl (nat_at' h603) (fun p605 ec pa606 => ?_)
      refine at_open (A := Value) 0 rfl _ _ (fun F w h => op76 h) ?_
      rintro s604 rfl
      refine at_lt (lt_idx rfl rfl pa606 und33 ti76) rfl ?_
      refine at_lt (lt_load_peek 4 rfl ti76 rfl rfl rfl rfl rfl) rfl ?_
      replace hr := obind hr
      obtain ⟨x607, h608, hr⟩ := hr
      refine at_hv rfl ?_
      refine hv_callf 7 [3] rfl rfl rfl ⟨x602, x607, s604, h608, rfl, rfl, rfl⟩ rfl rfl ?_
      rintro _ _ ⟨rfl, rfl⟩
      refine at_nil ?_
      refine at_then ?_
      by_cases h609 : x607 = true
      · replace hr := ipos h609 hr
        refine at_true rfl h609 ?_
        refine at_seq ?_
        refine at_region ?_
        refine at_lt (lt_move rfl) rfl ?_
        refine at_lt (lt_assign rfl) rfl ?_
        refine at_nil ?_
        refine at_then ?_
        refine at_ret ?_
        have hq := oinj hr
        clear hr
        subst hq
        have hq := oinj hk600
        clear hk600
        subst hq
        refine at_in_ret ?_
        refine at_then_ret ?_
        refine at_then_ret ?_
        refine at_in_ret ?_
        refine at_then_ret ?_
        refine at_then_ret ?_
        exact at_return (.int .i64 (x597 : Int)) [5] hS Tryz.results111 (.cons (.tmp rfl) .nil) rfl rfl ⟨rfl, rfl⟩
      · replace hr := ineg h609 hr
        refine at_false rfl (bf h609) ?_
        refine at_skip ?_
        refine at_in ?_
        refine at_then ?_
        refine at_region ?_
        refine at_lt (lt_add rfl rfl (by simp only [lo, hi]; omega)) rfl ?_
        refine at_lt (lt_move rfl) rfl ?_
        refine at_nil ?_
        refine at_int .i64 (x597 + 1 : Int) (by simp only [lo, hi]; omega) ?_
        exact at_again (σ := Nat) (V := Unit) (lp := fun n s => m111_l1 a0 p1 n s) (S := fun s e => (⟨[(0, w593), (1, w594), (7, .int .i64 (a0.length : Int)), (8, .int .i64 (s : Int))], [], [], [((Ty.int .i64).fact (s : Int) [.int .i64 (s : Int)]), ((Ty.slice ty76).fact a0 [w593]), (FnOk Tryz.prog w594 (sp98 p1))]⟩ : St)) (x597 + 1) () hr ⟨⟨rfl, ⟨rfl, ⟨rfl, ⟨rfl, trivial⟩⟩⟩⟩, ⟨[], rfl⟩, ⟨[], rfl⟩, ⟨[0, 7, 8], rfl⟩⟩
    · replace hr := ineg h601 hr
      refine at_false rfl (decide_eq_false (by omega)) ?_
      refine at_exit ?_
      refine at_then_exit ?_
      refine at_then_exit ?_
      refine at_in_exit ?_
      have hq := oinj hr
      clear hr
      subst hq
      exact at_leafP ((), ()) rfl ⟨trivial, ⟨[], rfl⟩, ⟨[], rfl⟩, ⟨[], rfl⟩⟩
  · rintro ⟨_, _⟩ hp
    replace hr := hk600
    subst hp
    clear hl599
    change At _ _ (⟨[], [], [], []⟩ : St) _
    refine at_then ?_
    refine at_seq ?_
    refine at_region ?_
    refine at_lt (lt_assign rfl) rfl ?_
    refine at_nil ?_
    refine at_then ?_
    refine at_ret ?_
    have hq := oinj hr
    clear hr
    subst hq
    refine at_int .i64 (-1) (by simp only [lo, hi]; omega) ?_
    exact at_return (.int .i64 (-1)) [0] hS Tryz.results111 (.cons (.tmp rfl) .nil) rfl rfl ⟨rfl, rfl⟩
/-! 78 bookplate/crosswalk.find[bookplate/crosswalk.Entry] -/
def m78 (a0 : (List D_crosswalk_Entry)) (p1 : (D_crosswalk_Entry → Option Bool)) : Option (D_crosswalk_Entry × Bool) :=
  (m111 a0 p1).bind fun x613 =>
  if (0 : Int) ≤ x613 then
    (at? a0 x613).bind fun x617 =>
    some ((⟨x617.From, x617.To, x617.Codes⟩ : D_crosswalk_Entry), true)
  else
    some ((⟨([] : Str), ([] : Str), ([] : (List D_crosswalk_Pair))⟩ : D_crosswalk_Entry), false)
def post78 (r : (D_crosswalk_Entry × Bool)) (v : Value) (fs : List Fact) : Prop := ∃ s624 : Value, v = .tuple #[.agg #[str r.1.From, str r.1.To, s624], .bool r.2] ∧ fs = [(ty76.fact r.1 [str r.1.From, str r.1.To, s624])]
theorem en78 : Enters Tryz.prog 78 := ⟨_, Tryz.func78, by kernel_rfl, rfl⟩
theorem f78_spec {a0 : (List D_crosswalk_Entry)} {p1 : (D_crosswalk_Entry → Option Bool)} {w610 : Value} {w611 : Value} {r : (D_crosswalk_Entry × Bool)} (hr : m78 a0 p1 = some r) : Spec Tryz.prog 78 [w610, w611] [((Ty.slice ty76).fact a0 [w610]), (FnOk Tryz.prog w611 (sp98 p1))] (post78 r) := by
  refine spec_start (N := 18) Tryz.func78 (by kernel_rfl) rfl rfl rfl ?_
  intro g hS
  unfold m78 at hr
  refine at_seq ?_
  refine at_region ?_
  refine at_hv rfl ?_
  refine hv_alloc (cs := [str ([] : Str), str ([] : Str), (.slice none 0 0)]) ti76 rfl rfl (fun b612 => ?_)
  refine at_lt (lt_assign rfl) rfl ?_
  refine at_nil ?_
  refine at_then ?_
  refine at_seq ?_
  refine at_seq ?_
  refine at_region ?_
  refine at_lt (lt_move rfl) rfl ?_
  refine at_lt (lt_move rfl) rfl ?_
  replace hr := obind hr
  obtain ⟨x613, h614, hr⟩ := hr
  refine at_hv rfl ?_
  refine hv_call0 [0, 1] (f111_spec h614) rfl rfl rfl rfl ?_
  rintro _ _ ⟨rfl, rfl⟩
  refine at_inv 0 rfl (fun l615 => ?_)
  replace l615 : (-9223372036854775808) ≤ x613 ∧ x613 ≤ 9223372036854775807 := l615
  refine at_lt (lt_assign rfl) rfl ?_
  refine at_nil ?_
  refine at_then ?_
  refine at_seq ?_
  refine at_region ?_
  refine at_lt (lt_move rfl) rfl ?_
  refine at_lt (lt_geq rfl rfl) rfl ?_
  refine at_nil ?_
  refine at_then ?_
  by_cases h616 : (0 : Int) ≤ x613
  · replace hr := ipos h616 hr
    refine at_true rfl (decide_eq_true (by first | exact h616 | omega)) ?_
    refine at_seq ?_
    refine at_region ?_
    refine at_lt (lt_move rfl) rfl ?_
    refine at_lt (lt_move rfl) rfl ?_
    replace hr := obind hr
    obtain ⟨x617, h618, hr⟩ := hr
    have := at?_lt h618
    refine at_elem 1 rfl h618 (fun p620 ec pa621 => ?_)
    refine at_open (A := Value) 0 rfl _ _ (fun F w h => op76 h) ?_
    rintro s619 rfl
    refine at_lt (lt_idx rfl rfl pa621 und33 ti76) rfl ?_
    refine at_lt (lt_load_peek 4 rfl ti76 rfl rfl rfl rfl rfl) rfl ?_
    refine at_one 2 rfl (fun ho622 => ?_)
    refine at_hv rfl ?_
    refine hv_store_box 0 (cs' := [str x617.From, str x617.To, s619]) rfl rfl ti76 rfl rfl rfl rfl (allc rfl (allc rfl (allc ho622 rfl))) ?_
    refine at_lt (lt_assign rfl) rfl ?_
    refine at_nil ?_
    refine at_then ?_
    refine at_ret ?_
    have hq := oinj hr
    clear hr
    subst hq
    refine at_then_ret ?_
    refine at_derive [0, 1, 2] (ty76.fact (⟨x617.From, x617.To, x617.Codes⟩ : D_crosswalk_Entry) [str x617.From, str x617.To, s619]) rfl (fun F w h => mk76 (x := (⟨x617.From, x617.To, x617.Codes⟩ : D_crosswalk_Entry)) h) ?_
    exact at_return (.tuple #[.agg #[str x617.From, str x617.To, s619], .bool true]) [0] hS Tryz.results78 (.cons (.cell 0 rfl ti76 rfl rfl rfl rfl) (.cons (.tmp rfl) .nil)) rfl rfl ⟨s619, rfl, rfl⟩
  · replace hr := ineg h616 hr
    refine at_false rfl (decide_eq_false (by first | exact h616 | omega)) ?_
    refine at_skip ?_
    refine at_then ?_
    refine at_seq ?_
    refine at_region ?_
    refine at_hv rfl ?_
    refine hv_alloc (cs := [str ([] : Str), str ([] : Str), (.slice none 0 0)]) ti76 rfl rfl (fun b623 => ?_)
    refine at_nil ?_
    refine at_then ?_
    refine at_seq ?_
    refine at_region ?_
    refine at_lt (lt_load_box 0 rfl ti76 rfl rfl rfl rfl rfl) rfl ?_
    refine at_hv rfl ?_
    refine hv_store_box 1 (cs' := [str ([] : Str), str ([] : Str), (.slice none 0 0)]) rfl rfl ti76 rfl rfl rfl rfl rfl ?_
    refine at_lt (lt_assign rfl) rfl ?_
    refine at_nil ?_
    refine at_then ?_
    refine at_ret ?_
    have hq := oinj hr
    clear hr
    subst hq
    refine at_str ([] : Str) (by decide) ?_
    refine at_fnil ty82 none ?_
    refine at_derive [1, 1, 0] (ty76.fact (⟨([] : Str), ([] : Str), ([] : (List D_crosswalk_Pair))⟩ : D_crosswalk_Entry) [str ([] : Str), str ([] : Str), (.slice none 0 0)]) rfl (fun F w h => mk76 (x := (⟨([] : Str), ([] : Str), ([] : (List D_crosswalk_Pair))⟩ : D_crosswalk_Entry)) h) ?_
    exact at_return (.tuple #[.agg #[str ([] : Str), str ([] : Str), (.slice none 0 0)], .bool false]) [0] hS Tryz.results78 (.cons (.cell 1 rfl ti76 rfl rfl rfl rfl) (.cons (.tmp rfl) .nil)) rfl rfl ⟨((.slice none 0 0)), rfl, rfl⟩
/-! 79 bookplate/crosswalk.from$1 -/
def m79 (a0 : D_crosswalk_Entry) (c0 : Str) : Option Bool :=
  some (decide (a0.From = c0))
def post79 (r : Bool) (v : Value) (fs : List Fact) : Prop := v = .bool r ∧ fs = []
theorem en79 : Enters Tryz.prog 79 := ⟨_, Tryz.func79, by kernel_rfl, rfl⟩
theorem f79_spec {a0 : D_crosswalk_Entry} {c0 : Str} {s625 : Value} {b626 : Nat} {r : Bool} (hr : m79 a0 c0 = some r) : Spec Tryz.prog 79 [.agg #[str a0.From, str a0.To, s625], .pointer (some (Addr.add ⟨b626, 0, none⟩ 0))] [(ty76.fact a0 [str a0.From, str a0.To, s625]), (peek ⟨b626, 0, none⟩ [str c0]), (Ty.str.fact c0 [str c0])] (post79 r) := by
  refine spec_start (N := 8) Tryz.func79 (by kernel_rfl) rfl rfl rfl ?_
  intro g hS
  unfold m79 at hr
  refine at_open (A := Unit) 0 rfl (fun _ => True) (fun _ => [(Ty.str.fact a0.From [str a0.From]), (Ty.str.fact a0.To [str a0.To]), ((Ty.slice ty82).fact a0.Codes [s625])]) (fun F w h => ⟨(), trivial, ex76 h⟩) (fun _ _ => ?_)
  refine at_seq ?_
  refine at_region ?_
  refine at_hv rfl ?_
  refine hv_box (cs := [str a0.From, str a0.To, s625]) rfl rfl rfl (fun b627 => ?_)
  refine at_lt (lt_assign rfl) rfl ?_
  refine at_nil ?_
  refine at_then ?_
  refine at_seq ?_
  refine at_region ?_
  refine at_lt (lt_fieldAddr 0 rfl fld76_0 rfl) rfl ?_
  refine at_lt (lt_load_box 0 rfl ti9 rfl rfl rfl rfl rfl) rfl ?_
  refine at_lt (lt_load_peek 4 rfl ti9 rfl rfl rfl rfl rfl) rfl ?_
  refine at_lt (lt_seql rfl rfl) rfl ?_
  refine at_lt (lt_assign rfl) rfl ?_
  refine at_nil ?_
  refine at_then ?_
  refine at_ret ?_
  have hq := oinj hr
  clear hr
  subst hq
  exact at_return (.bool (decide (a0.From = c0))) [] hS Tryz.results79 (.cons (.tmp rfl) .nil) rfl rfl ⟨rfl, rfl⟩
/-! 43 bookplate/crosswalk.from -/
def m43 (a0 : (List D_crosswalk_Entry)) (a1 : Str) : Option (D_crosswalk_Entry × Bool) :=
  (m78 a0 (fun y0 => m79 y0 a1)).bind fun x631 =>
  some ((⟨x631.1.From, x631.1.To, x631.1.Codes⟩ : D_crosswalk_Entry), x631.2)
def post43 (r : (D_crosswalk_Entry × Bool)) (v : Value) (fs : List Fact) : Prop := ∃ s636 : Value, v = .tuple #[.agg #[str r.1.From, str r.1.To, s636], .bool r.2] ∧ fs = [(ty76.fact r.1 [str r.1.From, str r.1.To, s636])]
theorem en43 : Enters Tryz.prog 43 := ⟨_, Tryz.func43, by kernel_rfl, rfl⟩
theorem f43_spec {a0 : (List D_crosswalk_Entry)} {a1 : Str} {w628 : Value} {r : (D_crosswalk_Entry × Bool)} (hr : m43 a0 a1 = some r) : Spec Tryz.prog 43 [w628, str a1] [((Ty.slice ty76).fact a0 [w628]), (Ty.str.fact a1 [str a1])] (post43 r) := by
  refine spec_start (N := 11) Tryz.func43 (by kernel_rfl) rfl rfl rfl ?_
  intro g hS
  unfold m43 at hr
  refine at_seq ?_
  refine at_region ?_
  refine at_hv rfl ?_
  refine hv_box (cs := [str a1]) rfl rfl rfl (fun b629 => ?_)
  refine at_hv rfl ?_
  refine hv_alloc (cs := [str ([] : Str), str ([] : Str), (.slice none 0 0)]) ti76 rfl rfl (fun b630 => ?_)
  refine at_lt (lt_assign rfl) rfl ?_
  refine at_nil ?_
  refine at_then ?_
  refine at_seq ?_
  refine at_region ?_
  refine at_lt (lt_move rfl) rfl ?_
  refine at_lt (lt_makeFunc rfl) rfl ?_
  replace hr := obind hr
  obtain ⟨x631, h632, hr⟩ := hr
  refine at_freeze 1 rfl ?_
  refine at_fn 79 [.pointer (some (Addr.add ⟨b629, 0, none⟩ 0))] [0, 2] (sp98 (fun y0 => m79 y0 a1)) en79 rfl (by rintro _ _ _ ⟨a0, r, s634, h, rfl, rfl, rfl⟩; exact f79_spec h) ?_
  refine at_hv rfl ?_
  refine hv_call0 [2, 0] (f78_spec h632) rfl rfl rfl rfl ?_
  rintro _ _ ⟨s633, rfl, rfl⟩
  refine at_open (A := Unit) 0 rfl (fun _ => True) (fun _ => [(Ty.str.fact x631.1.From [str x631.1.From]), (Ty.str.fact x631.1.To [str x631.1.To]), ((Ty.slice ty82).fact x631.1.Codes [s633])]) (fun F w h => ⟨(), trivial, ex76 h⟩) (fun _ _ => ?_)
  refine at_lt (lt_extract rfl rfl) rfl ?_
  refine at_lt (lt_extract rfl rfl) rfl ?_
  refine at_one 2 rfl (fun ho635 => ?_)
  refine at_hv rfl ?_
  refine hv_store_box 0 (cs' := [str x631.1.From, str x631.1.To, s633]) rfl rfl ti76 rfl rfl rfl rfl (allc rfl (allc rfl (allc ho635 rfl))) ?_
  refine at_lt (lt_assign rfl) rfl ?_
  refine at_nil ?_
  refine at_then ?_
  refine at_ret ?_
  have hq := oinj hr
  clear hr
  subst hq
  refine at_derive [0, 1, 2] (ty76.fact (⟨x631.1.From, x631.1.To, x631.1.Codes⟩ : D_crosswalk_Entry) [str x631.1.From, str x631.1.To, s633]) rfl (fun F w h => mk76 (x := (⟨x631.1.From, x631.1.To, x631.1.Codes⟩ : D_crosswalk_Entry)) h) ?_
  exact at_return (.tuple #[.agg #[str x631.1.From, str x631.1.To, s633], .bool x631.2]) [0] hS Tryz.results43 (.cons (.cell 0 rfl ti76 rfl rfl rfl rfl) (.cons (.tmp rfl) .nil)) rfl rfl ⟨s633, rfl, rfl⟩
/-! 42 bookplate/crosswalk.To$1 -/
def m42 (a0 : Str) (c0 : (List D_crosswalk_Entry)) : Option (D_crosswalk_Entry × Str × Bool) :=
  (m43 c0 a0).bind fun x640 =>
  some ((⟨x640.1.From, x640.1.To, x640.1.Codes⟩ : D_crosswalk_Entry), x640.1.To, x640.2)
def post42 (r : (D_crosswalk_Entry × Str × Bool)) (v : Value) (fs : List Fact) : Prop := ∃ s645 : Value, v = .tuple #[.agg #[str r.1.From, str r.1.To, s645], str r.2.1, .bool r.2.2] ∧ fs = [(ty76.fact r.1 [str r.1.From, str r.1.To, s645]), (Ty.str.fact r.2.1 [str r.2.1])]
theorem en42 : Enters Tryz.prog 42 := ⟨_, Tryz.func42, by kernel_rfl, rfl⟩
theorem f42_spec {a0 : Str} {c0 : (List D_crosswalk_Entry)} {b637 : Nat} {w638 : Value} {r : (D_crosswalk_Entry × Str × Bool)} (hr : m42 a0 c0 = some r) : Spec Tryz.prog 42 [str a0, .pointer (some (Addr.add ⟨b637, 0, none⟩ 0))] [(Ty.str.fact a0 [str a0]), (peek ⟨b637, 0, none⟩ [w638]), ((Ty.slice ty76).fact c0 [w638])] (post42 r) := by
  refine spec_start (N := 18) Tryz.func42 (by kernel_rfl) rfl rfl rfl ?_
  intro g hS
  unfold m42 at hr
  refine at_seq ?_
  refine at_region ?_
  refine at_hv rfl ?_
  refine hv_alloc (cs := [str ([] : Str), str ([] : Str), (.slice none 0 0)]) ti76 rfl rfl (fun b639 => ?_)
  refine at_lt (lt_assign rfl) rfl ?_
  refine at_lt (lt_assign rfl) rfl ?_
  refine at_nil ?_
  refine at_then ?_
  refine at_seq ?_
  refine at_region ?_
  refine at_lt (lt_load_peek 1 rfl ti34 rfl rfl rfl rfl rfl) rfl ?_
  refine at_lt (lt_move rfl) rfl ?_
  replace hr := obind hr
  obtain ⟨x640, h641, hr⟩ := hr
  refine at_hv rfl ?_
  refine hv_call0 [2, 0] (f43_spec h641) rfl rfl rfl rfl ?_
  rintro _ _ ⟨s642, rfl, rfl⟩
  refine at_open (A := Unit) 0 rfl (fun _ => True) (fun _ => [(Ty.str.fact x640.1.From [str x640.1.From]), (Ty.str.fact x640.1.To [str x640.1.To]), ((Ty.slice ty82).fact x640.1.Codes [s642])]) (fun F w h => ⟨(), trivial, ex76 h⟩) (fun _ _ => ?_)
  refine at_lt (lt_move rfl) rfl ?_
  refine at_lt (lt_extract rfl rfl) rfl ?_
  refine at_lt (lt_extract rfl rfl) rfl ?_
  refine at_hv rfl ?_
  refine hv_alloc (cs := [str ([] : Str), str ([] : Str), (.slice none 0 0)]) ti76 rfl rfl (fun b643 => ?_)
  refine at_one 2 rfl (fun ho644 => ?_)
  refine at_hv rfl ?_
  refine hv_store_box 0 (cs' := [str x640.1.From, str x640.1.To, s642]) rfl rfl ti76 rfl rfl rfl rfl (allc rfl (allc rfl (allc ho644 rfl))) ?_
  refine at_lt (lt_assign rfl) rfl ?_
  refine at_nil ?_
  refine at_then ?_
  refine at_seq ?_
  refine aa_start 4 (by kernel_rfl) ?_
  refine aa_load (bs' := [true, false, false, false, false, false, false]) 0 rfl (by kernel_rfl) rfl rfl (lt_load_box 0 rfl ti76 rfl rfl rfl rfl rfl) rfl (ts_in 0 0 rfl rfl) ?_
  refine aa_pure (bs' := [true, true, false, false, false, false, false]) 1 rfl (by kernel_rfl) rfl rfl (lt_fieldAddr 1 rfl fld76_1 rfl) rfl (ts_in 0 0 rfl rfl) ?_
  refine aa_pure (bs' := [true, true, false, true, false, false, false]) 3 rfl (by kernel_rfl) rfl rfl (lt_move rfl) rfl (ts_in 0 0 rfl rfl) ?_
  refine aa_all (rs := [2, 4]) (by kernel_rfl) rfl (ts_in 0 0 rfl rfl) (List.forall_mem_cons.2 ⟨?_, (List.forall_mem_singleton.2 ?_)⟩)
  · refine aa_op rfl rfl ?_
    refine hv_lt (lt_load_box 0 rfl ti9 rfl rfl rfl rfl rfl) rfl ?_
    refine aa_all (rs := [4]) (by kernel_rfl) rfl (ts_in 0 0 rfl rfl) (List.forall_mem_singleton.2 ?_)
    refine aa_op rfl rfl ?_
    refine hv_store_box 1 (cs' := [str x640.1.From, str x640.1.To, s642]) rfl rfl ti76 rfl rfl rfl rfl (allc rfl (allc rfl (allc ho644 rfl))) ?_
    refine aa_all (rs := [5]) (by kernel_rfl) rfl (ts_out rfl) (List.forall_mem_singleton.2 ?_)
    refine aa_op rfl rfl ?_
    refine hv_lt (lt_assign rfl) rfl ?_
    refine aa_all (rs := [6]) (by kernel_rfl) rfl (ts_out rfl) (List.forall_mem_singleton.2 ?_)
    refine aa_op rfl rfl ?_
    refine hv_lt (lt_assign rfl) rfl ?_
    refine aa_done (by kernel_rfl) (ts_out rfl) ?_
    refine at_then ?_
    refine at_ret ?_
    have hq := oinj hr
    clear hr
    subst hq
    refine at_derive [0, 1, 2] (ty76.fact (⟨x640.1.From, x640.1.To, x640.1.Codes⟩ : D_crosswalk_Entry) [str x640.1.From, str x640.1.To, s642]) rfl (fun F w h => mk76 (x := (⟨x640.1.From, x640.1.To, x640.1.Codes⟩ : D_crosswalk_Entry)) h) ?_
    exact at_return (.tuple #[.agg #[str x640.1.From, str x640.1.To, s642], str x640.1.To, .bool x640.2]) [0, 2] hS Tryz.results42 (.cons (.cell 1 rfl ti76 rfl rfl rfl rfl) (.cons (.tmp rfl) (.cons (.tmp rfl) .nil))) rfl rfl ⟨s642, rfl, rfl⟩
  · refine aa_op rfl rfl ?_
    refine hv_store_box 1 (cs' := [str x640.1.From, str x640.1.To, s642]) rfl rfl ti76 rfl rfl rfl rfl (allc rfl (allc rfl (allc ho644 rfl))) ?_
    refine aa_all (rs := [2]) (by kernel_rfl) rfl (ts_out rfl) (List.forall_mem_singleton.2 ?_)
    refine aa_op rfl rfl ?_
    refine hv_lt (lt_load_box 0 rfl ti9 rfl rfl rfl rfl rfl) rfl ?_
    refine aa_all (rs := [5]) (by kernel_rfl) rfl (ts_out rfl) (List.forall_mem_singleton.2 ?_)
    refine aa_op rfl rfl ?_
    refine hv_lt (lt_assign rfl) rfl ?_
    refine aa_all (rs := [6]) (by kernel_rfl) rfl (ts_out rfl) (List.forall_mem_singleton.2 ?_)
    refine aa_op rfl rfl ?_
    refine hv_lt (lt_assign rfl) rfl ?_
    refine aa_done (by kernel_rfl) (ts_out rfl) ?_
    refine at_then ?_
    refine at_ret ?_
    have hq := oinj hr
    clear hr
    subst hq
    refine at_derive [0, 1, 2] (ty76.fact (⟨x640.1.From, x640.1.To, x640.1.Codes⟩ : D_crosswalk_Entry) [str x640.1.From, str x640.1.To, s642]) rfl (fun F w h => mk76 (x := (⟨x640.1.From, x640.1.To, x640.1.Codes⟩ : D_crosswalk_Entry)) h) ?_
    exact at_return (.tuple #[.agg #[str x640.1.From, str x640.1.To, s642], str x640.1.To, .bool x640.2]) [0, 2] hS Tryz.results42 (.cons (.cell 1 rfl ti76 rfl rfl rfl rfl) (.cons (.tmp rfl) (.cons (.tmp rfl) .nil))) rfl rfl ⟨s642, rfl, rfl⟩
/-! 112 slices.IndexFunc[[]bookplate/crosswalk.Pair,bookplate/crosswalk.Pair] -/
def m112_l1 (a0 : (List D_crosswalk_Pair)) (p1 : (D_crosswalk_Pair → Option Bool)) : Nat → Nat → Option (Fl Int Unit)
  | 0, _ => none
  | k + 1, x650 =>
    if x650 < a0.length then
      (a0[x650]?).bind fun x655 =>
      (p1 x655).bind fun x659 =>
      if x659 = true then
        some (Fl.ret (x650 : Int))
      else
        m112_l1 a0 p1 k (x650 + 1)
    else
      some (Fl.go ())
def m112 (a0 : (List D_crosswalk_Pair)) (p1 : (D_crosswalk_Pair → Option Bool)) : Option Int :=
  (m112_l1 a0 p1 (a0.length + 1) 0).bind fun r => match r with
  | .ret x => some x
  | .go _ =>
    some (-1)
def post112 (r : Int) (v : Value) (fs : List Fact) : Prop := v = .int .i64 r ∧ fs = [((Ty.int .i64).fact r [.int .i64 r])]
theorem en112 : Enters Tryz.prog 112 := ⟨_, Tryz.func112, by kernel_rfl, rfl⟩
theorem f112_spec {a0 : (List D_crosswalk_Pair)} {p1 : (D_crosswalk_Pair → Option Bool)} {w646 : Value} {w647 : Value} {r : Int} (hr : m112 a0 p1 = some r) : Spec Tryz.prog 112 [w646, w647] [((Ty.slice ty82).fact a0 [w646]), (FnOk Tryz.prog w647 (sp120 p1))] (post112 r) := by
  refine spec_start (N := 19) Tryz.func112 (by kernel_rfl) rfl rfl rfl ?_
  intro g hS
  unfold m112 at hr
  refine at_seq ?_
  refine at_region ?_
  refine at_lt (lt_assign rfl) rfl ?_
  refine at_nil ?_
  refine at_then ?_
  refine at_seq ?_
  refine at_seq ?_
  refine at_region ?_
  refine at_lt (lt_move rfl) rfl ?_
  refine at_inv 0 rfl (fun i648 => ?_)
  have l649 := slice_len i648
  refine at_lt (lt_flen 0 rfl rfl und74) rfl ?_
  refine at_lt (lt_move rfl) rfl ?_
  refine at_nil ?_
  refine at_then ?_
  refine at_int .i64 0 (by simp only [lo, hi]; omega) ?_
  replace hr := obind hr
  obtain ⟨r651, hl652, hk653⟩ := hr
  refine at_cutP (V := (Unit) × (Unit)) (fun v => r651 = Fl.go v.1) (fun v => (⟨[], [], [], []⟩ : St)) ?_ ?_
  · refine at_block ?_
    refine at_loopW (σ := Nat) (V := Unit) (r := r651) (fun n s => m112_l1 a0 p1 n s) (fun s e => (⟨[(0, w646), (1, w647), (7, .int .i64 (a0.length : Int)), (8, .int .i64 (s : Int))], [], [], [((Ty.int .i64).fact (s : Int) [.int .i64 (s : Int)]), ((Ty.slice ty82).fact a0 [w646]), (FnOk Tryz.prog w647 (sp120 p1))]⟩ : St)) (fun _ => rfl) _ 0 () hl652 ⟨⟨rfl, ⟨rfl, ⟨rfl, ⟨rfl, trivial⟩⟩⟩⟩, ⟨[], rfl⟩, ⟨[], rfl⟩, ⟨[0, 1, 2], rfl⟩⟩ ?_
    clear hl652
    intro n x650 hr e
    skip
    skip
    change m112_l1 a0 p1 (n + 1) x650 = some r651 at hr
    change At _ _ (⟨[(0, w646), (1, w647), (7, .int .i64 (a0.length : Int)), (8, .int .i64 (x650 : Int))], [], [], [((Ty.int .i64).fact (x650 : Int) [.int .i64 (x650 : Int)]), ((Ty.slice ty82).fact a0 [w646]), (FnOk Tryz.prog w647 (sp120 p1))]⟩ : St) _
    rw [m112_l1] at hr
    refine at_seq ?_
    refine at_region ?_
    refine at_lt (lt_lss rfl rfl) rfl ?_
    refine at_nil ?_
    refine at_then ?_
    refine at_seq ?_
    by_cases h654 : x650 < a0.length
    · replace hr := ipos h654 hr
      refine at_true rfl (decide_eq_true (by omega)) ?_
      refine at_skip ?_
      refine at_then ?_
      refine at_seq ?_
      refine at_block ?_
      refine at_seq ?_
      refine at_region ?_
      refine at_lt (lt_move rfl) rfl ?_
      refine at_lt (lt_assign rfl) rfl ?_
      refine at_nil ?_
      refine at_then ?_
      refine at_seq ?_
      refine at_region ?_
      refine at_lt (lt_move rfl) rfl ?_
      refine at_lt (lt_move rfl) rfl ?_
      refine at_lt (lt_move rfl) rfl ?_
      replace hr := obind hr
      obtain ⟨x655, h656, hr⟩ := hr
      have := (List.getElem?_eq_some_iff.1 h656).1
      refine at_elem 1 rfl (nat_at' h656) (fun p657 ec pa658 => ?_)
      refine at_open (A := Unit) 0 rfl _ _ (fun F w h => op82 h) ?_
      rintro _ rfl
      refine at_lt (lt_idx rfl rfl pa658 und74 ti82) rfl ?_
      refine at_lt (lt_load_peek 1 rfl ti82 rfl rfl rfl rfl rfl) rfl ?_
      replace hr := obind hr
      obtain ⟨x659, h660, hr⟩ := hr
      refine at_hv rfl ?_
      refine hv_callf 4 [0] rfl rfl rfl ⟨x655, x659, h660, rfl, rfl, rfl⟩ rfl rfl ?_
      rintro _ _ ⟨rfl, rfl⟩
      refine at_nil ?_
      refine at_then ?_
      by_cases h661 : x659 = true
      · replace hr := ipos h661 hr
        refine at_true rfl h661 ?_
        refine at_seq ?_
        refine at_region ?_
        refine at_lt (lt_move rfl) rfl ?_
        refine at_lt (lt_assign rfl) rfl ?_
        refine at_nil ?_
        refine at_then ?_
        refine at_ret ?_
        have hq := oinj hr
        clear hr
        subst hq
        have hq := oinj hk653
        clear hk653
        subst hq
        refine at_in_ret ?_
        refine at_then_ret ?_
        refine at_then_ret ?_
        refine at_in_ret ?_
        refine at_then_ret ?_
        refine at_then_ret ?_
        exact at_return (.int .i64 (x650 : Int)) [2] hS Tryz.results112 (.cons (.tmp rfl) .nil) rfl rfl ⟨rfl, rfl⟩
      · replace hr := ineg h661 hr
        refine at_false rfl (bf h661) ?_
        refine at_skip ?_
        refine at_in ?_
        refine at_then ?_
        refine at_region ?_
        refine at_lt (lt_add rfl rfl (by simp only [lo, hi]; omega)) rfl ?_
        refine at_lt (lt_move rfl) rfl ?_
        refine at_nil ?_
        refine at_int .i64 (x650 + 1 : Int) (by simp only [lo, hi]; omega) ?_
        exact at_again (σ := Nat) (V := Unit) (lp := fun n s => m112_l1 a0 p1 n s) (S := fun s e => (⟨[(0, w646), (1, w647), (7, .int .i64 (a0.length : Int)), (8, .int .i64 (s : Int))], [], [], [((Ty.int .i64).fact (s : Int) [.int .i64 (s : Int)]), ((Ty.slice ty82).fact a0 [w646]), (FnOk Tryz.prog w647 (sp120 p1))]⟩ : St)) (x650 + 1) () hr ⟨⟨rfl, ⟨rfl, ⟨rfl, ⟨rfl, trivial⟩⟩⟩⟩, ⟨[], rfl⟩, ⟨[], rfl⟩, ⟨[0, 4, 5], rfl⟩⟩
    · replace hr := ineg h654 hr
      refine at_false rfl (decide_eq_false (by omega)) ?_
      refine at_exit ?_
      refine at_then_exit ?_
      refine at_then_exit ?_
      refine at_in_exit ?_
      have hq := oinj hr
      clear hr
      subst hq
      exact at_leafP ((), ()) rfl ⟨trivial, ⟨[], rfl⟩, ⟨[], rfl⟩, ⟨[], rfl⟩⟩
  · rintro ⟨_, _⟩ hp
    replace hr := hk653
    subst hp
    clear hl652
    change At _ _ (⟨[], [], [], []⟩ : St) _
    refine at_then ?_
    refine at_seq ?_
    refine at_region ?_
    refine at_lt (lt_assign rfl) rfl ?_
    refine at_nil ?_
    refine at_then ?_
    refine at_ret ?_
    have hq := oinj hr
    clear hr
    subst hq
    refine at_int .i64 (-1) (by simp only [lo, hi]; omega) ?_
    exact at_return (.int .i64 (-1)) [0] hS Tryz.results112 (.cons (.tmp rfl) .nil) rfl rfl ⟨rfl, rfl⟩
/-! 80 bookplate/crosswalk.find[bookplate/crosswalk.Pair] -/
def m80 (a0 : (List D_crosswalk_Pair)) (p1 : (D_crosswalk_Pair → Option Bool)) : Option (D_crosswalk_Pair × Bool) :=
  (m112 a0 p1).bind fun x665 =>
  if (0 : Int) ≤ x665 then
    (at? a0 x665).bind fun x669 =>
    some ((⟨x669.From, x669.To⟩ : D_crosswalk_Pair), true)
  else
    some ((⟨0, 0⟩ : D_crosswalk_Pair), false)
def post80 (r : (D_crosswalk_Pair × Bool)) (v : Value) (fs : List Fact) : Prop := v = .tuple #[.agg #[.int .u8 (r.1.From.toNat : Int), .int .u8 (r.1.To.toNat : Int)], .bool r.2] ∧ fs = [(ty82.fact r.1 [.int .u8 (r.1.From.toNat : Int), .int .u8 (r.1.To.toNat : Int)])]
theorem en80 : Enters Tryz.prog 80 := ⟨_, Tryz.func80, by kernel_rfl, rfl⟩
theorem f80_spec {a0 : (List D_crosswalk_Pair)} {p1 : (D_crosswalk_Pair → Option Bool)} {w662 : Value} {w663 : Value} {r : (D_crosswalk_Pair × Bool)} (hr : m80 a0 p1 = some r) : Spec Tryz.prog 80 [w662, w663] [((Ty.slice ty82).fact a0 [w662]), (FnOk Tryz.prog w663 (sp120 p1))] (post80 r) := by
  refine spec_start (N := 18) Tryz.func80 (by kernel_rfl) rfl rfl rfl ?_
  intro g hS
  unfold m80 at hr
  refine at_seq ?_
  refine at_region ?_
  refine at_hv rfl ?_
  refine hv_alloc (cs := [.int .u8 0, .int .u8 0]) ti82 rfl rfl (fun b664 => ?_)
  refine at_lt (lt_assign rfl) rfl ?_
  refine at_nil ?_
  refine at_then ?_
  refine at_seq ?_
  refine at_seq ?_
  refine at_region ?_
  refine at_lt (lt_move rfl) rfl ?_
  refine at_lt (lt_move rfl) rfl ?_
  replace hr := obind hr
  obtain ⟨x665, h666, hr⟩ := hr
  refine at_hv rfl ?_
  refine hv_call0 [0, 1] (f112_spec h666) rfl rfl rfl rfl ?_
  rintro _ _ ⟨rfl, rfl⟩
  refine at_inv 0 rfl (fun l667 => ?_)
  replace l667 : (-9223372036854775808) ≤ x665 ∧ x665 ≤ 9223372036854775807 := l667
  refine at_lt (lt_assign rfl) rfl ?_
  refine at_nil ?_
  refine at_then ?_
  refine at_seq ?_
  refine at_region ?_
  refine at_lt (lt_move rfl) rfl ?_
  refine at_lt (lt_geq rfl rfl) rfl ?_
  refine at_nil ?_
  refine at_then ?_
  by_cases h668 : (0 : Int) ≤ x665
  · replace hr := ipos h668 hr
    refine at_true rfl (decide_eq_true (by first | exact h668 | omega)) ?_
    refine at_seq ?_
    refine at_region ?_
    refine at_lt (lt_move rfl) rfl ?_
    refine at_lt (lt_move rfl) rfl ?_
    replace hr := obind hr
    obtain ⟨x669, h670, hr⟩ := hr
    have := at?_lt h670
    refine at_elem 1 rfl h670 (fun p671 ec pa672 => ?_)
    refine at_open (A := Unit) 0 rfl _ _ (fun F w h => op82 h) ?_
    rintro _ rfl
    refine at_lt (lt_idx rfl rfl pa672 und74 ti82) rfl ?_
    refine at_lt (lt_load_peek 1 rfl ti82 rfl rfl rfl rfl rfl) rfl ?_
    refine at_hv rfl ?_
    refine hv_store_box 0 (cs' := [.int .u8 (x669.From.toNat : Int), .int .u8 (x669.To.toNat : Int)]) rfl rfl ti82 rfl rfl rfl rfl rfl ?_
    refine at_lt (lt_assign rfl) rfl ?_
    refine at_nil ?_
    refine at_then ?_
    refine at_ret ?_
    have hq := oinj hr
    clear hr
    subst hq
    refine at_then_ret ?_
    refine at_derive [] (ty82.fact (⟨x669.From, x669.To⟩ : D_crosswalk_Pair) [.int .u8 (x669.From.toNat : Int), .int .u8 (x669.To.toNat : Int)]) rfl (fun F w h => mk82 (x := (⟨x669.From, x669.To⟩ : D_crosswalk_Pair)) h) ?_
    exact at_return (.tuple #[.agg #[.int .u8 (x669.From.toNat : Int), .int .u8 (x669.To.toNat : Int)], .bool true]) [0] hS Tryz.results80 (.cons (.cell 0 rfl ti82 rfl rfl rfl rfl) (.cons (.tmp rfl) .nil)) rfl rfl ⟨rfl, rfl⟩
  · replace hr := ineg h668 hr
    refine at_false rfl (decide_eq_false (by first | exact h668 | omega)) ?_
    refine at_skip ?_
    refine at_then ?_
    refine at_seq ?_
    refine at_region ?_
    refine at_hv rfl ?_
    refine hv_alloc (cs := [.int .u8 0, .int .u8 0]) ti82 rfl rfl (fun b673 => ?_)
    refine at_nil ?_
    refine at_then ?_
    refine at_seq ?_
    refine at_region ?_
    refine at_lt (lt_load_box 0 rfl ti82 rfl rfl rfl rfl rfl) rfl ?_
    refine at_hv rfl ?_
    refine hv_store_box 1 (cs' := [.int .u8 0, .int .u8 0]) rfl rfl ti82 rfl rfl rfl rfl rfl ?_
    refine at_lt (lt_assign rfl) rfl ?_
    refine at_nil ?_
    refine at_then ?_
    refine at_ret ?_
    have hq := oinj hr
    clear hr
    subst hq
    refine at_derive [] (ty82.fact (⟨0, 0⟩ : D_crosswalk_Pair) [.int .u8 0, .int .u8 0]) rfl (fun F w h => mk82 (x := (⟨0, 0⟩ : D_crosswalk_Pair)) h) ?_
    exact at_return (.tuple #[.agg #[.int .u8 0, .int .u8 0], .bool false]) [0] hS Tryz.results80 (.cons (.cell 1 rfl ti82 rfl rfl rfl rfl) (.cons (.tmp rfl) .nil)) rfl rfl ⟨rfl, rfl⟩
/-! 81 bookplate/crosswalk.code2$1 -/
def m81 (a0 : D_crosswalk_Pair) (c0 : UInt8) : Option Bool :=
  some (decide ((a0.From.toNat : Int) = (c0.toNat : Int)))
def post81 (r : Bool) (v : Value) (fs : List Fact) : Prop := v = .bool r ∧ fs = []
theorem en81 : Enters Tryz.prog 81 := ⟨_, Tryz.func81, by kernel_rfl, rfl⟩
theorem f81_spec {a0 : D_crosswalk_Pair} {c0 : UInt8} {b674 : Nat} {r : Bool} (hr : m81 a0 c0 = some r) : Spec Tryz.prog 81 [.agg #[.int .u8 (a0.From.toNat : Int), .int .u8 (a0.To.toNat : Int)], .pointer (some (Addr.add ⟨b674, 0, none⟩ 0))] [(ty82.fact a0 [.int .u8 (a0.From.toNat : Int), .int .u8 (a0.To.toNat : Int)]), (peek ⟨b674, 0, none⟩ [.int .u8 (c0.toNat : Int)])] (post81 r) := by
  refine spec_start (N := 8) Tryz.func81 (by kernel_rfl) rfl rfl rfl ?_
  intro g hS
  unfold m81 at hr
  refine at_seq ?_
  refine at_region ?_
  refine at_hv rfl ?_
  refine hv_box (cs := [.int .u8 (a0.From.toNat : Int), .int .u8 (a0.To.toNat : Int)]) rfl rfl rfl (fun b675 => ?_)
  refine at_lt (lt_assign rfl) rfl ?_
  refine at_nil ?_
  refine at_then ?_
  refine at_seq ?_
  refine at_region ?_
  refine at_lt (lt_fieldAddr 0 rfl fld82_0 rfl) rfl ?_
  refine at_lt (lt_load_box 0 rfl ti5 rfl rfl rfl rfl rfl) rfl ?_
  refine at_lt (lt_load_peek 1 rfl ti5 rfl rfl rfl rfl rfl) rfl ?_
  refine at_lt (lt_eql rfl rfl) rfl ?_
  refine at_lt (lt_assign rfl) rfl ?_
  refine at_nil ?_
  refine at_then ?_
  refine at_ret ?_
  have hq := oinj hr
  clear hr
  subst hq
  exact at_return (.bool (decide ((a0.From.toNat : Int) = (c0.toNat : Int)))) [] hS Tryz.results81 (.cons (.tmp rfl) .nil) rfl rfl ⟨rfl, rfl⟩
/-! 44 bookplate/crosswalk.code2 -/
def m44 (a0 : D_crosswalk_Entry) (a1 : UInt8) : Option (UInt8 × Bool) :=
  (m80 a0.Codes (fun y0 => m81 y0 a1)).bind fun x679 =>
  some (x679.1.To, x679.2)
def post44 (r : (UInt8 × Bool)) (v : Value) (fs : List Fact) : Prop := v = .tuple #[.int .u8 (r.1.toNat : Int), .bool r.2] ∧ fs = []
theorem en44 : Enters Tryz.prog 44 := ⟨_, Tryz.func44, by kernel_rfl, rfl⟩
theorem f44_spec {a0 : D_crosswalk_Entry} {a1 : UInt8} {s676 : Value} {r : (UInt8 × Bool)} (hr : m44 a0 a1 = some r) : Spec Tryz.prog 44 [.agg #[str a0.From, str a0.To, s676], .int .u8 (a1.toNat : Int)] [(ty76.fact a0 [str a0.From, str a0.To, s676])] (post44 r) := by
  refine spec_start (N := 18) Tryz.func44 (by kernel_rfl) rfl rfl rfl ?_
  intro g hS
  unfold m44 at hr
  refine at_open (A := Unit) 0 rfl (fun _ => True) (fun _ => [(Ty.str.fact a0.From [str a0.From]), (Ty.str.fact a0.To [str a0.To]), ((Ty.slice ty82).fact a0.Codes [s676])]) (fun F w h => ⟨(), trivial, ex76 h⟩) (fun _ _ => ?_)
  refine at_seq ?_
  refine at_region ?_
  refine at_hv rfl ?_
  refine hv_box (cs := [str a0.From, str a0.To, s676]) rfl rfl rfl (fun b677 => ?_)
  refine at_hv rfl ?_
  refine hv_box (cs := [.int .u8 (a1.toNat : Int)]) rfl rfl rfl (fun b678 => ?_)
  refine at_lt (lt_assign rfl) rfl ?_
  refine at_lt (lt_assign rfl) rfl ?_
  refine at_nil ?_
  refine at_then ?_
  refine at_seq ?_
  refine at_region ?_
  refine at_lt (lt_fieldAddr 2 rfl fld76_2 rfl) rfl ?_
  refine at_lt (lt_load_box 1 rfl ti74 rfl rfl rfl rfl rfl) rfl ?_
  refine at_lt (lt_makeFunc rfl) rfl ?_
  replace hr := obind hr
  obtain ⟨x679, h680, hr⟩ := hr
  refine at_freeze 0 rfl ?_
  refine at_fn 81 [.pointer (some (Addr.add ⟨b678, 0, none⟩ 0))] [0] (sp120 (fun y0 => m81 y0 a1)) en81 rfl (by rintro _ _ _ ⟨a0, r, h, rfl, rfl, rfl⟩; exact f81_spec h) ?_
  refine at_hv rfl ?_
  refine hv_call0 [4, 0] (f80_spec h680) rfl rfl rfl rfl ?_
  rintro _ _ ⟨rfl, rfl⟩
  refine at_lt (lt_move rfl) rfl ?_
  refine at_lt (lt_extract rfl rfl) rfl ?_
  refine at_lt (lt_extract rfl rfl) rfl ?_
  refine at_hv rfl ?_
  refine hv_alloc (cs := [.int .u8 0, .int .u8 0]) ti82 rfl rfl (fun b681 => ?_)
  refine at_hv rfl ?_
  refine hv_store_box 0 (cs' := [.int .u8 (x679.1.From.toNat : Int), .int .u8 (x679.1.To.toNat : Int)]) rfl rfl ti82 rfl rfl rfl rfl rfl ?_
  refine at_lt (lt_assign rfl) rfl ?_
  refine at_nil ?_
  refine at_then ?_
  refine at_seq ?_
  refine at_region ?_
  refine at_lt (lt_fieldAddr 1 rfl fld82_1 rfl) rfl ?_
  refine at_lt (lt_load_box 0 rfl ti5 rfl rfl rfl rfl rfl) rfl ?_
  refine at_lt (lt_move rfl) rfl ?_
  refine at_lt (lt_assign rfl) rfl ?_
  refine at_lt (lt_assign rfl) rfl ?_
  refine at_nil ?_
  refine at_then ?_
  refine at_ret ?_
  have hq := oinj hr
  clear hr
  subst hq
  exact at_return (.tuple #[.int .u8 (x679.1.To.toNat : Int), .bool x679.2]) [] hS Tryz.results44 (.cons (.tmp rfl) (.cons (.tmp rfl) .nil)) rfl rfl ⟨rfl, rfl⟩
/-! 14 bookplate/crosswalk.To -/
def m14 (a0 : (List D_crosswalk_Entry)) (a1 : D_api_Record) : Option (D_api_Record × Int) :=
  (m41 a0 (⟨a1.ID, a1.Fields⟩ : D_api_Record) (fun y0 => m42 y0 a0) m44).bind fun x689 =>
  some ((⟨x689.1.ID, x689.1.Fields⟩ : D_api_Record), x689.2)
def post14 (r : (D_api_Record × Int)) (v : Value) (fs : List Fact) : Prop := ∃ s696 : Value, v = .tuple #[.agg #[.int .i64 r.1.ID, s696], .int .i64 r.2] ∧ fs = [(ty25.fact r.1 [.int .i64 r.1.ID, s696]), ((Ty.int .i64).fact r.2 [.int .i64 r.2])]
theorem en14 : Enters Tryz.prog 14 := ⟨_, Tryz.func14, by kernel_rfl, rfl⟩
theorem f14_spec {a0 : (List D_crosswalk_Entry)} {a1 : D_api_Record} {w682 : Value} {s683 : Value} {r : (D_api_Record × Int)} (hr : m14 a0 a1 = some r) : Spec Tryz.prog 14 [w682, .agg #[.int .i64 a1.ID, s683]] [((Ty.slice ty76).fact a0 [w682]), (ty25.fact a1 [.int .i64 a1.ID, s683])] (post14 r) := by
  refine spec_start (N := 12) Tryz.func14 (by kernel_rfl) rfl rfl rfl ?_
  intro g hS
  unfold m14 at hr
  refine at_open (A := Unit) 1 rfl (fun _ => True) (fun _ => [((Ty.int .i64).fact a1.ID [.int .i64 a1.ID]), ((Ty.slice ty69).fact a1.Fields [s683])]) (fun F w h => ⟨(), trivial, ex25 h⟩) (fun _ _ => ?_)
  refine at_inv 0 rfl (fun l684 => ?_)
  replace l684 : (-9223372036854775808) ≤ a1.ID ∧ a1.ID ≤ 9223372036854775807 := l684
  refine at_seq ?_
  refine at_region ?_
  refine at_one 2 rfl (fun ho686 => ?_)
  refine at_hv rfl ?_
  refine hv_box (cs := [w682]) rfl (cells_one ho686) rfl (fun b685 => ?_)
  refine at_hv rfl ?_
  refine hv_box (cs := [.int .i64 a1.ID, s683]) rfl rfl rfl (fun b687 => ?_)
  refine at_hv rfl ?_
  refine hv_alloc (cs := [.int .i64 0, (.slice none 0 0)]) ti25 rfl rfl (fun b688 => ?_)
  refine at_lt (lt_assign rfl) rfl ?_
  refine at_nil ?_
  refine at_then ?_
  refine at_seq ?_
  refine at_region ?_
  refine at_lt (lt_load_box 2 rfl ti34 rfl rfl rfl rfl rfl) rfl ?_
  refine at_lt (lt_load_box 1 rfl ti25 rfl rfl rfl rfl rfl) rfl ?_
  refine at_lt (lt_makeFunc rfl) rfl ?_
  replace hr := obind hr
  obtain ⟨x689, h690, hr⟩ := hr
  refine at_freeze 2 rfl ?_
  refine at_fn 42 [.pointer (some (Addr.add ⟨b685, 0, none⟩ 0))] [0, 3] (sp79 (fun y0 => m42 y0 a0)) en42 rfl (by rintro _ _ _ ⟨a0, r, h, rfl, rfl, rfl⟩; exact f42_spec h) ?_
  refine at_fn 44 [] [] (sp80 m44) en44 rfl (by rintro _ _ _ ⟨a0, a1, r, s692, h, rfl, rfl, rfl⟩; exact f44_spec h) ?_
  refine at_derive [3, 4] (ty25.fact (⟨a1.ID, a1.Fields⟩ : D_api_Record) [.int .i64 a1.ID, s683]) rfl (fun F w h => mk25 (x := (⟨a1.ID, a1.Fields⟩ : D_api_Record)) h) ?_
  refine at_hv rfl ?_
  refine hv_call0 [6, 0, 2, 1] (f41_spec h690) rfl rfl rfl rfl ?_
  rintro _ _ ⟨s691, rfl, rfl⟩
  refine at_open (A := Unit) 0 rfl (fun _ => True) (fun _ => [((Ty.int .i64).fact x689.1.ID [.int .i64 x689.1.ID]), ((Ty.slice ty69).fact x689.1.Fields [s691])]) (fun F w h => ⟨(), trivial, ex25 h⟩) (fun _ _ => ?_)
  refine at_inv 0 rfl (fun l693 => ?_)
  replace l693 : (-9223372036854775808) ≤ x689.1.ID ∧ x689.1.ID ≤ 9223372036854775807 := l693
  refine at_inv 3 rfl (fun l694 => ?_)
  replace l694 : (-9223372036854775808) ≤ x689.2 ∧ x689.2 ≤ 9223372036854775807 := l694
  refine at_lt (lt_extract rfl rfl) rfl ?_
  refine at_lt (lt_extract rfl rfl) rfl ?_
  refine at_one 1 rfl (fun ho695 => ?_)
  refine at_hv rfl ?_
  refine hv_store_box 0 (cs' := [.int .i64 x689.1.ID, s691]) rfl rfl ti25 rfl rfl rfl rfl (allc rfl (allc ho695 rfl)) ?_
  refine at_lt (lt_assign rfl) rfl ?_
  refine at_nil ?_
  refine at_then ?_
  refine at_ret ?_
  have hq := oinj hr
  clear hr
  subst hq
  refine at_derive [0, 1] (ty25.fact (⟨x689.1.ID, x689.1.Fields⟩ : D_api_Record) [.int .i64 x689.1.ID, s691]) rfl (fun F w h => mk25 (x := (⟨x689.1.ID, x689.1.Fields⟩ : D_api_Record)) h) ?_
  exact at_return (.tuple #[.agg #[.int .i64 x689.1.ID, s691], .int .i64 x689.2]) [0, 4] hS Tryz.results14 (.cons (.cell 0 rfl ti25 rfl rfl rfl rfl) (.cons (.tmp rfl) .nil)) rfl rfl ⟨s691, rfl, rfl⟩
/-! 82 bookplate/crosswalk.to$1 -/
def m82 (a0 : D_crosswalk_Entry) (c0 : Str) : Option Bool :=
  some (decide (a0.To = c0))
def post82 (r : Bool) (v : Value) (fs : List Fact) : Prop := v = .bool r ∧ fs = []
theorem en82 : Enters Tryz.prog 82 := ⟨_, Tryz.func82, by kernel_rfl, rfl⟩
theorem f82_spec {a0 : D_crosswalk_Entry} {c0 : Str} {s697 : Value} {b698 : Nat} {r : Bool} (hr : m82 a0 c0 = some r) : Spec Tryz.prog 82 [.agg #[str a0.From, str a0.To, s697], .pointer (some (Addr.add ⟨b698, 0, none⟩ 0))] [(ty76.fact a0 [str a0.From, str a0.To, s697]), (peek ⟨b698, 0, none⟩ [str c0]), (Ty.str.fact c0 [str c0])] (post82 r) := by
  refine spec_start (N := 8) Tryz.func82 (by kernel_rfl) rfl rfl rfl ?_
  intro g hS
  unfold m82 at hr
  refine at_open (A := Unit) 0 rfl (fun _ => True) (fun _ => [(Ty.str.fact a0.From [str a0.From]), (Ty.str.fact a0.To [str a0.To]), ((Ty.slice ty82).fact a0.Codes [s697])]) (fun F w h => ⟨(), trivial, ex76 h⟩) (fun _ _ => ?_)
  refine at_seq ?_
  refine at_region ?_
  refine at_hv rfl ?_
  refine hv_box (cs := [str a0.From, str a0.To, s697]) rfl rfl rfl (fun b699 => ?_)
  refine at_lt (lt_assign rfl) rfl ?_
  refine at_nil ?_
  refine at_then ?_
  refine at_seq ?_
  refine at_region ?_
  refine at_lt (lt_fieldAddr 1 rfl fld76_1 rfl) rfl ?_
  refine at_lt (lt_load_box 0 rfl ti9 rfl rfl rfl rfl rfl) rfl ?_
  refine at_lt (lt_load_peek 4 rfl ti9 rfl rfl rfl rfl rfl) rfl ?_
  refine at_lt (lt_seql rfl rfl) rfl ?_
  refine at_lt (lt_assign rfl) rfl ?_
  refine at_nil ?_
  refine at_then ?_
  refine at_ret ?_
  have hq := oinj hr
  clear hr
  subst hq
  exact at_return (.bool (decide (a0.To = c0))) [] hS Tryz.results82 (.cons (.tmp rfl) .nil) rfl rfl ⟨rfl, rfl⟩
/-! 46 bookplate/crosswalk.to -/
def m46 (a0 : (List D_crosswalk_Entry)) (a1 : Str) : Option (D_crosswalk_Entry × Bool) :=
  (m78 a0 (fun y0 => m82 y0 a1)).bind fun x703 =>
  some ((⟨x703.1.From, x703.1.To, x703.1.Codes⟩ : D_crosswalk_Entry), x703.2)
def post46 (r : (D_crosswalk_Entry × Bool)) (v : Value) (fs : List Fact) : Prop := ∃ s708 : Value, v = .tuple #[.agg #[str r.1.From, str r.1.To, s708], .bool r.2] ∧ fs = [(ty76.fact r.1 [str r.1.From, str r.1.To, s708])]
theorem en46 : Enters Tryz.prog 46 := ⟨_, Tryz.func46, by kernel_rfl, rfl⟩
theorem f46_spec {a0 : (List D_crosswalk_Entry)} {a1 : Str} {w700 : Value} {r : (D_crosswalk_Entry × Bool)} (hr : m46 a0 a1 = some r) : Spec Tryz.prog 46 [w700, str a1] [((Ty.slice ty76).fact a0 [w700]), (Ty.str.fact a1 [str a1])] (post46 r) := by
  refine spec_start (N := 11) Tryz.func46 (by kernel_rfl) rfl rfl rfl ?_
  intro g hS
  unfold m46 at hr
  refine at_seq ?_
  refine at_region ?_
  refine at_hv rfl ?_
  refine hv_box (cs := [str a1]) rfl rfl rfl (fun b701 => ?_)
  refine at_hv rfl ?_
  refine hv_alloc (cs := [str ([] : Str), str ([] : Str), (.slice none 0 0)]) ti76 rfl rfl (fun b702 => ?_)
  refine at_lt (lt_assign rfl) rfl ?_
  refine at_nil ?_
  refine at_then ?_
  refine at_seq ?_
  refine at_region ?_
  refine at_lt (lt_move rfl) rfl ?_
  refine at_lt (lt_makeFunc rfl) rfl ?_
  replace hr := obind hr
  obtain ⟨x703, h704, hr⟩ := hr
  refine at_freeze 1 rfl ?_
  refine at_fn 82 [.pointer (some (Addr.add ⟨b701, 0, none⟩ 0))] [0, 2] (sp98 (fun y0 => m82 y0 a1)) en82 rfl (by rintro _ _ _ ⟨a0, r, s706, h, rfl, rfl, rfl⟩; exact f82_spec h) ?_
  refine at_hv rfl ?_
  refine hv_call0 [2, 0] (f78_spec h704) rfl rfl rfl rfl ?_
  rintro _ _ ⟨s705, rfl, rfl⟩
  refine at_open (A := Unit) 0 rfl (fun _ => True) (fun _ => [(Ty.str.fact x703.1.From [str x703.1.From]), (Ty.str.fact x703.1.To [str x703.1.To]), ((Ty.slice ty82).fact x703.1.Codes [s705])]) (fun F w h => ⟨(), trivial, ex76 h⟩) (fun _ _ => ?_)
  refine at_lt (lt_extract rfl rfl) rfl ?_
  refine at_lt (lt_extract rfl rfl) rfl ?_
  refine at_one 2 rfl (fun ho707 => ?_)
  refine at_hv rfl ?_
  refine hv_store_box 0 (cs' := [str x703.1.From, str x703.1.To, s705]) rfl rfl ti76 rfl rfl rfl rfl (allc rfl (allc rfl (allc ho707 rfl))) ?_
  refine at_lt (lt_assign rfl) rfl ?_
  refine at_nil ?_
  refine at_then ?_
  refine at_ret ?_
  have hq := oinj hr
  clear hr
  subst hq
  refine at_derive [0, 1, 2] (ty76.fact (⟨x703.1.From, x703.1.To, x703.1.Codes⟩ : D_crosswalk_Entry) [str x703.1.From, str x703.1.To, s705]) rfl (fun F w h => mk76 (x := (⟨x703.1.From, x703.1.To, x703.1.Codes⟩ : D_crosswalk_Entry)) h) ?_
  exact at_return (.tuple #[.agg #[str x703.1.From, str x703.1.To, s705], .bool x703.2]) [0] hS Tryz.results46 (.cons (.cell 0 rfl ti76 rfl rfl rfl rfl) (.cons (.tmp rfl) .nil)) rfl rfl ⟨s705, rfl, rfl⟩
/-! 83 bookplate/crosswalk.code1$1 -/
def m83 (a0 : D_crosswalk_Pair) (c0 : UInt8) : Option Bool :=
  some (decide ((a0.To.toNat : Int) = (c0.toNat : Int)))
def post83 (r : Bool) (v : Value) (fs : List Fact) : Prop := v = .bool r ∧ fs = []
theorem en83 : Enters Tryz.prog 83 := ⟨_, Tryz.func83, by kernel_rfl, rfl⟩
theorem f83_spec {a0 : D_crosswalk_Pair} {c0 : UInt8} {b709 : Nat} {r : Bool} (hr : m83 a0 c0 = some r) : Spec Tryz.prog 83 [.agg #[.int .u8 (a0.From.toNat : Int), .int .u8 (a0.To.toNat : Int)], .pointer (some (Addr.add ⟨b709, 0, none⟩ 0))] [(ty82.fact a0 [.int .u8 (a0.From.toNat : Int), .int .u8 (a0.To.toNat : Int)]), (peek ⟨b709, 0, none⟩ [.int .u8 (c0.toNat : Int)])] (post83 r) := by
  refine spec_start (N := 8) Tryz.func83 (by kernel_rfl) rfl rfl rfl ?_
  intro g hS
  unfold m83 at hr
  refine at_seq ?_
  refine at_region ?_
  refine at_hv rfl ?_
  refine hv_box (cs := [.int .u8 (a0.From.toNat : Int), .int .u8 (a0.To.toNat : Int)]) rfl rfl rfl (fun b710 => ?_)
  refine at_lt (lt_assign rfl) rfl ?_
  refine at_nil ?_
  refine at_then ?_
  refine at_seq ?_
  refine at_region ?_
  refine at_lt (lt_fieldAddr 1 rfl fld82_1 rfl) rfl ?_
  refine at_lt (lt_load_box 0 rfl ti5 rfl rfl rfl rfl rfl) rfl ?_
  refine at_lt (lt_load_peek 1 rfl ti5 rfl rfl rfl rfl rfl) rfl ?_
  refine at_lt (lt_eql rfl rfl) rfl ?_
  refine at_lt (lt_assign rfl) rfl ?_
  refine at_nil ?_
  refine at_then ?_
  refine at_ret ?_
  have hq := oinj hr
  clear hr
  subst hq
  exact at_return (.bool (decide ((a0.To.toNat : Int) = (c0.toNat : Int)))) [] hS Tryz.results83 (.cons (.tmp rfl) .nil) rfl rfl ⟨rfl, rfl⟩
/-! 47 bookplate/crosswalk.code1 -/
def m47 (a0 : D_crosswalk_Entry) (a1 : UInt8) : Option (UInt8 × Bool) :=
  (m80 a0.Codes (fun y0 => m83 y0 a1)).bind fun x714 =>
  some (x714.1.From, x714.2)
def post47 (r : (UInt8 × Bool)) (v : Value) (fs : List Fact) : Prop := v = .tuple #[.int .u8 (r.1.toNat : Int), .bool r.2] ∧ fs = []
theorem en47 : Enters Tryz.prog 47 := ⟨_, Tryz.func47, by kernel_rfl, rfl⟩
theorem f47_spec {a0 : D_crosswalk_Entry} {a1 : UInt8} {s711 : Value} {r : (UInt8 × Bool)} (hr : m47 a0 a1 = some r) : Spec Tryz.prog 47 [.agg #[str a0.From, str a0.To, s711], .int .u8 (a1.toNat : Int)] [(ty76.fact a0 [str a0.From, str a0.To, s711])] (post47 r) := by
  refine spec_start (N := 18) Tryz.func47 (by kernel_rfl) rfl rfl rfl ?_
  intro g hS
  unfold m47 at hr
  refine at_open (A := Unit) 0 rfl (fun _ => True) (fun _ => [(Ty.str.fact a0.From [str a0.From]), (Ty.str.fact a0.To [str a0.To]), ((Ty.slice ty82).fact a0.Codes [s711])]) (fun F w h => ⟨(), trivial, ex76 h⟩) (fun _ _ => ?_)
  refine at_seq ?_
  refine at_region ?_
  refine at_hv rfl ?_
  refine hv_box (cs := [str a0.From, str a0.To, s711]) rfl rfl rfl (fun b712 => ?_)
  refine at_hv rfl ?_
  refine hv_box (cs := [.int .u8 (a1.toNat : Int)]) rfl rfl rfl (fun b713 => ?_)
  refine at_lt (lt_assign rfl) rfl ?_
  refine at_lt (lt_assign rfl) rfl ?_
  refine at_nil ?_
  refine at_then ?_
  refine at_seq ?_
  refine at_region ?_
  refine at_lt (lt_fieldAddr 2 rfl fld76_2 rfl) rfl ?_
  refine at_lt (lt_load_box 1 rfl ti74 rfl rfl rfl rfl rfl) rfl ?_
  refine at_lt (lt_makeFunc rfl) rfl ?_
  replace hr := obind hr
  obtain ⟨x714, h715, hr⟩ := hr
  refine at_freeze 0 rfl ?_
  refine at_fn 83 [.pointer (some (Addr.add ⟨b713, 0, none⟩ 0))] [0] (sp120 (fun y0 => m83 y0 a1)) en83 rfl (by rintro _ _ _ ⟨a0, r, h, rfl, rfl, rfl⟩; exact f83_spec h) ?_
  refine at_hv rfl ?_
  refine hv_call0 [4, 0] (f80_spec h715) rfl rfl rfl rfl ?_
  rintro _ _ ⟨rfl, rfl⟩
  refine at_lt (lt_move rfl) rfl ?_
  refine at_lt (lt_extract rfl rfl) rfl ?_
  refine at_lt (lt_extract rfl rfl) rfl ?_
  refine at_hv rfl ?_
  refine hv_alloc (cs := [.int .u8 0, .int .u8 0]) ti82 rfl rfl (fun b716 => ?_)
  refine at_hv rfl ?_
  refine hv_store_box 0 (cs' := [.int .u8 (x714.1.From.toNat : Int), .int .u8 (x714.1.To.toNat : Int)]) rfl rfl ti82 rfl rfl rfl rfl rfl ?_
  refine at_lt (lt_assign rfl) rfl ?_
  refine at_nil ?_
  refine at_then ?_
  refine at_seq ?_
  refine at_region ?_
  refine at_lt (lt_fieldAddr 0 rfl fld82_0 rfl) rfl ?_
  refine at_lt (lt_load_box 0 rfl ti5 rfl rfl rfl rfl rfl) rfl ?_
  refine at_lt (lt_move rfl) rfl ?_
  refine at_lt (lt_assign rfl) rfl ?_
  refine at_lt (lt_assign rfl) rfl ?_
  refine at_nil ?_
  refine at_then ?_
  refine at_ret ?_
  have hq := oinj hr
  clear hr
  subst hq
  exact at_return (.tuple #[.int .u8 (x714.1.From.toNat : Int), .bool x714.2]) [] hS Tryz.results47 (.cons (.tmp rfl) (.cons (.tmp rfl) .nil)) rfl rfl ⟨rfl, rfl⟩
/-! 64 bookplate/crosswalk.Witness$1 -/
def m64 (a0 : Str) (a1 : UInt8) : Option (D_api_Record × Bool) :=
  some ((⟨1, [(⟨a0, 32, 32, [(⟨a1, ([120] : Str)⟩ : D_api_Sub)]⟩ : D_api_Field)]⟩ : D_api_Record), true)
def post64 (r : (D_api_Record × Bool)) (v : Value) (fs : List Fact) : Prop := ∃ s722 : Value, v = .tuple #[.agg #[.int .i64 r.1.ID, s722], .bool r.2] ∧ fs = [(ty25.fact r.1 [.int .i64 r.1.ID, s722])]
theorem en64 : Enters Tryz.prog 64 := ⟨_, Tryz.func64, by kernel_rfl, rfl⟩
theorem f64_spec {a0 : Str} {a1 : UInt8} {r : (D_api_Record × Bool)} (hr : m64 a0 a1 = some r) : Spec Tryz.prog 64 [str a0, .int .u8 (a1.toNat : Int)] [(Ty.str.fact a0 [str a0])] (post64 r) := by
  refine spec_start (N := 14) Tryz.func64 (by kernel_rfl) rfl rfl rfl ?_
  intro g hS
  unfold m64 at hr
  refine at_seq ?_
  refine at_region ?_
  refine at_hv rfl ?_
  refine hv_alloc (cs := [.int .i64 0, (.slice none 0 0)]) ti25 rfl rfl (fun b717 => ?_)
  refine at_lt (lt_assign rfl) rfl ?_
  refine at_nil ?_
  refine at_then ?_
  refine at_seq ?_
  refine at_region ?_
  refine at_lt (lt_move rfl) rfl ?_
  refine at_lt (lt_abuild (cs := [.int .u8 32, .int .u8 32]) rfl ti64 und64 ti5 rfl) rfl ?_
  refine at_lt (lt_move rfl) rfl ?_
  refine at_lt (lt_build (cs := [.int .u8 (a1.toNat : Int), str ([120] : Str)]) rfl ti66 pl66 rfl) rfl ?_
  refine at_hv rfl ?_
  refine hv_bslice (cs := [.int .u8 (a1.toNat : Int), str ([120] : Str)]) rfl und67 ti66 rfl rfl rfl rfl rfl (fun s718 => ?_)
  refine at_rowv 0 rfl (fun ho719 => ?_)
  replace ho719 := row_one (by obtain ⟨a, c, h⟩ := ho719; exact ⟨a, _, c, h⟩)
  refine at_lt (lt_buildc (cs := [str a0, .int .u8 32, .int .u8 32, s718]) [(0, [str a0]), (1, [.int .u8 32, .int .u8 32]), (2, [s718])] rfl ti69 pl69 ⟨rfl, rfl, ⟨rfl, rfl, ⟨rfl, cells_one ho719, trivial⟩⟩⟩ rfl) rfl ?_
  refine at_hv rfl ?_
  refine hv_bslice (cs := [str a0, .int .u8 32, .int .u8 32, s718]) rfl und23 ti69 rfl rfl rfl rfl rfl (fun s720 => ?_)
  refine at_rowv 0 rfl (fun ho721 => ?_)
  replace ho721 := row_one (by obtain ⟨a, c, h⟩ := ho721; exact ⟨a, _, c, h⟩)
  refine at_lt (lt_buildc (cs := [.int .i64 1, s720]) [(0, [.int .i64 1]), (1, [s720])] rfl ti25 pl25 ⟨rfl, rfl, ⟨rfl, cells_one ho721, trivial⟩⟩ rfl) rfl ?_
  refine at_hv rfl ?_
  refine hv_store_box 0 (cs' := [.int .i64 1, s720]) rfl rfl ti25 rfl rfl rfl rfl (allc rfl (allc ho721 rfl)) ?_
  refine at_lt (lt_assign rfl) rfl ?_
  refine at_nil ?_
  refine at_then ?_
  refine at_ret ?_
  have hq := oinj hr
  clear hr
  subst hq
  refine at_int .i64 1 (by simp only [lo, hi]; omega) ?_
  refine at_rownil ty69 ?_
  refine at_rownil ty66 ?_
  refine at_str ([120] : Str) (by decide) ?_
  refine at_derive [0] (ty66.fact (⟨a1, ([120] : Str)⟩ : D_api_Sub) [.int .u8 (a1.toNat : Int), str ([120] : Str)]) rfl (fun F w h => mk66 (x := (⟨a1, ([120] : Str)⟩ : D_api_Sub)) h) ?_
  refine at_rowsnoc 2 0 rfl rfl ?_
  refine at_release 1 0 rfl rfl rfl (by simp only [List.nil_append, List.cons_append, List.length_cons, List.length_nil, ty66_bytes] <;> omega) ?_
  refine at_derive [7, 0] (ty69.fact (⟨a0, 32, 32, [(⟨a1, ([120] : Str)⟩ : D_api_Sub)]⟩ : D_api_Field) [str a0, .int .u8 32, .int .u8 32, s718]) rfl (fun F w h => mk69 (x := (⟨a0, 32, 32, [(⟨a1, ([120] : Str)⟩ : D_api_Sub)]⟩ : D_api_Field)) h) ?_
  refine at_rowsnoc 6 0 rfl rfl ?_
  refine at_release 0 0 rfl rfl rfl (by simp only [List.nil_append, List.cons_append, List.length_cons, List.length_nil, ty69_bytes] <;> omega) ?_
  refine at_derive [9, 0] (ty25.fact (⟨1, [(⟨a0, 32, 32, [(⟨a1, ([120] : Str)⟩ : D_api_Sub)]⟩ : D_api_Field)]⟩ : D_api_Record) [.int .i64 1, s720]) rfl (fun F w h => mk25 (x := (⟨1, [(⟨a0, 32, 32, [(⟨a1, ([120] : Str)⟩ : D_api_Sub)]⟩ : D_api_Field)]⟩ : D_api_Record)) h) ?_
  exact at_return (.tuple #[.agg #[.int .i64 1, s720], .bool true]) [0] hS Tryz.results64 (.cons (.cell 0 rfl ti25 rfl rfl rfl rfl) (.cons (.tmp rfl) .nil)) rfl rfl ⟨s720, rfl, rfl⟩
/-! 31 bookplate/crosswalk.Witness -/
def m31_l1 (a0 : (List D_crosswalk_Entry)) : Nat → Nat → Int → (List D_api_Field) → Option (Fl (D_api_Record × Bool) (Int × (List D_api_Field)))
  | 0, _, _, _ => none
  | k + 1, x730, x731, x732 =>
    if x730 < a0.length then
      (a0[x730]?).bind fun x742 =>
      Option.bind (α := Bool) (
        if x730 ≤ a0.length then
          (m46 (a0.take x730) x742.To).bind fun x762 =>
          some x762.2
        else none
      ) fun x757 =>
      if x757 = true then
        (x742.Codes[0]?).bind fun x772 =>
        (m64 x742.From x772.From).bind fun x776 =>
        some (Fl.ret ((⟨x776.1.ID, x776.1.Fields⟩ : D_api_Record), x776.2))
      else
        m31_l1 a0 k (x730 + 1) x731 x732
    else
      some (Fl.go (x731, x732))
def m31_l3 (x796 : D_crosswalk_Entry) : Nat → Nat → Int → (List D_api_Field) → Option (Fl (Fl (D_api_Record × Bool) (Int × (List D_api_Field))) (Int × (List D_api_Field)))
  | 0, _, _, _ => none
  | k + 1, x805, x806, x807 =>
    if x805 < x796.Codes.length then
      (x796.Codes[x805]?).bind fun x817 =>
      if x805 ≤ x796.Codes.length then
        (m47 (⟨([] : Str), ([] : Str), x796.Codes.take x805⟩ : D_crosswalk_Entry) x817.To).bind fun x826 =>
        if x826.2 = true then
          (m64 x796.From x817.From).bind fun x829 =>
          some (Fl.ret (Fl.ret ((⟨x829.1.ID, x829.1.Fields⟩ : D_api_Record), x829.2)))
        else
          m31_l3 x796 k (x805 + 1) x806 x807
      else none
    else
      some (Fl.go (x806, x807))
def m31_l2 (a0 : (List D_crosswalk_Entry)) : Nat → Nat → Int → (List D_api_Field) → Option (Fl (D_api_Record × Bool) (Int × (List D_api_Field)))
  | 0, _, _, _ => none
  | k + 1, x784, x785, x786 =>
    if x784 < a0.length then
      (a0[x784]?).bind fun x796 =>
      (m31_l3 x796 (x796.Codes.length + 1) 0 x785 x786).bind fun r => match r with
      | .ret x => some x
      | .go (x809, x810) =>
        m31_l2 a0 k (x784 + 1) x809 x810
    else
      some (Fl.go (x785, x786))
def m31 (a0 : (List D_crosswalk_Entry)) : Option (D_api_Record × Bool) :=
  (m27 a0).bind fun x725 =>
  if x725 = true then
    (m31_l1 a0 (a0.length + 1) 0 0 ([] : (List D_api_Field))).bind fun r => match r with
    | .ret x => some x
    | .go (x734, x735) =>
      (m31_l2 a0 (a0.length + 1) 0 x734 x735).bind fun r => match r with
      | .ret x => some x
      | .go (x788, x789) =>
        some ((⟨0, ([] : (List D_api_Field))⟩ : D_api_Record), false)
  else
    some ((⟨0, ([] : (List D_api_Field))⟩ : D_api_Record), false)
def post31 (r : (D_api_Record × Bool)) (v : Value) (fs : List Fact) : Prop := ∃ s836 : Value, v = .tuple #[.agg #[.int .i64 r.1.ID, s836], .bool r.2] ∧ fs = [(ty25.fact r.1 [.int .i64 r.1.ID, s836])]
theorem en31 : Enters Tryz.prog 31 := ⟨_, Tryz.func31, by kernel_rfl, rfl⟩
theorem f31_spec {a0 : (List D_crosswalk_Entry)} {w723 : Value} {r : (D_api_Record × Bool)} (hr : m31 a0 = some r) : Spec Tryz.prog 31 [w723] [((Ty.slice ty76).fact a0 [w723])] (post31 r) := by
  refine spec_start (N := 85) Tryz.func31 (by kernel_rfl) rfl rfl rfl ?_
  intro g hS
  unfold m31 at hr
  refine at_seq ?_
  refine at_region ?_
  refine at_hv rfl ?_
  refine hv_alloc (cs := [.int .i64 0, (.slice none 0 0)]) ti25 rfl rfl (fun b724 => ?_)
  refine at_lt (lt_assign rfl) rfl ?_
  refine at_nil ?_
  refine at_then ?_
  refine at_seq ?_
  refine at_seq ?_
  refine at_region ?_
  refine at_lt (lt_move rfl) rfl ?_
  replace hr := obind hr
  obtain ⟨x725, h726, hr⟩ := hr
  refine at_hv rfl ?_
  refine hv_call0 [0] (f27_spec h726) rfl rfl rfl rfl ?_
  rintro _ _ ⟨rfl, rfl⟩
  refine at_lt (lt_not rfl) rfl ?_
  refine at_nil ?_
  refine at_then ?_
  by_cases h727 : x725 = true
  · replace hr := ipos h727 hr
    refine at_false rfl (nt h727) ?_
    refine at_skip ?_
    refine at_then ?_
    refine at_seq ?_
    refine at_region ?_
    refine at_lt (lt_assign rfl) rfl ?_
    refine at_nil ?_
    refine at_then ?_
    refine at_seq ?_
    refine at_seq ?_
    refine at_region ?_
    refine at_lt (lt_move rfl) rfl ?_
    refine at_inv 0 rfl (fun i728 => ?_)
    have l729 := slice_len i728
    refine at_lt (lt_flen 0 rfl rfl und34) rfl ?_
    refine at_lt (lt_move rfl) rfl ?_
    refine at_nil ?_
    refine at_then ?_
    refine at_int .i64 0 (by simp only [lo, hi]; omega) ?_
    refine at_fnil ty69 none ?_
    replace hr := obind hr
    obtain ⟨r737, hl738, hk739⟩ := hr
    refine at_cutP (V := ((Int × (List D_api_Field))) × (Value)) (fun v => r737 = Fl.go v.1) (fun v => (⟨[(0, w723), (2, .pointer (some (Addr.add ⟨b724, 0, none⟩ 0))), (4, (.func (.func 64) #[] #[]))], [⟨b724, [.int .i64 v.1.1, v.2], 25⟩], [], [((Ty.int .i64).fact v.1.1 [.int .i64 v.1.1]), ((Ty.slice ty69).fact v.1.2 [v.2]), ((Ty.slice ty76).fact a0 [w723])]⟩ : St)) ?_ ?_
    · refine at_block ?_
      refine at_loopW (σ := (Nat × Int × (List D_api_Field))) (V := Value) (r := r737) (fun n s => m31_l1 a0 n s.1 s.2.1 s.2.2) (fun s e => (⟨[(0, w723), (2, .pointer (some (Addr.add ⟨b724, 0, none⟩ 0))), (4, (.func (.func 64) #[] #[])), (19, w723), (20, .int .i64 (a0.length : Int)), (21, .int .i64 (s.1 : Int))], [⟨b724, [.int .i64 s.2.1, e], 25⟩], [], [((Ty.int .i64).fact (s.1 : Int) [.int .i64 (s.1 : Int)]), ((Ty.int .i64).fact s.2.1 [.int .i64 s.2.1]), ((Ty.slice ty69).fact s.2.2 [e]), ((Ty.slice ty76).fact a0 [w723])]⟩ : St)) (fun _ => rfl) _ (0, 0, ([] : (List D_api_Field))) (.slice none 0 0) hl738 ⟨⟨rfl, ⟨rfl, ⟨rfl, ⟨rfl, ⟨rfl, ⟨rfl, trivial⟩⟩⟩⟩⟩⟩, ⟨[true], rfl⟩, ⟨[], rfl⟩, ⟨[1, 1, 0, 2], rfl⟩⟩ ?_
      clear hl738
      intro n s hr v733
      obtain ⟨x730, x731, x732⟩ := s
      skip
      change m31_l1 a0 (n + 1) x730 x731 x732 = some r737 at hr
      change At _ _ (⟨[(0, w723), (2, .pointer (some (Addr.add ⟨b724, 0, none⟩ 0))), (4, (.func (.func 64) #[] #[])), (19, w723), (20, .int .i64 (a0.length : Int)), (21, .int .i64 (x730 : Int))], [⟨b724, [.int .i64 x731, v733], 25⟩], [], [((Ty.int .i64).fact (x730 : Int) [.int .i64 (x730 : Int)]), ((Ty.int .i64).fact x731 [.int .i64 x731]), ((Ty.slice ty69).fact x732 [v733]), ((Ty.slice ty76).fact a0 [w723])]⟩ : St) _
      rw [m31_l1] at hr
      refine at_inv 1 rfl (fun l740 => ?_)
      replace l740 : (-9223372036854775808) ≤ x731 ∧ x731 ≤ 9223372036854775807 := l740
      refine at_seq ?_
      refine at_region ?_
      refine at_lt (lt_lss rfl rfl) rfl ?_
      refine at_nil ?_
      refine at_then ?_
      refine at_seq ?_
      by_cases h741 : x730 < a0.length
      · replace hr := ipos h741 hr
        refine at_true rfl (decide_eq_true (by omega)) ?_
        refine at_skip ?_
        refine at_then ?_
        refine at_seq ?_
        refine at_block ?_
        refine at_seq ?_
        refine at_region ?_
        refine at_lt (lt_move rfl) rfl ?_
        replace hr := obind hr
        obtain ⟨x742, h743, hr⟩ := hr
        have := (List.getElem?_eq_some_iff.1 h743).1
        refine at_elem 3 rfl (nat_at' h743) (fun p745 ec pa746 => ?_)
        refine at_open (A := Value) 0 rfl _ _ (fun F w h => op76 h) ?_
        rintro s744 rfl
        refine at_lt (lt_idx rfl rfl pa746 und34 ti76) rfl ?_
        refine at_lt (lt_load_peek 4 rfl ti76 rfl rfl rfl rfl rfl) rfl ?_
        refine at_hv rfl ?_
        refine hv_alloc (cs := [str ([] : Str), str ([] : Str), (.slice none 0 0)]) ti76 rfl rfl (fun b747 => ?_)
        refine at_lt (lt_assign rfl) rfl ?_
        refine at_one 2 rfl (fun ho748 => ?_)
        refine at_hv rfl ?_
        refine hv_store_box 0 (cs' := [str x742.From, str x742.To, s744]) rfl rfl ti76 rfl rfl rfl rfl (allc rfl (allc rfl (allc ho748 rfl))) ?_
        refine at_nil ?_
        refine at_then ?_
        refine at_seq ?_
        replace hr := obind hr
        obtain ⟨x757, hc758, hr⟩ := hr
        refine at_cut (V := Unit) (fun e => (⟨[(0, w723), (2, .pointer (some (Addr.add ⟨b724, 0, none⟩ 0))), (4, (.func (.func 64) #[] #[])), (6, .pointer (some (Addr.add ⟨b747, 0, none⟩ 0))), (8, .bool x757), (19, w723), (20, .int .i64 (a0.length : Int)), (21, .int .i64 (x730 : Int))], [⟨b747, [str x742.From, str x742.To, s744], 76⟩, ⟨b724, [.int .i64 x731, v733], 25⟩], [], [((Ty.slice ty76).fact a0 [w723]), ((Ty.int .i64).fact (x730 : Int) [.int .i64 (x730 : Int)]), (Ty.str.fact x742.From [str x742.From]), (Ty.str.fact x742.To [str x742.To]), ((Ty.slice ty82).fact x742.Codes [s744]), ((Ty.int .i64).fact x731 [.int .i64 x731]), ((Ty.slice ty69).fact x732 [v733])]⟩ : St)) ?_ ?_
        · clear hr
          have hr := hc758
          clear hc758
          replace hr := imust hr
          obtain ⟨h759, hr⟩ := hr
          refine at_cutf_h 8 x730 rfl (by omega) (fun s760 hc761 => ?_)
          replace hr := obind hr
          obtain ⟨x762, h763, hr⟩ := hr
          refine aa_start 12 (by kernel_rfl) ?_
          refine aa_pure (bs' := [true, false, false, false, false, false, false, false, false, false, false, false]) 0 rfl (by kernel_rfl) rfl rfl (lt_move rfl) rfl (ts_in 0 0 rfl rfl) ?_
          refine aa_pure (bs' := [true, true, false, false, false, false, false, false, false, false, false, false]) 1 rfl (by kernel_rfl) rfl rfl (lt_move rfl) rfl (ts_in 0 0 rfl rfl) ?_
          refine aa_pure (bs' := [true, true, true, false, false, false, false, false, false, false, false, false]) 2 rfl (by kernel_rfl) rfl rfl (lt_cut_h x730 rfl rfl (by omega) und34 ti76 hc761) rfl (ts_in 0 0 rfl rfl) ?_
          refine aa_pure (bs' := [true, true, true, true, false, false, false, false, false, false, false, false]) 3 rfl (by kernel_rfl) rfl rfl (lt_fieldAddr 1 rfl fld76_1 rfl) rfl (ts_in 0 0 rfl rfl) ?_
          refine aa_load (bs' := [true, true, true, true, true, false, false, false, false, false, false, false]) 4 rfl (by kernel_rfl) rfl rfl (lt_load_box 0 rfl ti9 rfl rfl rfl rfl rfl) rfl (ts_in 0 0 rfl rfl) ?_
          refine aa_all (rs := [5, 9]) (by kernel_rfl) rfl (ts_in 0 0 rfl rfl) (List.forall_mem_cons.2 ⟨?_, (List.forall_mem_singleton.2 ?_)⟩)
          · refine aa_op rfl rfl ?_
            refine hv_call0 [0, 2] (f46_spec h763) rfl rfl rfl rfl ?_
            rintro _ _ ⟨s764, rfl, rfl⟩
            refine at_open (A := Unit) 0 rfl (fun _ => True) (fun _ => [(Ty.str.fact x762.1.From [str x762.1.From]), (Ty.str.fact x762.1.To [str x762.1.To]), ((Ty.slice ty82).fact x762.1.Codes [s764])]) (fun F w h => ⟨(), trivial, ex76 h⟩) (fun _ _ => ?_)
            refine aa_pure (bs' := [true, true, true, true, true, true, true, false, false, false, false, false]) 6 rfl (by kernel_rfl) rfl rfl (lt_move rfl) rfl (ts_in 0 4 rfl rfl) ?_
            refine aa_pure (bs' := [true, true, true, true, true, true, true, true, false, false, false, false]) 7 rfl (by kernel_rfl) rfl rfl (lt_extract rfl rfl) rfl (ts_in 0 4 rfl rfl) ?_
            refine aa_pure (bs' := [true, true, true, true, true, true, true, true, true, false, false, false]) 8 rfl (by kernel_rfl) rfl rfl (lt_extract rfl rfl) rfl (ts_in 0 4 rfl rfl) ?_
            refine aa_all (rs := [9]) (by kernel_rfl) rfl (ts_in 0 4 rfl rfl) (List.forall_mem_singleton.2 ?_)
            refine aa_op rfl rfl ?_
            refine hv_alloc (cs := [str ([] : Str), str ([] : Str), (.slice none 0 0)]) ti76 rfl rfl (fun b767 => ?_)
            refine aa_all (rs := [10]) (by kernel_rfl) rfl (ts_in 1 4 rfl rfl) (List.forall_mem_singleton.2 ?_)
            refine at_one 2 rfl (fun ho768 => ?_)
            refine aa_op rfl rfl ?_
            refine hv_store_box 0 (cs' := [str x762.1.From, str x762.1.To, s764]) rfl rfl ti76 rfl rfl rfl rfl (allc rfl (allc rfl (allc ho768 rfl))) ?_
            refine aa_pure (bs' := [true, true, true, true, true, true, true, true, true, true, true, true]) 11 rfl (by kernel_rfl) rfl rfl (lt_assign rfl) rfl (ts_in 1 4 rfl rfl) ?_
            refine aa_done (by kernel_rfl) (ts_in 1 4 rfl rfl) ?_
            have hq := oinj hr
            clear hr
            subst hq
            exact at_leaf () ⟨⟨rfl, ⟨rfl, ⟨rfl, ⟨rfl, ⟨rfl, ⟨rfl, ⟨rfl, ⟨rfl, trivial⟩⟩⟩⟩⟩⟩⟩⟩, ⟨[false, true, true], rfl⟩, ⟨[], rfl⟩, ⟨[13, 10, 5, 6, 7, 11, 12], rfl⟩⟩
          · refine aa_op rfl rfl ?_
            refine hv_alloc (cs := [str ([] : Str), str ([] : Str), (.slice none 0 0)]) ti76 rfl rfl (fun b769 => ?_)
            refine aa_all (rs := [5]) (by kernel_rfl) rfl (ts_in 1 0 rfl rfl) (List.forall_mem_singleton.2 ?_)
            refine aa_op rfl rfl ?_
            refine hv_call0 [0, 2] (f46_spec h763) rfl rfl rfl rfl ?_
            rintro _ _ ⟨s764, rfl, rfl⟩
            refine at_open (A := Unit) 0 rfl (fun _ => True) (fun _ => [(Ty.str.fact x762.1.From [str x762.1.From]), (Ty.str.fact x762.1.To [str x762.1.To]), ((Ty.slice ty82).fact x762.1.Codes [s764])]) (fun F w h => ⟨(), trivial, ex76 h⟩) (fun _ _ => ?_)
            refine aa_pure (bs' := [true, true, true, true, true, true, true, false, false, true, false, false]) 6 rfl (by kernel_rfl) rfl rfl (lt_move rfl) rfl (ts_in 1 4 rfl rfl) ?_
            refine aa_pure (bs' := [true, true, true, true, true, true, true, true, false, true, false, false]) 7 rfl (by kernel_rfl) rfl rfl (lt_extract rfl rfl) rfl (ts_in 1 4 rfl rfl) ?_
            refine aa_pure (bs' := [true, true, true, true, true, true, true, true, true, true, false, false]) 8 rfl (by kernel_rfl) rfl rfl (lt_extract rfl rfl) rfl (ts_in 1 4 rfl rfl) ?_
            refine aa_all (rs := [10]) (by kernel_rfl) rfl (ts_in 1 4 rfl rfl) (List.forall_mem_singleton.2 ?_)
            refine at_one 2 rfl (fun ho770 => ?_)
            refine aa_op rfl rfl ?_
            refine hv_store_box 0 (cs' := [str x762.1.From, str x762.1.To, s764]) rfl rfl ti76 rfl rfl rfl rfl (allc rfl (allc rfl (allc ho770 rfl))) ?_
            refine aa_pure (bs' := [true, true, true, true, true, true, true, true, true, true, true, true]) 11 rfl (by kernel_rfl) rfl rfl (lt_assign rfl) rfl (ts_in 1 4 rfl rfl) ?_
            refine aa_done (by kernel_rfl) (ts_in 1 4 rfl rfl) ?_
            have hq := oinj hr
            clear hr
            subst hq
            exact at_leaf () ⟨⟨rfl, ⟨rfl, ⟨rfl, ⟨rfl, ⟨rfl, ⟨rfl, ⟨rfl, ⟨rfl, trivial⟩⟩⟩⟩⟩⟩⟩⟩, ⟨[false, true, true], rfl⟩, ⟨[], rfl⟩, ⟨[13, 10, 5, 6, 7, 11, 12], rfl⟩⟩
        · clear hc758
          intro _
          change At _ _ (⟨[(0, w723), (2, .pointer (some (Addr.add ⟨b724, 0, none⟩ 0))), (4, (.func (.func 64) #[] #[])), (6, .pointer (some (Addr.add ⟨b747, 0, none⟩ 0))), (8, .bool x757), (19, w723), (20, .int .i64 (a0.length : Int)), (21, .int .i64 (x730 : Int))], [⟨b747, [str x742.From, str x742.To, s744], 76⟩, ⟨b724, [.int .i64 x731, v733], 25⟩], [], [((Ty.slice ty76).fact a0 [w723]), ((Ty.int .i64).fact (x730 : Int) [.int .i64 (x730 : Int)]), (Ty.str.fact x742.From [str x742.From]), (Ty.str.fact x742.To [str x742.To]), ((Ty.slice ty82).fact x742.Codes [s744]), ((Ty.int .i64).fact x731 [.int .i64 x731]), ((Ty.slice ty69).fact x732 [v733])]⟩ : St) _
          refine at_then ?_
          refine at_seq ?_
          refine at_region ?_
          refine at_lt (lt_move rfl) rfl ?_
          refine at_nil ?_
          refine at_then ?_
          by_cases h771 : x757 = true
          · replace hr := ipos h771 hr
            refine at_true rfl h771 ?_
            refine at_seq ?_
            replace hr := obind hr
            obtain ⟨x772, h773, hr⟩ := hr
            have := (List.getElem?_eq_some_iff.1 h773).1
            refine at_elem 4 rfl (nat_at' (i := 0) h773) (fun p774 ec pa775 => ?_)
            refine at_open (A := Unit) 0 rfl _ _ (fun F w h => op82 h) ?_
            rintro _ rfl
            replace hr := obind hr
            obtain ⟨x776, h777, hr⟩ := hr
            refine aa_start 11 (by kernel_rfl) ?_
            refine aa_pure (bs' := [true, false, false, false, false, false, false, false, false, false, false, false, false]) 0 rfl (by kernel_rfl) rfl rfl (lt_move rfl) rfl (ts_in 0 0 rfl rfl) ?_
            refine aa_pure (bs' := [true, true, false, false, false, false, false, false, false, false, false, false, false]) 1 rfl (by kernel_rfl) rfl rfl (lt_fieldAddr 0 rfl fld76_0 rfl) rfl (ts_in 0 0 rfl rfl) ?_
            refine aa_load (bs' := [true, true, true, false, false, false, false, false, false, false, false, false, false]) 2 rfl (by kernel_rfl) rfl rfl (lt_load_box 0 rfl ti9 rfl rfl rfl rfl rfl) rfl (ts_in 0 0 rfl rfl) ?_
            refine aa_pure (bs' := [true, true, true, true, false, false, false, false, false, false, false, false, false]) 3 rfl (by kernel_rfl) rfl rfl (lt_fieldAddr 2 rfl fld76_2 rfl) rfl (ts_in 0 0 rfl rfl) ?_
            refine aa_load (bs' := [true, true, true, true, true, false, false, false, false, false, false, false, false]) 4 rfl (by kernel_rfl) rfl rfl (lt_load_box 0 rfl ti74 rfl rfl rfl rfl rfl) rfl (ts_in 0 0 rfl rfl) ?_
            refine aa_pure (bs' := [true, true, true, true, true, true, false, false, false, false, false, false, false]) 5 rfl (by kernel_rfl) rfl rfl (lt_idx rfl rfl pa775 und74 ti82) rfl (ts_in 0 0 rfl rfl) ?_
            refine aa_pure (bs' := [true, true, true, true, true, true, true, false, false, false, false, false, false]) 6 rfl (by kernel_rfl) rfl rfl (lt_fieldAddr 0 rfl fld82_0 rfl) rfl (ts_in 0 0 rfl rfl) ?_
            refine aa_load (bs' := [true, true, true, true, true, true, true, true, false, false, false, false, false]) 7 rfl (by kernel_rfl) rfl rfl (lt_load_peek 1 rfl ti5 rfl rfl rfl rfl rfl) rfl (ts_in 0 0 rfl rfl) ?_
            refine aa_all (rs := [8]) (by kernel_rfl) rfl (ts_in 0 0 rfl rfl) (List.forall_mem_singleton.2 ?_)
            refine aa_op rfl rfl ?_
            refine hv_call0 [4] (f64_spec h777) rfl rfl rfl rfl ?_
            rintro _ _ ⟨s778, rfl, rfl⟩
            refine at_open (A := Unit) 0 rfl (fun _ => True) (fun _ => [((Ty.int .i64).fact x776.1.ID [.int .i64 x776.1.ID]), ((Ty.slice ty69).fact x776.1.Fields [s778])]) (fun F w h => ⟨(), trivial, ex25 h⟩) (fun _ _ => ?_)
            refine at_inv 0 rfl (fun l781 => ?_)
            replace l781 : (-9223372036854775808) ≤ x776.1.ID ∧ x776.1.ID ≤ 9223372036854775807 := l781
            refine aa_pure (bs' := [true, true, true, true, true, true, true, true, true, true, false, false, false]) 9 rfl (by kernel_rfl) rfl rfl (lt_extract rfl rfl) rfl (ts_in 0 3 rfl rfl) ?_
            refine aa_pure (bs' := [true, true, true, true, true, true, true, true, true, true, true, false, false]) 10 rfl (by kernel_rfl) rfl rfl (lt_extract rfl rfl) rfl (ts_in 0 3 rfl rfl) ?_
            refine aa_all (rs := [11]) (by kernel_rfl) rfl (ts_in 0 3 rfl rfl) (List.forall_mem_singleton.2 ?_)
            refine at_one 1 rfl (fun ho782 => ?_)
            refine aa_op rfl rfl ?_
            refine hv_store_box 1 (cs' := [.int .i64 x776.1.ID, s778]) rfl rfl ti25 rfl rfl rfl rfl (allc rfl (allc ho782 rfl)) ?_
            refine aa_all (rs := [12]) (by kernel_rfl) rfl (ts_out rfl) (List.forall_mem_singleton.2 ?_)
            refine aa_op rfl rfl ?_
            refine hv_lt (lt_assign rfl) rfl ?_
            refine aa_done (by kernel_rfl) (ts_out rfl) ?_
            refine at_then ?_
            refine at_ret ?_
            have hq := oinj hr
            clear hr
            subst hq
            have hq := oinj hk739
            clear hk739
            subst hq
            refine at_in_ret ?_
            refine at_then_ret ?_
            refine at_then_ret ?_
            refine at_in_ret ?_
            refine at_then_ret ?_
            refine at_then_ret ?_
            refine at_derive [0, 1] (ty25.fact (⟨x776.1.ID, x776.1.Fields⟩ : D_api_Record) [.int .i64 x776.1.ID, s778]) rfl (fun F w h => mk25 (x := (⟨x776.1.ID, x776.1.Fields⟩ : D_api_Record)) h) ?_
            exact at_return (.tuple #[.agg #[.int .i64 x776.1.ID, s778], .bool x776.2]) [0] hS Tryz.results31 (.cons (.cell 1 rfl ti25 rfl rfl rfl rfl) (.cons (.tmp rfl) .nil)) rfl rfl ⟨s778, rfl, rfl⟩
          · replace hr := ineg h771 hr
            refine at_false rfl (bf h771) ?_
            refine at_skip ?_
            refine at_in ?_
            refine at_then ?_
            refine at_region ?_
            refine at_lt (lt_add rfl rfl (by simp only [lo, hi]; omega)) rfl ?_
            refine at_lt (lt_move rfl) rfl ?_
            refine at_nil ?_
            refine at_int .i64 (x730 + 1 : Int) (by simp only [lo, hi]; omega) ?_
            exact at_again (σ := (Nat × Int × (List D_api_Field))) (V := Value) (lp := fun n s => m31_l1 a0 n s.1 s.2.1 s.2.2) (S := fun s e => (⟨[(0, w723), (2, .pointer (some (Addr.add ⟨b724, 0, none⟩ 0))), (4, (.func (.func 64) #[] #[])), (19, w723), (20, .int .i64 (a0.length : Int)), (21, .int .i64 (s.1 : Int))], [⟨b724, [.int .i64 s.2.1, e], 25⟩], [], [((Ty.int .i64).fact (s.1 : Int) [.int .i64 (s.1 : Int)]), ((Ty.int .i64).fact s.2.1 [.int .i64 s.2.1]), ((Ty.slice ty69).fact s.2.2 [e]), ((Ty.slice ty76).fact a0 [w723])]⟩ : St)) (x730 + 1, x731, x732) v733 hr ⟨⟨rfl, ⟨rfl, ⟨rfl, ⟨rfl, ⟨rfl, ⟨rfl, trivial⟩⟩⟩⟩⟩⟩, ⟨[false, true], rfl⟩, ⟨[], rfl⟩, ⟨[0, 6, 7, 1], rfl⟩⟩
      · replace hr := ineg h741 hr
        refine at_false rfl (decide_eq_false (by omega)) ?_
        refine at_exit ?_
        refine at_then_exit ?_
        refine at_then_exit ?_
        refine at_in_exit ?_
        have hq := oinj hr
        clear hr
        subst hq
        exact at_leafP ((x731, x732), v733) rfl ⟨⟨rfl, ⟨rfl, ⟨rfl, trivial⟩⟩⟩, ⟨[true], rfl⟩, ⟨[], rfl⟩, ⟨[1, 2, 3], rfl⟩⟩
    · rintro ⟨⟨x734, x735⟩, v736⟩ hp
      replace hr := hk739
      subst hp
      clear hl738
      change At _ _ (⟨[(0, w723), (2, .pointer (some (Addr.add ⟨b724, 0, none⟩ 0))), (4, (.func (.func 64) #[] #[]))], [⟨b724, [.int .i64 x734, v736], 25⟩], [], [((Ty.int .i64).fact x734 [.int .i64 x734]), ((Ty.slice ty69).fact x735 [v736]), ((Ty.slice ty76).fact a0 [w723])]⟩ : St) _
      refine at_inv 0 rfl (fun l783 => ?_)
      replace l783 : (-9223372036854775808) ≤ x734 ∧ x734 ≤ 9223372036854775807 := l783
      refine at_then ?_
      refine at_seq ?_
      refine at_seq ?_
      refine at_region ?_
      refine at_lt (lt_move rfl) rfl ?_
      refine at_lt (lt_flen 2 rfl rfl und34) rfl ?_
      refine at_lt (lt_move rfl) rfl ?_
      refine at_nil ?_
      refine at_then ?_
      refine at_int .i64 0 (by simp only [lo, hi]; omega) ?_
      replace hr := obind hr
      obtain ⟨r791, hl792, hk793⟩ := hr
      refine at_cutP (V := ((Int × (List D_api_Field))) × (Value)) (fun v => r791 = Fl.go v.1) (fun v => (⟨[(2, .pointer (some (Addr.add ⟨b724, 0, none⟩ 0)))], [⟨b724, [.int .i64 v.1.1, v.2], 25⟩], [], [((Ty.int .i64).fact v.1.1 [.int .i64 v.1.1]), ((Ty.slice ty69).fact v.1.2 [v.2])]⟩ : St)) ?_ ?_
      · refine at_block ?_
        refine at_loopW (σ := (Nat × Int × (List D_api_Field))) (V := Value) (r := r791) (fun n s => m31_l2 a0 n s.1 s.2.1 s.2.2) (fun s e => (⟨[(2, .pointer (some (Addr.add ⟨b724, 0, none⟩ 0))), (4, (.func (.func 64) #[] #[])), (48, w723), (49, .int .i64 (a0.length : Int)), (50, .int .i64 (s.1 : Int))], [⟨b724, [.int .i64 s.2.1, e], 25⟩], [], [((Ty.int .i64).fact (s.1 : Int) [.int .i64 (s.1 : Int)]), ((Ty.int .i64).fact s.2.1 [.int .i64 s.2.1]), ((Ty.slice ty69).fact s.2.2 [e]), ((Ty.slice ty76).fact a0 [w723])]⟩ : St)) (fun _ => rfl) _ (0, x734, x735) v736 hl792 ⟨⟨rfl, ⟨rfl, ⟨rfl, ⟨rfl, ⟨rfl, trivial⟩⟩⟩⟩⟩, ⟨[true], rfl⟩, ⟨[], rfl⟩, ⟨[0, 1, 2, 3], rfl⟩⟩ ?_
        clear hl792
        intro n s hr v787
        obtain ⟨x784, x785, x786⟩ := s
        skip
        change m31_l2 a0 (n + 1) x784 x785 x786 = some r791 at hr
        change At _ _ (⟨[(2, .pointer (some (Addr.add ⟨b724, 0, none⟩ 0))), (4, (.func (.func 64) #[] #[])), (48, w723), (49, .int .i64 (a0.length : Int)), (50, .int .i64 (x784 : Int))], [⟨b724, [.int .i64 x785, v787], 25⟩], [], [((Ty.int .i64).fact (x784 : Int) [.int .i64 (x784 : Int)]), ((Ty.int .i64).fact x785 [.int .i64 x785]), ((Ty.slice ty69).fact x786 [v787]), ((Ty.slice ty76).fact a0 [w723])]⟩ : St) _
        rw [m31_l2] at hr
        refine at_inv 1 rfl (fun l794 => ?_)
        replace l794 : (-9223372036854775808) ≤ x785 ∧ x785 ≤ 9223372036854775807 := l794
        refine at_seq ?_
        refine at_region ?_
        refine at_lt (lt_lss rfl rfl) rfl ?_
        refine at_nil ?_
        refine at_then ?_
        refine at_seq ?_
        by_cases h795 : x784 < a0.length
        · replace hr := ipos h795 hr
          refine at_true rfl (decide_eq_true (by omega)) ?_
          refine at_skip ?_
          refine at_then ?_
          refine at_seq ?_
          refine at_block ?_
          refine at_seq ?_
          refine at_region ?_
          replace hr := obind hr
          obtain ⟨x796, h797, hr⟩ := hr
          have := (List.getElem?_eq_some_iff.1 h797).1
          refine at_elem 3 rfl (nat_at' h797) (fun p799 ec pa800 => ?_)
          refine at_open (A := Value) 0 rfl _ _ (fun F w h => op76 h) ?_
          rintro s798 rfl
          refine at_lt (lt_idx rfl rfl pa800 und34 ti76) rfl ?_
          refine at_lt (lt_load_peek 4 rfl ti76 rfl rfl rfl rfl rfl) rfl ?_
          refine at_hv rfl ?_
          refine hv_alloc (cs := [str ([] : Str), str ([] : Str), (.slice none 0 0)]) ti76 rfl rfl (fun b801 => ?_)
          refine at_one 2 rfl (fun ho802 => ?_)
          refine at_hv rfl ?_
          refine hv_store_box 0 (cs' := [str x796.From, str x796.To, s798]) rfl rfl ti76 rfl rfl rfl rfl (allc rfl (allc rfl (allc ho802 rfl))) ?_
          refine at_nil ?_
          refine at_then ?_
          refine at_seq ?_
          refine at_region ?_
          refine at_lt (lt_fieldAddr 2 rfl fld76_2 rfl) rfl ?_
          refine at_lt (lt_load_box 0 rfl ti74 rfl rfl rfl rfl rfl) rfl ?_
          refine at_inv 2 rfl (fun i803 => ?_)
          have l804 := slice_len i803
          refine at_lt (lt_flen 2 rfl rfl und74) rfl ?_
          refine at_lt (lt_move rfl) rfl ?_
          refine at_nil ?_
          refine at_then ?_
          refine at_int .i64 0 (by simp only [lo, hi]; omega) ?_
          replace hr := obind hr
          obtain ⟨r812, hl813, hk814⟩ := hr
          refine at_cutP (V := ((Int × (List D_api_Field))) × (Value)) (fun v => r812 = Fl.go v.1) (fun v => (⟨[(2, .pointer (some (Addr.add ⟨b724, 0, none⟩ 0))), (4, (.func (.func 64) #[] #[])), (48, w723), (49, .int .i64 (a0.length : Int)), (50, .int .i64 (x784 : Int))], [⟨b724, [.int .i64 v.1.1, v.2], 25⟩], [], [((Ty.int .i64).fact v.1.1 [.int .i64 v.1.1]), ((Ty.slice ty69).fact v.1.2 [v.2]), ((Ty.slice ty76).fact a0 [w723]), ((Ty.int .i64).fact (x784 : Int) [.int .i64 (x784 : Int)])]⟩ : St)) ?_ ?_
          · refine at_block ?_
            refine at_loopW (σ := (Nat × Int × (List D_api_Field))) (V := Value) (r := r812) (fun n s => m31_l3 x796 n s.1 s.2.1 s.2.2) (fun s e => (⟨[(2, .pointer (some (Addr.add ⟨b724, 0, none⟩ 0))), (4, (.func (.func 64) #[] #[])), (10, .pointer (some (Addr.add ⟨b801, 0, none⟩ 0))), (48, w723), (49, .int .i64 (a0.length : Int)), (50, .int .i64 (x784 : Int)), (55, s798), (56, .int .i64 (x796.Codes.length : Int)), (57, .int .i64 (s.1 : Int))], [⟨b801, [str x796.From, str x796.To, s798], 76⟩, ⟨b724, [.int .i64 s.2.1, e], 25⟩], [], [((Ty.int .i64).fact (s.1 : Int) [.int .i64 (s.1 : Int)]), ((Ty.int .i64).fact s.2.1 [.int .i64 s.2.1]), ((Ty.slice ty69).fact s.2.2 [e]), ((Ty.slice ty76).fact a0 [w723]), ((Ty.int .i64).fact (x784 : Int) [.int .i64 (x784 : Int)]), ((Ty.slice ty82).fact x796.Codes [s798]), (Ty.str.fact x796.From [str x796.From]), (Ty.str.fact x796.To [str x796.To])]⟩ : St)) (fun _ => rfl) _ (0, x785, x786) v787 hl813 ⟨⟨rfl, ⟨rfl, ⟨rfl, ⟨rfl, ⟨rfl, ⟨rfl, ⟨rfl, ⟨rfl, ⟨rfl, trivial⟩⟩⟩⟩⟩⟩⟩⟩⟩, ⟨[true, true], rfl⟩, ⟨[], rfl⟩, ⟨[0, 7, 8, 9, 6, 3, 1, 2], rfl⟩⟩ ?_
            clear hl813
            intro n s hr v808
            obtain ⟨x805, x806, x807⟩ := s
            skip
            change m31_l3 x796 (n + 1) x805 x806 x807 = some r812 at hr
            change At _ _ (⟨[(2, .pointer (some (Addr.add ⟨b724, 0, none⟩ 0))), (4, (.func (.func 64) #[] #[])), (10, .pointer (some (Addr.add ⟨b801, 0, none⟩ 0))), (48, w723), (49, .int .i64 (a0.length : Int)), (50, .int .i64 (x784 : Int)), (55, s798), (56, .int .i64 (x796.Codes.length : Int)), (57, .int .i64 (x805 : Int))], [⟨b801, [str x796.From, str x796.To, s798], 76⟩, ⟨b724, [.int .i64 x806, v808], 25⟩], [], [((Ty.int .i64).fact (x805 : Int) [.int .i64 (x805 : Int)]), ((Ty.int .i64).fact x806 [.int .i64 x806]), ((Ty.slice ty69).fact x807 [v808]), ((Ty.slice ty76).fact a0 [w723]), ((Ty.int .i64).fact (x784 : Int) [.int .i64 (x784 : Int)]), ((Ty.slice ty82).fact x796.Codes [s798]), (Ty.str.fact x796.From [str x796.From]), (Ty.str.fact x796.To [str x796.To])]⟩ : St) _
            rw [m31_l3] at hr
            refine at_inv 1 rfl (fun l815 => ?_)
            replace l815 : (-9223372036854775808) ≤ x806 ∧ x806 ≤ 9223372036854775807 := l815
            refine at_seq ?_
            refine at_region ?_
            refine at_lt (lt_lss rfl rfl) rfl ?_
            refine at_nil ?_
            refine at_then ?_
            refine at_seq ?_
            by_cases h816 : x805 < x796.Codes.length
            · replace hr := ipos h816 hr
              refine at_true rfl (decide_eq_true (by omega)) ?_
              refine at_skip ?_
              refine at_then ?_
              refine at_seq ?_
              refine at_block ?_
              refine at_seq ?_
              refine at_region ?_
              refine at_lt (lt_move rfl) rfl ?_
              replace hr := obind hr
              obtain ⟨x817, h818, hr⟩ := hr
              have := (List.getElem?_eq_some_iff.1 h818).1
              refine at_elem 5 rfl (nat_at' h818) (fun p819 ec pa820 => ?_)
              refine at_open (A := Unit) 0 rfl _ _ (fun F w h => op82 h) ?_
              rintro _ rfl
              refine at_lt (lt_idx rfl rfl pa820 und74 ti82) rfl ?_
              refine at_lt (lt_load_peek 1 rfl ti82 rfl rfl rfl rfl rfl) rfl ?_
              refine at_hv rfl ?_
              refine hv_alloc (cs := [.int .u8 0, .int .u8 0]) ti82 rfl rfl (fun b821 => ?_)
              refine at_lt (lt_assign rfl) rfl ?_
              refine at_hv rfl ?_
              refine hv_store_box 0 (cs' := [.int .u8 (x817.From.toNat : Int), .int .u8 (x817.To.toNat : Int)]) rfl rfl ti82 rfl rfl rfl rfl rfl ?_
              refine at_nil ?_
              refine at_then ?_
              refine at_seq ?_
              replace hr := imust hr
              obtain ⟨h822, hr⟩ := hr
              refine at_cutf_h 7 x805 rfl (by omega) (fun s823 hc824 => ?_)
              refine at_one 0 rfl (fun ho825 => ?_)
              replace hr := obind hr
              obtain ⟨x826, h827, hr⟩ := hr
              refine aa_start 13 (by kernel_rfl) ?_
              refine aa_pure (bs' := [true, false, false, false, false, false, false, false, false, false, false, false, false]) 0 rfl (by kernel_rfl) rfl rfl (lt_fieldAddr 2 rfl fld76_2 rfl) rfl (ts_in 0 0 rfl rfl) ?_
              refine aa_load (bs' := [true, true, false, false, false, false, false, false, false, false, false, false, false]) 1 rfl (by kernel_rfl) rfl rfl (lt_load_box 1 rfl ti74 rfl rfl rfl rfl rfl) rfl (ts_in 0 0 rfl rfl) ?_
              refine aa_pure (bs' := [true, true, true, false, false, false, false, false, false, false, false, false, false]) 2 rfl (by kernel_rfl) rfl rfl (lt_move rfl) rfl (ts_in 0 0 rfl rfl) ?_
              refine aa_pure (bs' := [true, true, true, true, false, false, false, false, false, false, false, false, false]) 3 rfl (by kernel_rfl) rfl rfl (lt_cut_h x805 rfl rfl (by omega) und74 ti82 hc824) rfl (ts_in 0 0 rfl rfl) ?_
              refine aa_pure (bs' := [true, true, true, true, true, false, false, false, false, false, false, false, false]) 4 rfl (by kernel_rfl) rfl rfl (lt_buildc (cs := [str ([] : Str), str ([] : Str), s823]) [(2, [s823])] rfl ti76 pl76 ⟨rfl, cells_one ho825, trivial⟩ rfl) rfl (ts_in 0 0 rfl rfl) ?_
              refine aa_pure (bs' := [true, true, true, true, true, true, false, false, false, false, false, false, false]) 5 rfl (by kernel_rfl) rfl rfl (lt_fieldAddr 1 rfl fld82_1 rfl) rfl (ts_in 0 0 rfl rfl) ?_
              refine aa_load (bs' := [true, true, true, true, true, true, true, false, false, false, false, false, false]) 6 rfl (by kernel_rfl) rfl rfl (lt_load_box 0 rfl ti5 rfl rfl rfl rfl rfl) rfl (ts_in 0 0 rfl rfl) ?_
              refine aa_all (rs := [7]) (by kernel_rfl) rfl (ts_in 0 0 rfl rfl) (List.forall_mem_singleton.2 ?_)
              refine at_str ([] : Str) (by decide) ?_
              refine at_derive [0, 0, 1] (ty76.fact (⟨([] : Str), ([] : Str), x796.Codes.take x805⟩ : D_crosswalk_Entry) [str ([] : Str), str ([] : Str), s823]) rfl (fun F w h => mk76 (x := (⟨([] : Str), ([] : Str), x796.Codes.take x805⟩ : D_crosswalk_Entry)) h) ?_
              refine aa_op rfl rfl ?_
              refine hv_call0 [0] (f47_spec h827) rfl rfl rfl rfl ?_
              rintro _ _ ⟨rfl, rfl⟩
              refine aa_pure (bs' := [true, true, true, true, true, true, true, true, true, false, false, false, false]) 8 rfl (by kernel_rfl) rfl rfl (lt_move rfl) rfl (ts_in 0 2 rfl rfl) ?_
              refine aa_pure (bs' := [true, true, true, true, true, true, true, true, true, true, false, false, false]) 9 rfl (by kernel_rfl) rfl rfl (lt_extract rfl rfl) rfl (ts_in 0 2 rfl rfl) ?_
              refine aa_pure (bs' := [true, true, true, true, true, true, true, true, true, true, true, false, false]) 10 rfl (by kernel_rfl) rfl rfl (lt_extract rfl rfl) rfl (ts_in 0 2 rfl rfl) ?_
              refine aa_pure (bs' := [true, true, true, true, true, true, true, true, true, true, true, true, false]) 11 rfl (by kernel_rfl) rfl rfl (lt_assign rfl) rfl (ts_in 0 2 rfl rfl) ?_
              refine aa_pure (bs' := [true, true, true, true, true, true, true, true, true, true, true, true, true]) 12 rfl (by kernel_rfl) rfl rfl (lt_assign rfl) rfl (ts_in 0 2 rfl rfl) ?_
              refine aa_done (by kernel_rfl) (ts_in 0 2 rfl rfl) ?_
              refine at_then ?_
              refine at_seq ?_
              refine at_region ?_
              refine at_lt (lt_move rfl) rfl ?_
              refine at_nil ?_
              refine at_then ?_
              by_cases h828 : x826.2 = true
              · replace hr := ipos h828 hr
                refine at_true rfl h828 ?_
                refine at_seq ?_
                refine at_region ?_
                refine at_lt (lt_move rfl) rfl ?_
                refine at_lt (lt_fieldAddr 0 rfl fld76_0 rfl) rfl ?_
                refine at_lt (lt_load_box 1 rfl ti9 rfl rfl rfl rfl rfl) rfl ?_
                refine at_lt (lt_fieldAddr 0 rfl fld82_0 rfl) rfl ?_
                refine at_lt (lt_load_box 0 rfl ti5 rfl rfl rfl rfl rfl) rfl ?_
                replace hr := obind hr
                obtain ⟨x829, h830, hr⟩ := hr
                refine at_hv rfl ?_
                refine hv_call0 [11] (f64_spec h830) rfl rfl rfl rfl ?_
                rintro _ _ ⟨s831, rfl, rfl⟩
                refine at_open (A := Unit) 0 rfl (fun _ => True) (fun _ => [((Ty.int .i64).fact x829.1.ID [.int .i64 x829.1.ID]), ((Ty.slice ty69).fact x829.1.Fields [s831])]) (fun F w h => ⟨(), trivial, ex25 h⟩) (fun _ _ => ?_)
                refine at_inv 0 rfl (fun l832 => ?_)
                replace l832 : (-9223372036854775808) ≤ x829.1.ID ∧ x829.1.ID ≤ 9223372036854775807 := l832
                refine at_lt (lt_extract rfl rfl) rfl ?_
                refine at_lt (lt_extract rfl rfl) rfl ?_
                refine at_one 1 rfl (fun ho833 => ?_)
                refine at_hv rfl ?_
                refine hv_store_box 2 (cs' := [.int .i64 x829.1.ID, s831]) rfl rfl ti25 rfl rfl rfl rfl (allc rfl (allc ho833 rfl)) ?_
                refine at_lt (lt_assign rfl) rfl ?_
                refine at_nil ?_
                refine at_then ?_
                refine at_ret ?_
                have hq := oinj hr
                clear hr
                subst hq
                have hq := oinj hk814
                clear hk814
                subst hq
                have hq := oinj hk793
                clear hk793
                subst hq
                refine at_in_ret ?_
                refine at_then_ret ?_
                refine at_then_ret ?_
                refine at_in_ret ?_
                refine at_then_ret ?_
                refine at_in_ret ?_
                refine at_then_ret ?_
                refine at_then_ret ?_
                refine at_in_ret ?_
                refine at_then_ret ?_
                refine at_then_ret ?_
                refine at_derive [0, 1] (ty25.fact (⟨x829.1.ID, x829.1.Fields⟩ : D_api_Record) [.int .i64 x829.1.ID, s831]) rfl (fun F w h => mk25 (x := (⟨x829.1.ID, x829.1.Fields⟩ : D_api_Record)) h) ?_
                exact at_return (.tuple #[.agg #[.int .i64 x829.1.ID, s831], .bool x829.2]) [0] hS Tryz.results31 (.cons (.cell 2 rfl ti25 rfl rfl rfl rfl) (.cons (.tmp rfl) .nil)) rfl rfl ⟨s831, rfl, rfl⟩
              · replace hr := ineg h828 hr
                refine at_false rfl (bf h828) ?_
                refine at_skip ?_
                refine at_in ?_
                refine at_then ?_
                refine at_region ?_
                refine at_lt (lt_add rfl rfl (by simp only [lo, hi]; omega)) rfl ?_
                refine at_lt (lt_move rfl) rfl ?_
                refine at_nil ?_
                refine at_int .i64 (x805 + 1 : Int) (by simp only [lo, hi]; omega) ?_
                exact at_again (σ := (Nat × Int × (List D_api_Field))) (V := Value) (lp := fun n s => m31_l3 x796 n s.1 s.2.1 s.2.2) (S := fun s e => (⟨[(2, .pointer (some (Addr.add ⟨b724, 0, none⟩ 0))), (4, (.func (.func 64) #[] #[])), (10, .pointer (some (Addr.add ⟨b801, 0, none⟩ 0))), (48, w723), (49, .int .i64 (a0.length : Int)), (50, .int .i64 (x784 : Int)), (55, s798), (56, .int .i64 (x796.Codes.length : Int)), (57, .int .i64 (s.1 : Int))], [⟨b801, [str x796.From, str x796.To, s798], 76⟩, ⟨b724, [.int .i64 s.2.1, e], 25⟩], [], [((Ty.int .i64).fact (s.1 : Int) [.int .i64 (s.1 : Int)]), ((Ty.int .i64).fact s.2.1 [.int .i64 s.2.1]), ((Ty.slice ty69).fact s.2.2 [e]), ((Ty.slice ty76).fact a0 [w723]), ((Ty.int .i64).fact (x784 : Int) [.int .i64 (x784 : Int)]), ((Ty.slice ty82).fact x796.Codes [s798]), (Ty.str.fact x796.From [str x796.From]), (Ty.str.fact x796.To [str x796.To])]⟩ : St)) (x805 + 1, x806, x807) v808 hr ⟨⟨rfl, ⟨rfl, ⟨rfl, ⟨rfl, ⟨rfl, ⟨rfl, ⟨rfl, ⟨rfl, ⟨rfl, trivial⟩⟩⟩⟩⟩⟩⟩⟩⟩, ⟨[false, true, true], rfl⟩, ⟨[], rfl⟩, ⟨[0, 7, 8, 9, 10, 11, 12, 13], rfl⟩⟩
            · replace hr := ineg h816 hr
              refine at_false rfl (decide_eq_false (by omega)) ?_
              refine at_exit ?_
              refine at_then_exit ?_
              refine at_then_exit ?_
              refine at_in_exit ?_
              have hq := oinj hr
              clear hr
              subst hq
              exact at_leafP ((x806, x807), v808) rfl ⟨⟨rfl, ⟨rfl, ⟨rfl, ⟨rfl, ⟨rfl, trivial⟩⟩⟩⟩⟩, ⟨[false, true], rfl⟩, ⟨[], rfl⟩, ⟨[1, 2, 3, 4], rfl⟩⟩
          · rintro ⟨⟨x809, x810⟩, v811⟩ hp
            replace hr := hk814
            subst hp
            clear hl813
            change At _ _ (⟨[(2, .pointer (some (Addr.add ⟨b724, 0, none⟩ 0))), (4, (.func (.func 64) #[] #[])), (48, w723), (49, .int .i64 (a0.length : Int)), (50, .int .i64 (x784 : Int))], [⟨b724, [.int .i64 x809, v811], 25⟩], [], [((Ty.int .i64).fact x809 [.int .i64 x809]), ((Ty.slice ty69).fact x810 [v811]), ((Ty.slice ty76).fact a0 [w723]), ((Ty.int .i64).fact (x784 : Int) [.int .i64 (x784 : Int)])]⟩ : St) _
            refine at_inv 0 rfl (fun l834 => ?_)
            replace l834 : (-9223372036854775808) ≤ x809 ∧ x809 ≤ 9223372036854775807 := l834
            refine at_in ?_
            refine at_then ?_
            refine at_region ?_
            refine at_lt (lt_add rfl rfl (by simp only [lo, hi]; omega)) rfl ?_
            refine at_lt (lt_move rfl) rfl ?_
            refine at_nil ?_
            refine at_int .i64 (x784 + 1 : Int) (by simp only [lo, hi]; omega) ?_
            exact at_again (σ := (Nat × Int × (List D_api_Field))) (V := Value) (lp := fun n s => m31_l2 a0 n s.1 s.2.1 s.2.2) (S := fun s e => (⟨[(2, .pointer (some (Addr.add ⟨b724, 0, none⟩ 0))), (4, (.func (.func 64) #[] #[])), (48, w723), (49, .int .i64 (a0.length : Int)), (50, .int .i64 (s.1 : Int))], [⟨b724, [.int .i64 s.2.1, e], 25⟩], [], [((Ty.int .i64).fact (s.1 : Int) [.int .i64 (s.1 : Int)]), ((Ty.int .i64).fact s.2.1 [.int .i64 s.2.1]), ((Ty.slice ty69).fact s.2.2 [e]), ((Ty.slice ty76).fact a0 [w723])]⟩ : St)) (x784 + 1, x809, x810) v811 hr ⟨⟨rfl, ⟨rfl, ⟨rfl, ⟨rfl, ⟨rfl, trivial⟩⟩⟩⟩⟩, ⟨[true], rfl⟩, ⟨[], rfl⟩, ⟨[0, 1, 2, 3], rfl⟩⟩
        · replace hr := ineg h795 hr
          refine at_false rfl (decide_eq_false (by omega)) ?_
          refine at_exit ?_
          refine at_then_exit ?_
          refine at_then_exit ?_
          refine at_in_exit ?_
          have hq := oinj hr
          clear hr
          subst hq
          exact at_leafP ((x785, x786), v787) rfl ⟨⟨rfl, trivial⟩, ⟨[true], rfl⟩, ⟨[], rfl⟩, ⟨[1, 2], rfl⟩⟩
      · rintro ⟨⟨x788, x789⟩, v790⟩ hp
        replace hr := hk793
        subst hp
        clear hl792
        change At _ _ (⟨[(2, .pointer (some (Addr.add ⟨b724, 0, none⟩ 0)))], [⟨b724, [.int .i64 x788, v790], 25⟩], [], [((Ty.int .i64).fact x788 [.int .i64 x788]), ((Ty.slice ty69).fact x789 [v790])]⟩ : St) _
        refine at_inv 0 rfl (fun l835 => ?_)
        replace l835 : (-9223372036854775808) ≤ x788 ∧ x788 ≤ 9223372036854775807 := l835
        refine at_then ?_
        refine at_seq ?_
        refine at_region ?_
        refine at_lt (lt_build (cs := [.int .i64 0, (.slice none 0 0)]) rfl ti25 pl25 rfl) rfl ?_
        refine at_hv rfl ?_
        refine hv_store_box 0 (cs' := [.int .i64 0, (.slice none 0 0)]) rfl rfl ti25 rfl rfl rfl rfl rfl ?_
        refine at_lt (lt_assign rfl) rfl ?_
        refine at_nil ?_
        refine at_then ?_
        refine at_ret ?_
        have hq := oinj hr
        clear hr
        subst hq
        refine at_int .i64 0 (by simp only [lo, hi]; omega) ?_
        refine at_fnil ty69 none ?_
        refine at_derive [1, 0] (ty25.fact (⟨0, ([] : (List D_api_Field))⟩ : D_api_Record) [.int .i64 0, (.slice none 0 0)]) rfl (fun F w h => mk25 (x := (⟨0, ([] : (List D_api_Field))⟩ : D_api_Record)) h) ?_
        exact at_return (.tuple #[.agg #[.int .i64 0, (.slice none 0 0)], .bool false]) [0] hS Tryz.results31 (.cons (.cell 0 rfl ti25 rfl rfl rfl rfl) (.cons (.tmp rfl) .nil)) rfl rfl ⟨((.slice none 0 0)), rfl, rfl⟩
  · replace hr := ineg h727 hr
    refine at_true rfl (nf (bf h727)) ?_
    refine at_seq ?_
    refine at_region ?_
    refine at_lt (lt_build (cs := [.int .i64 0, (.slice none 0 0)]) rfl ti25 pl25 rfl) rfl ?_
    refine at_hv rfl ?_
    refine hv_store_box 0 (cs' := [.int .i64 0, (.slice none 0 0)]) rfl rfl ti25 rfl rfl rfl rfl rfl ?_
    refine at_lt (lt_assign rfl) rfl ?_
    refine at_nil ?_
    refine at_then ?_
    refine at_ret ?_
    have hq := oinj hr
    clear hr
    subst hq
    refine at_then_ret ?_
    refine at_int .i64 0 (by simp only [lo, hi]; omega) ?_
    refine at_fnil ty69 none ?_
    refine at_derive [1, 0] (ty25.fact (⟨0, ([] : (List D_api_Field))⟩ : D_api_Record) [.int .i64 0, (.slice none 0 0)]) rfl (fun F w h => mk25 (x := (⟨0, ([] : (List D_api_Field))⟩ : D_api_Record)) h) ?_
    exact at_return (.tuple #[.agg #[.int .i64 0, (.slice none 0 0)], .bool false]) [0] hS Tryz.results31 (.cons (.cell 0 rfl ti25 rfl rfl rfl rfl) (.cons (.tmp rfl) .nil)) rfl rfl ⟨((.slice none 0 0)), rfl, rfl⟩
/-! 17 bookplate/crosswalk.Lossless -/
def m17 (a0 : (List D_crosswalk_Entry)) : Option Bool :=
  (m31 a0).bind fun x838 =>
  (m27 a0).bind fun x844 =>
  if x844 = true then
    some (!x838.2)
  else
    some false
def post17 (r : Bool) (v : Value) (fs : List Fact) : Prop := v = .bool r ∧ fs = []
theorem en17 : Enters Tryz.prog 17 := ⟨_, Tryz.func17, by kernel_rfl, rfl⟩
theorem f17_spec {a0 : (List D_crosswalk_Entry)} {w837 : Value} {r : Bool} (hr : m17 a0 = some r) : Spec Tryz.prog 17 [w837] [((Ty.slice ty76).fact a0 [w837])] (post17 r) := by
  refine spec_start (N := 16) Tryz.func17 (by kernel_rfl) rfl rfl rfl ?_
  intro g hS
  unfold m17 at hr
  refine at_seq ?_
  refine at_region ?_
  refine at_lt (lt_assign rfl) rfl ?_
  refine at_nil ?_
  refine at_then ?_
  refine at_seq ?_
  refine at_region ?_
  refine at_lt (lt_move rfl) rfl ?_
  replace hr := obind hr
  obtain ⟨x838, h839, hr⟩ := hr
  refine at_hv rfl ?_
  refine hv_call0 [0] (f31_spec h839) rfl rfl rfl rfl ?_
  rintro _ _ ⟨s840, rfl, rfl⟩
  refine at_open (A := Unit) 0 rfl (fun _ => True) (fun _ => [((Ty.int .i64).fact x838.1.ID [.int .i64 x838.1.ID]), ((Ty.slice ty69).fact x838.1.Fields [s840])]) (fun F w h => ⟨(), trivial, ex25 h⟩) (fun _ _ => ?_)
  refine at_inv 0 rfl (fun l841 => ?_)
  replace l841 : (-9223372036854775808) ≤ x838.1.ID ∧ x838.1.ID ≤ 9223372036854775807 := l841
  refine at_lt (lt_move rfl) rfl ?_
  refine at_lt (lt_extract rfl rfl) rfl ?_
  refine at_lt (lt_extract rfl rfl) rfl ?_
  refine at_hv rfl ?_
  refine hv_alloc (cs := [.int .i64 0, (.slice none 0 0)]) ti25 rfl rfl (fun b842 => ?_)
  refine at_one 1 rfl (fun ho843 => ?_)
  refine at_hv rfl ?_
  refine hv_store_box 0 (cs' := [.int .i64 x838.1.ID, s840]) rfl rfl ti25 rfl rfl rfl rfl (allc rfl (allc ho843 rfl)) ?_
  refine at_lt (lt_assign rfl) rfl ?_
  refine at_nil ?_
  refine at_then ?_
  refine at_seq ?_
  refine at_region ?_
  refine at_lt (lt_move rfl) rfl ?_
  replace hr := obind hr
  obtain ⟨x844, h845, hr⟩ := hr
  refine at_hv rfl ?_
  refine hv_call0 [3] (f27_spec h845) rfl rfl rfl rfl ?_
  rintro _ _ ⟨rfl, rfl⟩
  refine at_lt (lt_move rfl) rfl ?_
  by_cases h846 : x844 = true
  · replace hr := ipos h846 hr
    refine at_on rfl rfl h846 ?_
    refine at_lt (lt_move rfl) rfl ?_
    refine at_on rfl rfl h846 ?_
    refine at_lt (lt_not rfl) rfl ?_
    refine at_lt (lt_pick true rfl h846 rfl) rfl ?_
    refine at_lt (lt_assign rfl) rfl ?_
    refine at_nil ?_
    refine at_then ?_
    refine at_ret ?_
    have hq := oinj hr
    clear hr
    subst hq
    exact at_return (.bool (!x838.2)) [] hS Tryz.results17 (.cons (.tmp rfl) .nil) rfl rfl ⟨rfl, rfl⟩
  · replace hr := ineg h846 hr
    refine at_off rfl rfl (bf h846) rfl ?_
    refine at_off rfl rfl (bf h846) rfl ?_
    refine at_lt (lt_pick false rfl (bf h846) rfl) rfl ?_
    refine at_lt (lt_assign rfl) rfl ?_
    refine at_nil ?_
    refine at_then ?_
    refine at_ret ?_
    have hq := oinj hr
    clear hr
    subst hq
    exact at_return (.bool false) [] hS Tryz.results17 (.cons (.tmp rfl) .nil) rfl rfl ⟨rfl, rfl⟩
/-! 113 internal/stringslite.Index -/
def m113 (a0 : Str) (a1 : Str) : Option Int :=
  if a1.length = 0 then
    some 0
  else
    if a1 = a0 then
      some 0
    else
      if a1.length = 1 then
        (a1[0]?).bind fun c851 =>
        (m145 a0 c851).bind fun x853 =>
        some x853
      else
        if a0.length ≤ a1.length then
          some (-1)
        else
          none
def post113 (r : Int) (v : Value) (fs : List Fact) : Prop := v = .int .i64 r ∧ fs = [((Ty.int .i64).fact r [.int .i64 r])]
theorem en113 : Enters Tryz.prog 113 := ⟨_, Tryz.func113, by kernel_rfl, rfl⟩
theorem f113_spec {a0 : Str} {a1 : Str} {r : Int} (hr : m113 a0 a1 = some r) : Spec Tryz.prog 113 [str a0, str a1] [(Ty.str.fact a0 [str a0]), (Ty.str.fact a1 [str a1])] (post113 r) := by
  refine spec_start (N := 143) Tryz.func113 (by kernel_rfl) rfl rfl rfl ?_
  intro g hS
  unfold m113 at hr
  refine at_seq ?_
  refine at_region ?_
  refine at_lt (lt_assign rfl) rfl ?_
  refine at_nil ?_
  refine at_then ?_
  refine at_seq ?_
  refine at_region ?_
  refine at_lt (lt_move rfl) rfl ?_
  refine at_inv 1 rfl (fun l847 => ?_)
  replace l847 : a1.length ≤ 9223372036854775807 := l847
  refine at_lt (lt_slen rfl und9) rfl ?_
  refine at_lt (lt_assign rfl) rfl ?_
  refine at_nil ?_
  refine at_then ?_
  refine at_seq ?_
  refine at_block ?_
  refine at_seq ?_
  refine at_region ?_
  refine at_lt (lt_move rfl) rfl ?_
  refine at_lt (lt_eql rfl rfl) rfl ?_
  refine at_lt (lt_move rfl) rfl ?_
  by_cases h848 : a1.length = 0
  · replace hr := ipos h848 hr
    refine at_off rfl rfl (decide_eq_true (by omega)) rfl ?_
    refine at_off rfl rfl (decide_eq_true (by omega)) rfl ?_
    refine at_off rfl rfl (decide_eq_true (by omega)) rfl ?_
    refine at_lt (lt_pick true rfl (decide_eq_true (by omega)) rfl) rfl ?_
    refine at_lt (lt_assign rfl) rfl ?_
    refine at_nil ?_
    refine at_then ?_
    refine at_true rfl rfl ?_
    refine at_seq ?_
    refine at_region ?_
    refine at_lt (lt_assign rfl) rfl ?_
    refine at_nil ?_
    refine at_then ?_
    refine at_ret ?_
    have hq := oinj hr
    clear hr
    subst hq
    refine at_in_ret ?_
    refine at_then_ret ?_
    refine at_int .i64 0 (by simp only [lo, hi]; omega) ?_
    exact at_return (.int .i64 0) [0] hS Tryz.results113 (.cons (.tmp rfl) .nil) rfl rfl ⟨rfl, rfl⟩
  · replace hr := ineg h848 hr
    refine at_on rfl rfl (decide_eq_false (by omega)) ?_
    refine at_lt (lt_move rfl) rfl ?_
    refine at_on rfl rfl (decide_eq_false (by omega)) ?_
    refine at_lt (lt_move rfl) rfl ?_
    refine at_on rfl rfl (decide_eq_false (by omega)) ?_
    refine at_lt (lt_seql rfl rfl) rfl ?_
    refine at_lt (lt_pick false rfl (decide_eq_false (by omega)) rfl) rfl ?_
    refine at_lt (lt_assign rfl) rfl ?_
    refine at_nil ?_
    refine at_then ?_
    by_cases h849 : a1 = a0
    · replace hr := ipos h849 hr
      refine at_true rfl (decide_eq_true h849) ?_
      refine at_seq ?_
      refine at_region ?_
      refine at_lt (lt_assign rfl) rfl ?_
      refine at_nil ?_
      refine at_then ?_
      refine at_ret ?_
      have hq := oinj hr
      clear hr
      subst hq
      refine at_in_ret ?_
      refine at_then_ret ?_
      refine at_int .i64 0 (by simp only [lo, hi]; omega) ?_
      exact at_return (.int .i64 0) [0] hS Tryz.results113 (.cons (.tmp rfl) .nil) rfl rfl ⟨rfl, rfl⟩
    · replace hr := ineg h849 hr
      refine at_false rfl (decide_eq_false h849) ?_
      refine at_seq ?_
      refine at_region ?_
      refine at_lt (lt_move rfl) rfl ?_
      refine at_lt (lt_eql rfl rfl) rfl ?_
      refine at_lt (lt_assign rfl) rfl ?_
      refine at_nil ?_
      refine at_then ?_
      by_cases h850 : a1.length = 1
      · replace hr := ipos h850 hr
        refine at_true rfl (decide_eq_true (by omega)) ?_
        refine at_seq ?_
        refine at_region ?_
        refine at_lt (lt_move rfl) rfl ?_
        refine at_lt (lt_move rfl) rfl ?_
        replace hr := obind hr
        obtain ⟨c851, h852, hr⟩ := hr
        have := (List.getElem?_eq_some_iff.1 h852).1
        have := c851.toNat_lt
        refine at_lt (lt_sidx rfl rfl und9 (by omega) h852) rfl ?_
        replace hr := obind hr
        obtain ⟨x853, h854, hr⟩ := hr
        refine at_hv rfl ?_
        refine hv_call0 [0] (f145_spec h854) rfl rfl rfl rfl ?_
        rintro _ _ ⟨rfl, rfl⟩
        refine at_inv 0 rfl (fun l855 => ?_)
        replace l855 : (-9223372036854775808) ≤ x853 ∧ x853 ≤ 9223372036854775807 := l855
        refine at_lt (lt_assign rfl) rfl ?_
        refine at_nil ?_
        refine at_then ?_
        refine at_ret ?_
        have hq := oinj hr
        clear hr
        subst hq
        refine at_in_ret ?_
        refine at_then_ret ?_
        exact at_return (.int .i64 x853) [0] hS Tryz.results113 (.cons (.tmp rfl) .nil) rfl rfl ⟨rfl, rfl⟩
      · replace hr := ineg h850 hr
        refine at_false rfl (decide_eq_false (by omega)) ?_
        refine at_seq ?_
        refine at_region ?_
        refine at_lt (lt_move rfl) rfl ?_
        refine at_lt (lt_move rfl) rfl ?_
        refine at_inv 0 rfl (fun l856 => ?_)
        replace l856 : a0.length ≤ 9223372036854775807 := l856
        refine at_lt (lt_slen rfl und9) rfl ?_
        refine at_lt (lt_geq rfl rfl) rfl ?_
        refine at_lt (lt_assign rfl) rfl ?_
        refine at_nil ?_
        refine at_then ?_
        by_cases h857 : a0.length ≤ a1.length
        · replace hr := ipos h857 hr
          refine at_true rfl (decide_eq_true (by omega)) ?_
          refine at_seq ?_
          refine at_region ?_
          refine at_lt (lt_assign rfl) rfl ?_
          refine at_nil ?_
          refine at_then ?_
          refine at_ret ?_
          have hq := oinj hr
          clear hr
          subst hq
          refine at_in_ret ?_
          refine at_then_ret ?_
          refine at_int .i64 (-1) (by simp only [lo, hi]; omega) ?_
          exact at_return (.int .i64 (-1)) [0] hS Tryz.results113 (.cons (.tmp rfl) .nil) rfl rfl ⟨rfl, rfl⟩
        · replace hr := ineg h857 hr
          cases hr
/-! 85 internal/stringslite.Cut -/
def m85 (a0 : Str) (a1 : Str) : Option (Str × Str × Bool) :=
  (m113 a0 a1).bind fun x860 =>
  if (0 : Int) ≤ x860 then
    if 0 ≤ x860 ∧ x860.toNat ≤ a0.length then
      if 0 ≤ IntKind.i64.wrap (x860 + (a1.length : Int)) ∧ (IntKind.i64.wrap (x860 + (a1.length : Int))).toNat ≤ a0.length then
        some (a0.take x860.toNat, a0.drop ((IntKind.i64.wrap (x860 + (a1.length : Int))).toNat), true)
      else none
    else none
  else
    some (a0, ([] : Str), false)
def post85 (r : (Str × Str × Bool)) (v : Value) (fs : List Fact) : Prop := v = .tuple #[str r.1, str r.2.1, .bool r.2.2] ∧ fs = [(Ty.str.fact r.1 [str r.1]), (Ty.str.fact r.2.1 [str r.2.1])]
theorem en85 : Enters Tryz.prog 85 := ⟨_, Tryz.func85, by kernel_rfl, rfl⟩
theorem f85_spec {a0 : Str} {a1 : Str} {r : (Str × Str × Bool)} (hr : m85 a0 a1 = some r) : Spec Tryz.prog 85 [str a0, str a1] [(Ty.str.fact a0 [str a0]), (Ty.str.fact a1 [str a1])] (post85 r) := by
  refine spec_start (N := 23) Tryz.func85 (by kernel_rfl) rfl rfl rfl ?_
  intro g hS
  unfold m85 at hr
  refine at_seq ?_
  refine at_region ?_
  refine at_lt (lt_assign rfl) rfl ?_
  refine at_lt (lt_assign rfl) rfl ?_
  refine at_lt (lt_assign rfl) rfl ?_
  refine at_nil ?_
  refine at_then ?_
  refine at_seq ?_
  refine at_seq ?_
  refine at_region ?_
  refine at_lt (lt_move rfl) rfl ?_
  refine at_lt (lt_move rfl) rfl ?_
  replace hr := obind hr
  obtain ⟨x860, h861, hr⟩ := hr
  refine at_hv rfl ?_
  refine hv_call0 [0, 1] (f113_spec h861) rfl rfl rfl rfl ?_
  rintro _ _ ⟨rfl, rfl⟩
  refine at_inv 0 rfl (fun l862 => ?_)
  replace l862 : (-9223372036854775808) ≤ x860 ∧ x860 ≤ 9223372036854775807 := l862
  refine at_lt (lt_assign rfl) rfl ?_
  refine at_nil ?_
  refine at_then ?_
  refine at_seq ?_
  refine at_region ?_
  refine at_lt (lt_move rfl) rfl ?_
  refine at_lt (lt_geq rfl rfl) rfl ?_
  refine at_nil ?_
  refine at_then ?_
  by_cases h863 : (0 : Int) ≤ x860
  · replace hr := ipos h863 hr
    refine at_true rfl (decide_eq_true (by first | exact h863 | omega)) ?_
    refine at_seq ?_
    replace hr := imust hr
    obtain ⟨h864, hr⟩ := hr
    refine at_inv 1 rfl (fun l865 => ?_)
    replace l865 : a0.length ≤ 9223372036854775807 := l865
    refine at_inv 2 rfl (fun l866 => ?_)
    replace l866 : a1.length ≤ 9223372036854775807 := l866
    replace hr := imust hr
    obtain ⟨h867, hr⟩ := hr
    refine aa_start 12 (by kernel_rfl) ?_
    refine aa_pure (bs' := [true, false, false, false, false, false, false, false, false, false, false, false]) 0 rfl (by kernel_rfl) rfl rfl (lt_move rfl) rfl (ts_in 0 0 rfl rfl) ?_
    refine aa_pure (bs' := [true, true, false, false, false, false, false, false, false, false, false, false]) 1 rfl (by kernel_rfl) rfl rfl (lt_move rfl) rfl (ts_in 0 0 rfl rfl) ?_
    refine aa_pure (bs' := [true, true, true, false, false, false, false, false, false, false, false, false]) 2 rfl (by kernel_rfl) rfl rfl (lt_scut_h x860.toNat rfl rfl (by omega) und9 (by omega)) rfl (ts_in 0 0 rfl rfl) ?_
    refine aa_pure (bs' := [true, true, true, true, false, false, false, false, false, false, false, false]) 3 rfl (by kernel_rfl) rfl rfl (lt_move rfl) rfl (ts_in 0 0 rfl rfl) ?_
    refine aa_pure (bs' := [true, true, true, true, true, false, false, false, false, false, false, false]) 4 rfl (by kernel_rfl) rfl rfl (lt_move rfl) rfl (ts_in 0 0 rfl rfl) ?_
    refine aa_pure (bs' := [true, true, true, true, true, true, false, false, false, false, false, false]) 5 rfl (by kernel_rfl) rfl rfl (lt_move rfl) rfl (ts_in 0 0 rfl rfl) ?_
    refine aa_pure (bs' := [true, true, true, true, true, true, true, false, false, false, false, false]) 6 rfl (by kernel_rfl) rfl rfl (lt_slen rfl und9) rfl (ts_in 0 0 rfl rfl) ?_
    refine aa_pure (bs' := [true, true, true, true, true, true, true, true, false, false, false, false]) 7 rfl (by kernel_rfl) rfl rfl (lt_addw rfl rfl) rfl (ts_in 0 0 rfl rfl) ?_
    refine aa_pure (bs' := [true, true, true, true, true, true, true, true, true, false, false, false]) 8 rfl (by kernel_rfl) rfl rfl (lt_scut_l ((IntKind.i64.wrap (x860 + (a1.length : Int))).toNat) rfl rfl (by omega) und9 (by omega)) rfl (ts_in 0 0 rfl rfl) ?_
    refine aa_pure (bs' := [true, true, true, true, true, true, true, true, true, true, false, false]) 9 rfl (by kernel_rfl) rfl rfl (lt_assign rfl) rfl (ts_in 0 0 rfl rfl) ?_
    refine aa_pure (bs' := [true, true, true, true, true, true, true, true, true, true, true, false]) 10 rfl (by kernel_rfl) rfl rfl (lt_assign rfl) rfl (ts_in 0 0 rfl rfl) ?_
    refine aa_pure (bs' := [true, true, true, true, true, true, true, true, true, true, true, true]) 11 rfl (by kernel_rfl) rfl rfl (lt_assign rfl) rfl (ts_in 0 0 rfl rfl) ?_
    refine aa_done (by kernel_rfl) (ts_in 0 0 rfl rfl) ?_
    refine at_then ?_
    refine at_ret ?_
    have hq := oinj hr
    clear hr
    subst hq
    refine at_then_ret ?_
    refine at_str (a0.take x860.toNat) (by simp only [List.length_take, List.length_drop]; omega) ?_
    refine at_str (a0.drop ((IntKind.i64.wrap (x860 + (a1.length : Int))).toNat)) (by simp only [List.length_take, List.length_drop]; omega) ?_
    exact at_return (.tuple #[str (a0.take x860.toNat), str (a0.drop ((IntKind.i64.wrap (x860 + (a1.length : Int))).toNat)), .bool true]) [1, 0] hS Tryz.results85 (.cons (.tmp rfl) (.cons (.tmp rfl) (.cons (.tmp rfl) .nil))) rfl rfl ⟨rfl, rfl⟩
  · replace hr := ineg h863 hr
    refine at_false rfl (decide_eq_false (by first | exact h863 | omega)) ?_
    refine at_skip ?_
    refine at_then ?_
    refine at_seq ?_
    refine at_region ?_
    refine at_lt (lt_move rfl) rfl ?_
    refine at_lt (lt_assign rfl) rfl ?_
    refine at_lt (lt_assign rfl) rfl ?_
    refine at_lt (lt_assign rfl) rfl ?_
    refine at_nil ?_
    refine at_then ?_
    refine at_ret ?_
    have hq := oinj hr
    clear hr
    subst hq
    refine at_str ([] : Str) (by decide) ?_
    exact at_return (.tuple #[str a0, str ([] : Str), .bool false]) [2, 0] hS Tryz.results85 (.cons (.tmp rfl) (.cons (.tmp rfl) (.cons (.tmp rfl) .nil))) rfl rfl ⟨rfl, rfl⟩
/-! 49 strings.Cut -/
def m49 (a0 : Str) (a1 : Str) : Option (Str × Str × Bool) :=
  (m85 a0 a1).bind fun x868 =>
  some (x868.1, x868.2.1, x868.2.2)
def post49 (r : (Str × Str × Bool)) (v : Value) (fs : List Fact) : Prop := v = .tuple #[str r.1, str r.2.1, .bool r.2.2] ∧ fs = [(Ty.str.fact r.1 [str r.1]), (Ty.str.fact r.2.1 [str r.2.1])]
theorem en49 : Enters Tryz.prog 49 := ⟨_, Tryz.func49, by kernel_rfl, rfl⟩
theorem f49_spec {a0 : Str} {a1 : Str} {r : (Str × Str × Bool)} (hr : m49 a0 a1 = some r) : Spec Tryz.prog 49 [str a0, str a1] [(Ty.str.fact a0 [str a0]), (Ty.str.fact a1 [str a1])] (post49 r) := by
  refine spec_start (N := 13) Tryz.func49 (by kernel_rfl) rfl rfl rfl ?_
  intro g hS
  unfold m49 at hr
  refine at_seq ?_
  refine at_region ?_
  refine at_lt (lt_assign rfl) rfl ?_
  refine at_lt (lt_assign rfl) rfl ?_
  refine at_lt (lt_assign rfl) rfl ?_
  refine at_nil ?_
  refine at_then ?_
  refine at_seq ?_
  refine at_region ?_
  refine at_lt (lt_move rfl) rfl ?_
  refine at_lt (lt_move rfl) rfl ?_
  replace hr := obind hr
  obtain ⟨x868, h869, hr⟩ := hr
  refine at_hv rfl ?_
  refine hv_call0 [0, 1] (f85_spec h869) rfl rfl rfl rfl ?_
  rintro _ _ ⟨rfl, rfl⟩
  refine at_lt (lt_extract rfl rfl) rfl ?_
  refine at_lt (lt_extract rfl rfl) rfl ?_
  refine at_lt (lt_extract rfl rfl) rfl ?_
  refine at_lt (lt_assign rfl) rfl ?_
  refine at_lt (lt_assign rfl) rfl ?_
  refine at_lt (lt_assign rfl) rfl ?_
  refine at_nil ?_
  refine at_then ?_
  refine at_ret ?_
  have hq := oinj hr
  clear hr
  subst hq
  exact at_return (.tuple #[str x868.1, str x868.2.1, .bool x868.2.2]) [0, 1] hS Tryz.results49 (.cons (.tmp rfl) (.cons (.tmp rfl) (.cons (.tmp rfl) .nil))) rfl rfl ⟨rfl, rfl⟩
/-! 54 bookplate/crosswalk.line -/
def m54_l1 (a0 : D_crosswalk_Entry) : Nat → Str → Nat → Option Str
  | 0, _, _ => none
  | k + 1, x876, x877 =>
    if x877 < a0.Codes.length then
      (a0.Codes[x877]?).bind fun x882 =>
      if ([32] : Str).length + ([x882.From, 62, x882.To] : Str).length ≤ 9223372036854775807 then
        if x876.length + (([32] : Str) ++ ([x882.From, 62, x882.To] : Str)).length ≤ 9223372036854775807 then
          m54_l1 a0 k (x876 ++ (([32] : Str) ++ ([x882.From, 62, x882.To] : Str))) (x877 + 1)
        else none
      else none
    else
      some x876
def m54 (a0 : D_crosswalk_Entry) : Option Str :=
  if a0.From.length + ([32, 62, 32] : Str).length ≤ 9223372036854775807 then
    if (a0.From ++ ([32, 62, 32] : Str)).length + a0.To.length ≤ 9223372036854775807 then
      (m54_l1 a0 (a0.Codes.length + 1) (a0.From ++ ([32, 62, 32] : Str) ++ a0.To) 0).bind fun x878 =>
      some x878
    else none
  else none
def post54 (r : Str) (v : Value) (fs : List Fact) : Prop := v = str r ∧ fs = [(Ty.str.fact r [str r])]
theorem en54 : Enters Tryz.prog 54 := ⟨_, Tryz.func54, by kernel_rfl, rfl⟩
theorem f54_spec {a0 : D_crosswalk_Entry} {s870 : Value} {r : Str} (hr : m54 a0 = some r) : Spec Tryz.prog 54 [.agg #[str a0.From, str a0.To, s870]] [(ty76.fact a0 [str a0.From, str a0.To, s870])] (post54 r) := by
  refine spec_start (N := 30) Tryz.func54 (by kernel_rfl) rfl rfl rfl ?_
  intro g hS
  unfold m54 at hr
  refine at_open (A := Unit) 0 rfl (fun _ => True) (fun _ => [(Ty.str.fact a0.From [str a0.From]), (Ty.str.fact a0.To [str a0.To]), ((Ty.slice ty82).fact a0.Codes [s870])]) (fun F w h => ⟨(), trivial, ex76 h⟩) (fun _ _ => ?_)
  refine at_seq ?_
  refine at_region ?_
  refine at_hv rfl ?_
  refine hv_box (cs := [str a0.From, str a0.To, s870]) rfl rfl rfl (fun b871 => ?_)
  refine at_lt (lt_assign rfl) rfl ?_
  refine at_nil ?_
  refine at_then ?_
  refine at_seq ?_
  refine at_region ?_
  refine at_lt (lt_fieldAddr 0 rfl fld76_0 rfl) rfl ?_
  refine at_lt (lt_load_box 0 rfl ti9 rfl rfl rfl rfl rfl) rfl ?_
  replace hr := imust hr
  obtain ⟨h872, hr⟩ := hr
  refine at_lt (lt_sadd rfl rfl h872) rfl ?_
  refine at_lt (lt_fieldAddr 1 rfl fld76_1 rfl) rfl ?_
  refine at_lt (lt_load_box 0 rfl ti9 rfl rfl rfl rfl rfl) rfl ?_
  replace hr := imust hr
  obtain ⟨h873, hr⟩ := hr
  refine at_lt (lt_sadd rfl rfl h873) rfl ?_
  refine at_lt (lt_assign rfl) rfl ?_
  refine at_nil ?_
  refine at_then ?_
  refine at_seq ?_
  refine at_seq ?_
  refine at_region ?_
  refine at_lt (lt_fieldAddr 2 rfl fld76_2 rfl) rfl ?_
  refine at_lt (lt_load_box 0 rfl ti74 rfl rfl rfl rfl rfl) rfl ?_
  refine at_inv 2 rfl (fun i874 => ?_)
  have l875 := slice_len i874
  refine at_lt (lt_flen 2 rfl rfl und74) rfl ?_
  refine at_lt (lt_move rfl) rfl ?_
  refine at_nil ?_
  refine at_then ?_
  refine at_str (a0.From ++ ([32, 62, 32] : Str) ++ a0.To) (by rw [List.length_append]; exact h873) ?_
  refine at_int .i64 0 (by simp only [lo, hi]; omega) ?_
  replace hr := obind hr
  obtain ⟨x878, hl879, hr⟩ := hr
  refine at_cut (V := Unit) (fun e => (⟨[(3, str x878)], [], [], [(Ty.str.fact x878 [str x878])]⟩ : St)) ?_ ?_
  · refine at_block ?_
    refine at_loopW (σ := (Str × Nat)) (V := Unit) (r := x878) (fun n s => m54_l1 a0 n s.1 s.2) (fun s e => (⟨[(3, str s.1), (13, s870), (14, .int .i64 (a0.Codes.length : Int)), (15, .int .i64 (s.2 : Int))], [], [], [(Ty.str.fact s.1 [str s.1]), ((Ty.int .i64).fact (s.2 : Int) [.int .i64 (s.2 : Int)]), ((Ty.slice ty82).fact a0.Codes [s870])]⟩ : St)) (fun _ => rfl) _ (a0.From ++ ([32, 62, 32] : Str) ++ a0.To, 0) () hl879 ⟨⟨rfl, ⟨rfl, ⟨rfl, ⟨rfl, trivial⟩⟩⟩⟩, ⟨[false], rfl⟩, ⟨[], rfl⟩, ⟨[1, 0, 4], rfl⟩⟩ ?_
    clear hr hl879
    intro n s hr e
    obtain ⟨x876, x877⟩ := s
    skip
    change m54_l1 a0 (n + 1) x876 x877 = some x878 at hr
    change At _ _ (⟨[(3, str x876), (13, s870), (14, .int .i64 (a0.Codes.length : Int)), (15, .int .i64 (x877 : Int))], [], [], [(Ty.str.fact x876 [str x876]), ((Ty.int .i64).fact (x877 : Int) [.int .i64 (x877 : Int)]), ((Ty.slice ty82).fact a0.Codes [s870])]⟩ : St) _
    rw [m54_l1] at hr
    refine at_seq ?_
    refine at_region ?_
    refine at_lt (lt_lss rfl rfl) rfl ?_
    refine at_nil ?_
    refine at_then ?_
    refine at_seq ?_
    by_cases h881 : x877 < a0.Codes.length
    · replace hr := ipos h881 hr
      refine at_true rfl (decide_eq_true (by omega)) ?_
      refine at_skip ?_
      refine at_then ?_
      refine at_seq ?_
      refine at_block ?_
      refine at_seq ?_
      refine at_region ?_
      replace hr := obind hr
      obtain ⟨x882, h883, hr⟩ := hr
      have := (List.getElem?_eq_some_iff.1 h883).1
      refine at_elem 2 rfl (nat_at' h883) (fun p884 ec pa885 => ?_)
      refine at_open (A := Unit) 0 rfl _ _ (fun F w h => op82 h) ?_
      rintro _ rfl
      refine at_lt (lt_idx rfl rfl pa885 und74 ti82) rfl ?_
      refine at_lt (lt_load_peek 1 rfl ti82 rfl rfl rfl rfl rfl) rfl ?_
      refine at_hv rfl ?_
      refine hv_alloc (cs := [.int .u8 0, .int .u8 0]) ti82 rfl rfl (fun b886 => ?_)
      refine at_hv rfl ?_
      refine hv_store_box 0 (cs' := [.int .u8 (x882.From.toNat : Int), .int .u8 (x882.To.toNat : Int)]) rfl rfl ti82 rfl rfl rfl rfl rfl ?_
      refine at_nil ?_
      refine at_then ?_
      refine at_region ?_
      refine at_lt (lt_move rfl) rfl ?_
      refine at_lt (lt_fieldAddr 0 rfl fld82_0 rfl) rfl ?_
      refine at_lt (lt_load_box 0 rfl ti5 rfl rfl rfl rfl rfl) rfl ?_
      refine at_lt (lt_fieldAddr 1 rfl fld82_1 rfl) rfl ?_
      refine at_lt (lt_load_box 0 rfl ti5 rfl rfl rfl rfl rfl) rfl ?_
      refine at_hv rfl ?_
      refine hv_bslice (cs := [.int .u8 (x882.From.toNat : Int), .int .u8 62, .int .u8 (x882.To.toNat : Int)]) rfl und123 ti5 rfl rfl rfl rfl rfl (fun s887 => ?_)
      refine at_hv rfl ?_
      refine lt_bstr 0 [x882.From, 62, x882.To] rfl rfl rfl und123 und5 und9 rfl ?_
      replace hr := imust hr
      obtain ⟨h888, hr⟩ := hr
      refine at_lt (lt_sadd rfl rfl h888) rfl ?_
      replace hr := imust hr
      obtain ⟨h889, hr⟩ := hr
      refine at_lt (lt_sadd rfl rfl h889) rfl ?_
      refine at_lt (lt_assign rfl) rfl ?_
      refine at_nil ?_
      refine at_in ?_
      refine at_then ?_
      refine at_region ?_
      refine at_inv 2 rfl (fun l890 => ?_)
      replace l890 : x876.length ≤ 9223372036854775807 := l890
      refine at_lt (lt_add rfl rfl (by simp only [lo, hi]; omega)) rfl ?_
      refine at_lt (lt_move rfl) rfl ?_
      refine at_nil ?_
      refine at_str (x876 ++ (([32] : Str) ++ ([x882.From, 62, x882.To] : Str))) (by rw [List.length_append]; exact h889) ?_
      refine at_int .i64 (x877 + 1 : Int) (by simp only [lo, hi]; omega) ?_
      exact at_again (σ := (Str × Nat)) (V := Unit) (lp := fun n s => m54_l1 a0 n s.1 s.2) (S := fun s e => (⟨[(3, str s.1), (13, s870), (14, .int .i64 (a0.Codes.length : Int)), (15, .int .i64 (s.2 : Int))], [], [], [(Ty.str.fact s.1 [str s.1]), ((Ty.int .i64).fact (s.2 : Int) [.int .i64 (s.2 : Int)]), ((Ty.slice ty82).fact a0.Codes [s870])]⟩ : St)) (x876 ++ (([32] : Str) ++ ([x882.From, 62, x882.To] : Str)), x877 + 1) () hr ⟨⟨rfl, ⟨rfl, ⟨rfl, ⟨rfl, trivial⟩⟩⟩⟩, ⟨[false], rfl⟩, ⟨[false], rfl⟩, ⟨[1, 0, 6], rfl⟩⟩
    · replace hr := ineg h881 hr
      refine at_false rfl (decide_eq_false (by omega)) ?_
      refine at_exit ?_
      refine at_then_exit ?_
      refine at_then_exit ?_
      refine at_in_exit ?_
      have hq := oinj hr
      clear hr
      subst hq
      exact at_leaf () ⟨⟨rfl, trivial⟩, ⟨[], rfl⟩, ⟨[], rfl⟩, ⟨[0], rfl⟩⟩
  · clear hl879
    intro e
    change At _ _ (⟨[(3, str x878)], [], [], [(Ty.str.fact x878 [str x878])]⟩ : St) _
    refine at_then ?_
    refine at_seq ?_
    refine at_region ?_
    refine at_lt (lt_move rfl) rfl ?_
    refine at_lt (lt_assign rfl) rfl ?_
    refine at_nil ?_
    refine at_then ?_
    refine at_ret ?_
    have hq := oinj hr
    clear hr
    subst hq
    exact at_return (str x878) [0] hS Tryz.results54 (.cons (.tmp rfl) .nil) rfl rfl ⟨rfl, rfl⟩
/-! 151 strings.Index -/
def m151 (a0 : Str) (a1 : Str) : Option Int :=
  (m113 a0 a1).bind fun x891 =>
  some x891
def post151 (r : Int) (v : Value) (fs : List Fact) : Prop := v = .int .i64 r ∧ fs = [((Ty.int .i64).fact r [.int .i64 r])]
theorem en151 : Enters Tryz.prog 151 := ⟨_, Tryz.func151, by kernel_rfl, rfl⟩
theorem f151_spec {a0 : Str} {a1 : Str} {r : Int} (hr : m151 a0 a1 = some r) : Spec Tryz.prog 151 [str a0, str a1] [(Ty.str.fact a0 [str a0]), (Ty.str.fact a1 [str a1])] (post151 r) := by
  refine spec_start (N := 8) Tryz.func151 (by kernel_rfl) rfl rfl rfl ?_
  intro g hS
  unfold m151 at hr
  refine at_seq ?_
  refine at_region ?_
  refine at_lt (lt_assign rfl) rfl ?_
  refine at_nil ?_
  refine at_then ?_
  refine at_seq ?_
  refine at_region ?_
  refine at_lt (lt_move rfl) rfl ?_
  refine at_lt (lt_move rfl) rfl ?_
  replace hr := obind hr
  obtain ⟨x891, h892, hr⟩ := hr
  refine at_hv rfl ?_
  refine hv_call0 [0, 1] (f113_spec h892) rfl rfl rfl rfl ?_
  rintro _ _ ⟨rfl, rfl⟩
  refine at_inv 0 rfl (fun l893 => ?_)
  replace l893 : (-9223372036854775808) ≤ x891 ∧ x891 ≤ 9223372036854775807 := l893
  refine at_lt (lt_assign rfl) rfl ?_
  refine at_nil ?_
  refine at_then ?_
  refine at_ret ?_
  have hq := oinj hr
  clear hr
  subst hq
  exact at_return (.int .i64 x891) [0] hS Tryz.results151 (.cons (.tmp rfl) .nil) rfl rfl ⟨rfl, rfl⟩
/-! 172 internal/bytealg.CountString -/
def m172 (a0 : Str) (a1 : UInt8) : Option Int := if a0.length ≤ 9223372036854775807 then some (Lib.countByte a0 a1) else none
theorem f172_specX {a0 : Str} {a1 : UInt8} {r : Int} (hr : m172 a0 a1 = some r) : SpecX Tryz.prog 172 [str a0, .int .u8 (a1.toNat : Int)] (postInt r) := by
  unfold m172 at hr
  obtain ⟨hb, hr⟩ := imust hr
  obtain rfl := oinj hr
  exact ext_countByte Tryz.func172 (by kernel_rfl) (by kernel_rfl) rfl rfl hb

/-! 150 strings.Count -/
def m150_l1 (a1 : Str) : Nat → Str → Nat → Option (Fl Int Int)
  | 0, _, _ => none
  | k + 1, x904, x905 =>
    (m151 x904 a1).bind fun x910 =>
    if x910 = (-1) then
      some (Fl.ret (x905 : Int))
    else
      if x905 + 1 ≤ 9223372036854775807 then
        if 0 ≤ IntKind.i64.wrap (x910 + (a1.length : Int)) ∧ (IntKind.i64.wrap (x910 + (a1.length : Int))).toNat ≤ x904.length then
          m150_l1 a1 k (x904.drop ((IntKind.i64.wrap (x910 + (a1.length : Int))).toNat)) (x905 + 1)
        else none
      else none
def m150 (a0 : Str) (a1 : Str) : Option Int :=
  if a1.length = 0 then
    none
  else
    if a1.length = 1 then
      (a1[0]?).bind fun c899 =>
      (m172 a0 c899).bind fun x901 =>
      some x901
    else
      (m150_l1 a1 9223372036854775808 a0 0).bind fun r => match r with
      | .ret x => some x
      | .go x906 =>
        some x906
def post150 (r : Int) (v : Value) (fs : List Fact) : Prop := v = .int .i64 r ∧ fs = [((Ty.int .i64).fact r [.int .i64 r])]
theorem en150 : Enters Tryz.prog 150 := ⟨_, Tryz.func150, by kernel_rfl, rfl⟩
theorem f150_spec {a0 : Str} {a1 : Str} {r : Int} (hr : m150 a0 a1 = some r) : Spec Tryz.prog 150 [str a0, str a1] [(Ty.str.fact a0 [str a0]), (Ty.str.fact a1 [str a1])] (post150 r) := by
  refine spec_start (N := 34) Tryz.func150 (by kernel_rfl) rfl rfl rfl ?_
  intro g hS
  unfold m150 at hr
  refine at_seq ?_
  refine at_region ?_
  refine at_lt (lt_assign rfl) rfl ?_
  refine at_nil ?_
  refine at_then ?_
  refine at_seq ?_
  refine at_seq ?_
  refine at_region ?_
  refine at_lt (lt_move rfl) rfl ?_
  refine at_inv 1 rfl (fun l894 => ?_)
  replace l894 : a1.length ≤ 9223372036854775807 := l894
  refine at_lt (lt_slen rfl und9) rfl ?_
  refine at_lt (lt_eql rfl rfl) rfl ?_
  refine at_nil ?_
  refine at_then ?_
  by_cases h895 : a1.length = 0
  · replace hr := ipos h895 hr
    cases hr
  · replace hr := ineg h895 hr
    refine at_false rfl (decide_eq_false (by omega)) ?_
    refine at_skip ?_
    refine at_then ?_
    refine at_seq ?_
    refine at_seq ?_
    refine at_region ?_
    refine at_lt (lt_move rfl) rfl ?_
    refine at_lt (lt_slen rfl und9) rfl ?_
    refine at_lt (lt_eql rfl rfl) rfl ?_
    refine at_nil ?_
    refine at_then ?_
    by_cases h898 : a1.length = 1
    · replace hr := ipos h898 hr
      refine at_true rfl (decide_eq_true (by omega)) ?_
      refine at_seq ?_
      refine at_region ?_
      refine at_lt (lt_move rfl) rfl ?_
      refine at_lt (lt_move rfl) rfl ?_
      replace hr := obind hr
      obtain ⟨c899, h900, hr⟩ := hr
      have := (List.getElem?_eq_some_iff.1 h900).1
      have := c899.toNat_lt
      refine at_lt (lt_sidx rfl rfl und9 (by omega) h900) rfl ?_
      replace hr := obind hr
      obtain ⟨x901, h902, hr⟩ := hr
      refine at_hv rfl ?_
      refine hv_callx (f172_specX h902) rfl rfl rfl ?_
      rintro _ _ ⟨rfl, rfl⟩
      refine at_inv 0 rfl (fun l903 => ?_)
      replace l903 : (-9223372036854775808) ≤ x901 ∧ x901 ≤ 9223372036854775807 := l903
      refine at_lt (lt_assign rfl) rfl ?_
      refine at_nil ?_
      refine at_then ?_
      refine at_ret ?_
      have hq := oinj hr
      clear hr
      subst hq
      refine at_then_ret ?_
      exact at_return (.int .i64 x901) [0] hS Tryz.results150 (.cons (.tmp rfl) .nil) rfl rfl ⟨rfl, rfl⟩
    · replace hr := ineg h898 hr
      refine at_false rfl (decide_eq_false (by omega)) ?_
      refine at_skip ?_
      refine at_then ?_
      refine at_seq ?_
      refine at_region ?_
      refine at_lt (lt_assign rfl) rfl ?_
      refine at_nil ?_
      refine at_then ?_
      refine at_int .i64 0 (by simp only [lo, hi]; omega) ?_
      replace hr := obind hr
      obtain ⟨r907, hl908, hk909⟩ := hr
      refine at_cutP (V := (Int) × (Unit)) (fun v => r907 = Fl.go v.1) (fun v => (⟨[(4, .int .i64 v.1)], [], [], [((Ty.int .i64).fact v.1 [.int .i64 v.1])]⟩ : St)) ?_ ?_
      · refine at_block ?_
        refine at_loopW (σ := (Str × Nat)) (V := Unit) (r := r907) (fun n s => m150_l1 a1 n s.1 s.2) (fun s e => (⟨[(0, str s.1), (1, str a1), (5, .int .i64 (s.2 : Int))], [], [], [(Ty.str.fact s.1 [str s.1]), ((Ty.int .i64).fact (s.2 : Int) [.int .i64 (s.2 : Int)]), (Ty.str.fact a1 [str a1])]⟩ : St)) (fun _ => rfl) _ (a0, 0) () hl908 ⟨⟨rfl, ⟨rfl, ⟨rfl, trivial⟩⟩⟩, ⟨[], rfl⟩, ⟨[], rfl⟩, ⟨[1, 0, 2], rfl⟩⟩ ?_
        clear hl908
        intro n s hr e
        obtain ⟨x904, x905⟩ := s
        skip
        change m150_l1 a1 (n + 1) x904 x905 = some r907 at hr
        change At _ _ (⟨[(0, str x904), (1, str a1), (5, .int .i64 (x905 : Int))], [], [], [(Ty.str.fact x904 [str x904]), ((Ty.int .i64).fact (x905 : Int) [.int .i64 (x905 : Int)]), (Ty.str.fact a1 [str a1])]⟩ : St) _
        rw [m150_l1] at hr
        refine at_block ?_
        refine at_seq ?_
        refine at_region ?_
        refine at_lt (lt_move rfl) rfl ?_
        refine at_lt (lt_move rfl) rfl ?_
        replace hr := obind hr
        obtain ⟨x910, h911, hr⟩ := hr
        refine at_hv rfl ?_
        refine hv_call0 [0, 2] (f151_spec h911) rfl rfl rfl rfl ?_
        rintro _ _ ⟨rfl, rfl⟩
        refine at_inv 0 rfl (fun l912 => ?_)
        replace l912 : (-9223372036854775808) ≤ x910 ∧ x910 ≤ 9223372036854775807 := l912
        refine at_lt (lt_assign rfl) rfl ?_
        refine at_nil ?_
        refine at_then ?_
        refine at_seq ?_
        refine at_seq ?_
        refine at_region ?_
        refine at_lt (lt_move rfl) rfl ?_
        refine at_lt (lt_eql rfl rfl) rfl ?_
        refine at_nil ?_
        refine at_then ?_
        by_cases h913 : x910 = (-1)
        · replace hr := ipos h913 hr
          refine at_true rfl (decide_eq_true (by first | exact h913 | omega)) ?_
          refine at_seq ?_
          refine at_region ?_
          refine at_lt (lt_move rfl) rfl ?_
          refine at_lt (lt_assign rfl) rfl ?_
          refine at_nil ?_
          refine at_then ?_
          refine at_ret ?_
          have hq := oinj hr
          clear hr
          subst hq
          have hq := oinj hk909
          clear hk909
          subst hq
          refine at_then_ret ?_
          refine at_in_ret ?_
          refine at_then_ret ?_
          refine at_in_ret ?_
          refine at_then_ret ?_
          exact at_return (.int .i64 (x905 : Int)) [2] hS Tryz.results150 (.cons (.tmp rfl) .nil) rfl rfl ⟨rfl, rfl⟩
        · replace hr := ineg h913 hr
          refine at_false rfl (decide_eq_false (by first | exact h913 | omega)) ?_
          refine at_skip ?_
          refine at_then ?_
          refine at_seq ?_
          refine at_region ?_
          refine at_lt (lt_move rfl) rfl ?_
          replace hr := imust hr
          obtain ⟨h914, hr⟩ := hr
          refine at_lt (lt_add rfl rfl (by simp only [lo, hi]; omega)) rfl ?_
          refine at_lt (lt_assign rfl) rfl ?_
          refine at_nil ?_
          refine at_then ?_
          refine at_region ?_
          refine at_lt (lt_move rfl) rfl ?_
          refine at_lt (lt_move rfl) rfl ?_
          refine at_lt (lt_move rfl) rfl ?_
          refine at_lt (lt_slen rfl und9) rfl ?_
          refine at_lt (lt_addw rfl rfl) rfl ?_
          replace hr := imust hr
          obtain ⟨h915, hr⟩ := hr
          refine at_inv 1 rfl (fun l916 => ?_)
          replace l916 : x904.length ≤ 9223372036854775807 := l916
          refine at_lt (lt_scut_l ((IntKind.i64.wrap (x910 + (a1.length : Int))).toNat) rfl rfl (by omega) und9 (by omega)) rfl ?_
          refine at_lt (lt_assign rfl) rfl ?_
          refine at_nil ?_
          refine at_in ?_
          refine at_str (x904.drop ((IntKind.i64.wrap (x910 + (a1.length : Int))).toNat)) (by simp only [List.length_take, List.length_drop]; omega) ?_
          refine at_int .i64 (x905 + 1 : Int) (by simp only [lo, hi]; omega) ?_
          exact at_again (σ := (Str × Nat)) (V := Unit) (lp := fun n s => m150_l1 a1 n s.1 s.2) (S := fun s e => (⟨[(0, str s.1), (1, str a1), (5, .int .i64 (s.2 : Int))], [], [], [(Ty.str.fact s.1 [str s.1]), ((Ty.int .i64).fact (s.2 : Int) [.int .i64 (s.2 : Int)]), (Ty.str.fact a1 [str a1])]⟩ : St)) (x904.drop ((IntKind.i64.wrap (x910 + (a1.length : Int))).toNat), x905 + 1) () hr ⟨⟨rfl, ⟨rfl, ⟨rfl, trivial⟩⟩⟩, ⟨[], rfl⟩, ⟨[], rfl⟩, ⟨[1, 0, 5], rfl⟩⟩
      · rintro ⟨x906, _⟩ hp
        replace hr := hk909
        subst hp
        clear hl908
        change At _ _ (⟨[(4, .int .i64 x906)], [], [], [((Ty.int .i64).fact x906 [.int .i64 x906])]⟩ : St) _
        refine at_inv 0 rfl (fun l917 => ?_)
        replace l917 : (-9223372036854775808) ≤ x906 ∧ x906 ≤ 9223372036854775807 := l917
        have hq := oinj hr
        clear hr
        subst hq
        exact at_return (.int .i64 x906) [0] hS Tryz.results150 (.cons (.tmp rfl) .nil) rfl rfl ⟨rfl, rfl⟩
end Go.WK.S
