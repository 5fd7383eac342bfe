/- What functions of this program compute: a model of each, and the proof that it is kept. -/
import Derived.Test.YtidmlhihfanglaaGreatDoorTextF02
import Derived.KernelRfl
namespace Go.WK.S
open Go Go.Proofs Go.WK Go.RowKit
set_option linter.unusedVariables false
set_option maxRecDepth 100000
set_option maxHeartbeats 4000000
/-! 114 strings.genSplit -/
def m114_l1 (a0 : Str) (a1 : Str) (a2 : Int) (x924 : Int) : Nat → Str → (List Str) → Nat → Option (Str × (List Str) × Nat)
  | 0, _, _, _ => none
  | k + 1, x936, x937, x938 =>
    if (x938 : Int) < IntKind.i64.wrap (min x924 ((a0.length : Int) + 1) - 1) then
      (m151 x936 a1).bind fun x952 =>
      if x952 < 0 then
        some (x936, x937, x938)
      else
        if 0 ≤ IntKind.i64.wrap (x952 + a2) ∧ (IntKind.i64.wrap (x952 + a2)).toNat ≤ x936.length then
          if x938 < x937.length then
            if 0 ≤ IntKind.i64.wrap (x952 + (a1.length : Int)) ∧ (IntKind.i64.wrap (x952 + (a1.length : Int))).toNat ≤ x936.length then
              if x938 + 1 ≤ 9223372036854775807 then
                m114_l1 a0 a1 a2 x924 k (x936.drop ((IntKind.i64.wrap (x952 + (a1.length : Int))).toNat)) (x937.set x938 (x936.take ((IntKind.i64.wrap (x952 + a2)).toNat))) (x938 + 1)
              else none
            else none
          else none
        else none
    else
      some (x936, x937, x938)
def m114 (a0 : Str) (a1 : Str) (a2 : Int) (a3 : Int) : Option (List Str) :=
  if a3 = 0 then
    some ([] : (List Str))
  else
    if a1 = ([] : Str) then
      none
    else
      Option.bind (α := Int) (
        if a3 < 0 then
          (m150 a0 a1).bind fun x927 =>
          some (IntKind.i64.wrap (x927 + 1))
        else
          some a3
      ) fun x924 =>
      if a0.length + 1 ≤ 9223372036854775807 then
        if 0 ≤ min x924 ((a0.length : Int) + 1) ∧ (min x924 ((a0.length : Int) + 1)).toNat ≤ 8796093022208 then
          (m114_l1 a0 a1 a2 x924 9223372036854775808 a0 (List.replicate ((min x924 ((a0.length : Int) + 1)).toNat) ([] : Str)) 0).bind fun (x942, x943, x944) =>
          if x944 < x943.length then
            if x944 + 1 ≤ 9223372036854775807 then
              if x944 + 1 ≤ (x943.set x944 x942).length then
                some ((x943.set x944 x942).take (x944 + 1))
              else none
            else none
          else none
        else none
      else none
def post114 (r : (List Str)) (v : Value) (fs : List Fact) : Prop := ∃ s977 : Value, v = s977 ∧ fs = [((Ty.slice Ty.str).fact r [s977])]
theorem en114 : Enters Tryz.prog 114 := ⟨_, Tryz.func114, by kernel_rfl, rfl⟩
theorem f114_spec {a0 : Str} {a1 : Str} {a2 : Int} {a3 : Int} {r : (List Str)} (hr : m114 a0 a1 a2 a3 = some r) : Spec Tryz.prog 114 [str a0, str a1, .int .i64 a2, .int .i64 a3] [(Ty.str.fact a0 [str a0]), (Ty.str.fact a1 [str a1]), ((Ty.int .i64).fact a2 [.int .i64 a2]), ((Ty.int .i64).fact a3 [.int .i64 a3])] (post114 r) := by
  refine spec_start (N := 66) Tryz.func114 (by kernel_rfl) rfl rfl rfl ?_
  intro g hS
  unfold m114 at hr
  refine at_inv 2 rfl (fun l918 => ?_)
  replace l918 : (-9223372036854775808) ≤ a2 ∧ a2 ≤ 9223372036854775807 := l918
  refine at_inv 3 rfl (fun l919 => ?_)
  replace l919 : (-9223372036854775808) ≤ a3 ∧ a3 ≤ 9223372036854775807 := l919
  refine at_seq ?_
  refine at_region ?_
  refine at_lt (lt_assign rfl) rfl ?_
  refine at_nil ?_
  refine at_then ?_
  refine at_seq ?_
  refine at_seq ?_
  refine at_region ?_
  refine at_lt (lt_move rfl) rfl ?_
  refine at_lt (lt_eql rfl rfl) rfl ?_
  refine at_nil ?_
  refine at_then ?_
  by_cases h920 : a3 = 0
  · replace hr := ipos h920 hr
    refine at_true rfl (decide_eq_true (by first | exact h920 | omega)) ?_
    refine at_seq ?_
    refine at_region ?_
    refine at_lt (lt_assign rfl) rfl ?_
    refine at_nil ?_
    refine at_then ?_
    refine at_ret ?_
    have hq := oinj hr
    clear hr
    subst hq
    refine at_then_ret ?_
    refine at_fnil Ty.str none ?_
    exact at_return ((.slice none 0 0)) [0] hS Tryz.results114 (.cons (.tmp rfl) .nil) rfl rfl ⟨((.slice none 0 0)), rfl, rfl⟩
  · replace hr := ineg h920 hr
    refine at_false rfl (decide_eq_false (by first | exact h920 | omega)) ?_
    refine at_skip ?_
    refine at_then ?_
    refine at_seq ?_
    refine at_seq ?_
    refine at_region ?_
    refine at_lt (lt_move rfl) rfl ?_
    refine at_lt (lt_seql rfl rfl) rfl ?_
    refine at_nil ?_
    refine at_then ?_
    by_cases h921 : a1 = ([] : Str)
    · replace hr := ipos h921 hr
      cases hr
    · replace hr := ineg h921 hr
      refine at_false rfl (decide_eq_false h921) ?_
      refine at_skip ?_
      refine at_then ?_
      refine at_seq ?_
      refine at_seq ?_
      refine at_region ?_
      refine at_lt (lt_move rfl) rfl ?_
      refine at_lt (lt_lss rfl rfl) rfl ?_
      refine at_nil ?_
      refine at_then ?_
      replace hr := obind hr
      obtain ⟨x924, hc925, hr⟩ := hr
      refine at_cut (V := Unit) (fun e => (⟨[(0, str a0), (1, str a1), (2, .int .i64 a2), (3, .int .i64 x924)], [], [], [((Ty.int .i64).fact x924 [.int .i64 x924]), (Ty.str.fact a0 [str a0]), (Ty.str.fact a1 [str a1]), ((Ty.int .i64).fact a2 [.int .i64 a2])]⟩ : St)) ?_ ?_
      · clear hr
        have hr := hc925
        clear hc925
        by_cases h926 : a3 < 0
        · replace hr := ipos h926 hr
          refine at_true rfl (decide_eq_true (by first | exact h926 | omega)) ?_
          refine at_region ?_
          refine at_lt (lt_move rfl) rfl ?_
          refine at_lt (lt_move rfl) rfl ?_
          replace hr := obind hr
          obtain ⟨x927, h928, hr⟩ := hr
          refine at_hv rfl ?_
          refine hv_call0 [0, 1] (f150_spec h928) rfl rfl rfl rfl ?_
          rintro _ _ ⟨rfl, rfl⟩
          refine at_inv 0 rfl (fun l929 => ?_)
          replace l929 : (-9223372036854775808) ≤ x927 ∧ x927 ≤ 9223372036854775807 := l929
          refine at_lt (lt_addw rfl rfl) rfl ?_
          refine at_lt (lt_assign rfl) rfl ?_
          refine at_nil ?_
          have hq := oinj hr
          clear hr
          subst hq
          refine at_int .i64 (IntKind.i64.wrap (x927 + 1)) (wrap_bd .i64 _) ?_
          exact at_leaf () ⟨⟨rfl, ⟨rfl, ⟨rfl, ⟨rfl, trivial⟩⟩⟩⟩, ⟨[], rfl⟩, ⟨[], rfl⟩, ⟨[0, 2, 3, 4], rfl⟩⟩
        · replace hr := ineg h926 hr
          refine at_false rfl (decide_eq_false (by first | exact h926 | omega)) ?_
          refine at_skip ?_
          have hq := oinj hr
          clear hr
          subst hq
          exact at_leaf () ⟨⟨rfl, ⟨rfl, ⟨rfl, ⟨rfl, trivial⟩⟩⟩⟩, ⟨[], rfl⟩, ⟨[], rfl⟩, ⟨[3, 0, 1, 2], rfl⟩⟩
      · clear hc925
        intro _
        change At _ _ (⟨[(0, str a0), (1, str a1), (2, .int .i64 a2), (3, .int .i64 x924)], [], [], [((Ty.int .i64).fact x924 [.int .i64 x924]), (Ty.str.fact a0 [str a0]), (Ty.str.fact a1 [str a1]), ((Ty.int .i64).fact a2 [.int .i64 a2])]⟩ : St) _
        refine at_inv 0 rfl (fun l930 => ?_)
        replace l930 : (-9223372036854775808) ≤ x924 ∧ x924 ≤ 9223372036854775807 := l930
        refine at_then ?_
        refine at_seq ?_
        refine at_region ?_
        refine at_lt (lt_move rfl) rfl ?_
        refine at_lt (lt_move rfl) rfl ?_
        refine at_inv 1 rfl (fun l931 => ?_)
        replace l931 : a0.length ≤ 9223372036854775807 := l931
        refine at_lt (lt_slen rfl und9) rfl ?_
        replace hr := imust hr
        obtain ⟨h932, hr⟩ := hr
        refine at_lt (lt_add rfl rfl (by simp only [lo, hi]; omega)) rfl ?_
        refine at_lt (lt_min rfl rfl) rfl ?_
        refine at_lt (lt_assign rfl) rfl ?_
        refine at_nil ?_
        refine at_then ?_
        refine at_seq ?_
        refine at_region ?_
        refine at_lt (lt_move rfl) rfl ?_
        replace hr := imust hr
        obtain ⟨h933, hr⟩ := hr
        refine at_hv rfl ?_
        refine hv_make1 (E := Ty.str) ([] : Str) ((min x924 ((a0.length : Int) + 1)).toNat) rfl rfl rfl (by omega) (by omega) und89 ti9 rfl (fun F w => ⟨rfl, by decide⟩) (by omega) (by omega) rfl (fun s934 i935 => ?_)
        refine at_lt (lt_assign rfl) rfl ?_
        refine at_nil ?_
        refine at_then ?_
        refine at_seq ?_
        refine at_region ?_
        refine at_lt (lt_move rfl) rfl ?_
        refine at_lt (lt_subw rfl rfl) rfl ?_
        refine at_lt (lt_assign rfl) rfl ?_
        refine at_nil ?_
        refine at_then ?_
        refine at_seq ?_
        refine at_region ?_
        refine at_lt (lt_assign rfl) rfl ?_
        refine at_nil ?_
        refine at_then ?_
        refine at_seq ?_
        refine at_mkpure (q := ((List.replicate ((min x924 ((a0.length : Int) + 1)).toNat) ([] : Str)).length * Ty.str.bytes ≤ 140737488355328)) (by simp only [List.length_replicate, Ty.int_bytes, Ty.u8_bytes, Ty.str_bytes, Ty.slice_bytes, Ty.bool_bytes, nb] <;> omega) ?_
        refine at_int .i64 0 (by simp only [lo, hi]; omega) ?_
        replace hr := obind hr
        obtain ⟨r948, hl949, hr⟩ := hr
        refine at_cut (V := Value × Nat × (List Value)) (fun e => (⟨[(0, str r948.1), (9, e.1), (10, .int .i64 (r948.2.2 : Int))], [], [⟨e.1, 9, 1, e.2.1, e.2.2⟩], [(Ty.str.fact r948.1 [str r948.1]), (Ty.str.row r948.2.1 e.2.2), (pureF (r948.2.1.length * Ty.str.bytes ≤ 140737488355328)), ((Ty.int .i64).fact (r948.2.2 : Int) [.int .i64 (r948.2.2 : Int)])]⟩ : St)) ?_ ?_
        · refine at_block ?_
          refine at_loopW (σ := (Str × (List Str) × Nat)) (V := Value × Nat × (List Value)) (r := r948) (fun n s => m114_l1 a0 a1 a2 x924 n s.1 s.2.1 s.2.2) (fun s e => (⟨[(0, str s.1), (1, str a1), (2, .int .i64 a2), (3, .int .i64 (IntKind.i64.wrap (min x924 ((a0.length : Int) + 1) - 1))), (9, e.1), (10, .int .i64 (s.2.2 : Int))], [], [⟨e.1, 9, 1, e.2.1, e.2.2⟩], [(Ty.str.fact s.1 [str s.1]), (Ty.str.row s.2.1 e.2.2), (pureF (s.2.1.length * Ty.str.bytes ≤ 140737488355328)), ((Ty.int .i64).fact (s.2.2 : Int) [.int .i64 (s.2.2 : Int)]), (Ty.str.fact a1 [str a1]), ((Ty.int .i64).fact a2 [.int .i64 a2])]⟩ : St)) (fun _ => rfl) _ (a0, List.replicate ((min x924 ((a0.length : Int) + 1)).toNat) ([] : Str), 0) (s934, (min x924 ((a0.length : Int) + 1)).toNat, i935) hl949 ⟨⟨rfl, ⟨rfl, ⟨rfl, ⟨rfl, ⟨rfl, ⟨rfl, trivial⟩⟩⟩⟩⟩⟩, ⟨[], rfl⟩, ⟨[true], rfl⟩, ⟨[4, 2, 1, 0, 5, 6], rfl⟩⟩ ?_
          clear hr hl949
          intro n s hr e
          obtain ⟨x936, x937, x938⟩ := s
          obtain ⟨v939, n940, i941⟩ := e
          change m114_l1 a0 a1 a2 x924 (n + 1) x936 x937 x938 = some r948 at hr
          change At _ _ (⟨[(0, str x936), (1, str a1), (2, .int .i64 a2), (3, .int .i64 (IntKind.i64.wrap (min x924 ((a0.length : Int) + 1) - 1))), (9, v939), (10, .int .i64 (x938 : Int))], [], [⟨v939, 9, 1, n940, i941⟩], [(Ty.str.fact x936 [str x936]), (Ty.str.row x937 i941), (pureF (x937.length * Ty.str.bytes ≤ 140737488355328)), ((Ty.int .i64).fact (x938 : Int) [.int .i64 (x938 : Int)]), (Ty.str.fact a1 [str a1]), ((Ty.int .i64).fact a2 [.int .i64 a2])]⟩ : St) _
          rw [m114_l1] at hr
          refine at_seq ?_
          refine at_seq ?_
          refine at_region ?_
          refine at_lt (lt_move rfl) rfl ?_
          refine at_lt (lt_move rfl) rfl ?_
          refine at_lt (lt_lss rfl rfl) rfl ?_
          refine at_nil ?_
          refine at_then ?_
          by_cases h951 : (x938 : Int) < IntKind.i64.wrap (min x924 ((a0.length : Int) + 1) - 1)
          · replace hr := ipos h951 hr
            refine at_true rfl (decide_eq_true (by first | exact h951 | omega)) ?_
            refine at_skip ?_
            refine at_then ?_
            refine at_block ?_
            refine at_seq ?_
            refine at_region ?_
            refine at_lt (lt_move rfl) rfl ?_
            refine at_lt (lt_move rfl) rfl ?_
            replace hr := obind hr
            obtain ⟨x952, h953, hr⟩ := hr
            refine at_hv rfl ?_
            refine hv_call0 [0, 4] (f151_spec h953) rfl rfl rfl rfl ?_
            rintro _ _ ⟨rfl, rfl⟩
            refine at_inv 0 rfl (fun l954 => ?_)
            replace l954 : (-9223372036854775808) ≤ x952 ∧ x952 ≤ 9223372036854775807 := l954
            refine at_lt (lt_assign rfl) rfl ?_
            refine at_nil ?_
            refine at_then ?_
            refine at_seq ?_
            refine at_seq ?_
            refine at_region ?_
            refine at_lt (lt_move rfl) rfl ?_
            refine at_lt (lt_lss rfl rfl) rfl ?_
            refine at_nil ?_
            refine at_then ?_
            by_cases h955 : x952 < 0
            · replace hr := ipos h955 hr
              refine at_true rfl (decide_eq_true (by first | exact h955 | omega)) ?_
              refine at_exit ?_
              refine at_then_exit ?_
              refine at_in_other rfl ?_
              refine at_then_exit ?_
              refine at_in_exit ?_
              have hq := oinj hr
              clear hr
              subst hq
              exact at_leaf (v939, n940, i941) ⟨⟨rfl, ⟨rfl, ⟨rfl, trivial⟩⟩⟩, ⟨[], rfl⟩, ⟨[true], rfl⟩, ⟨[1, 2, 3, 4], rfl⟩⟩
            · replace hr := ineg h955 hr
              refine at_false rfl (decide_eq_false (by first | exact h955 | omega)) ?_
              refine at_skip ?_
              refine at_then ?_
              refine at_seq ?_
              refine at_region ?_
              refine at_lt (lt_move rfl) rfl ?_
              refine at_lt (lt_move rfl) rfl ?_
              refine at_lt (lt_move rfl) rfl ?_
              refine at_lt (lt_move rfl) rfl ?_
              refine at_lt (lt_move rfl) rfl ?_
              refine at_lt (lt_addw rfl rfl) rfl ?_
              replace hr := imust hr
              obtain ⟨h956, hr⟩ := hr
              refine at_inv 1 rfl (fun l957 => ?_)
              replace l957 : x936.length ≤ 9223372036854775807 := l957
              refine at_lt (lt_scut_h ((IntKind.i64.wrap (x952 + a2)).toNat) rfl rfl (by omega) und9 (by omega)) rfl ?_
              replace hr := imust hr
              obtain ⟨h960, hr⟩ := hr
              refine at_rown 0 2 rfl rfl rfl (fun hn961 => ?_)
              refine at_rowv 0 rfl (fun hv962 => ?_)
              refine at_rowat (ix := (x938 : Int)) 0 rfl (by omega) (by omega) (fun p958 pa959 => ?_)
              refine at_lt (lt_idx rfl rfl pa959 und89 ti9) rfl ?_
              refine at_str (x936.take ((IntKind.i64.wrap (x952 + a2)).toNat)) (by simp only [List.length_take, List.length_drop]; omega) ?_
              refine at_pure 4 rfl (fun hb963 => ?_)
              refine at_hv rfl ?_
              refine hv_store_row 0 x938 (cs := [str (x936.take ((IntKind.i64.wrap (x952 + a2)).toNat))]) (inner' := (i941.take (x938 * 1) ++ [str (x936.take ((IntKind.i64.wrap (x952 + a2)).toNat))] ++ i941.drop (x938 * 1 + 1))) rfl rfl ti9 rfl pa959 (by omega) rfl rfl rfl rfl ?_
              refine at_rowset (inner' := (i941.take (x938 * 1) ++ [str (x936.take ((IntKind.i64.wrap (x952 + a2)).toNat))] ++ i941.drop (x938 * 1 + 1))) 3 0 x938 rfl rfl (by omega) rfl ?_
              refine at_nil ?_
              refine at_then ?_
              refine at_seq ?_
              refine at_region ?_
              refine at_lt (lt_move rfl) rfl ?_
              refine at_lt (lt_move rfl) rfl ?_
              refine at_lt (lt_move rfl) rfl ?_
              refine at_inv 7 rfl (fun l964 => ?_)
              replace l964 : a1.length ≤ 9223372036854775807 := l964
              refine at_lt (lt_slen rfl und9) rfl ?_
              refine at_lt (lt_addw rfl rfl) rfl ?_
              replace hr := imust hr
              obtain ⟨h965, hr⟩ := hr
              refine at_lt (lt_scut_l ((IntKind.i64.wrap (x952 + (a1.length : Int))).toNat) rfl rfl (by omega) und9 (by omega)) rfl ?_
              refine at_lt (lt_assign rfl) rfl ?_
              refine at_nil ?_
              refine at_then ?_
              refine at_region ?_
              refine at_lt (lt_move rfl) rfl ?_
              replace hr := imust hr
              obtain ⟨h966, hr⟩ := hr
              refine at_lt (lt_add rfl rfl (by simp only [lo, hi]; omega)) rfl ?_
              refine at_lt (lt_assign rfl) rfl ?_
              refine at_nil ?_
              refine at_in ?_
              refine at_str (x936.drop ((IntKind.i64.wrap (x952 + (a1.length : Int))).toNat)) (by simp only [List.length_take, List.length_drop]; omega) ?_
              refine at_mkpure (q := ((x937.set x938 (x936.take ((IntKind.i64.wrap (x952 + a2)).toNat))).length * Ty.str.bytes ≤ 140737488355328)) (by rw [List.length_set]; exact hb963) ?_
              refine at_int .i64 (x938 + 1 : Int) (by simp only [lo, hi]; omega) ?_
              exact at_again (σ := (Str × (List Str) × Nat)) (V := Value × Nat × (List Value)) (lp := fun n s => m114_l1 a0 a1 a2 x924 n s.1 s.2.1 s.2.2) (S := fun s e => (⟨[(0, str s.1), (1, str a1), (2, .int .i64 a2), (3, .int .i64 (IntKind.i64.wrap (min x924 ((a0.length : Int) + 1) - 1))), (9, e.1), (10, .int .i64 (s.2.2 : Int))], [], [⟨e.1, 9, 1, e.2.1, e.2.2⟩], [(Ty.str.fact s.1 [str s.1]), (Ty.str.row s.2.1 e.2.2), (pureF (s.2.1.length * Ty.str.bytes ≤ 140737488355328)), ((Ty.int .i64).fact (s.2.2 : Int) [.int .i64 (s.2.2 : Int)]), (Ty.str.fact a1 [str a1]), ((Ty.int .i64).fact a2 [.int .i64 a2])]⟩ : St)) (x936.drop ((IntKind.i64.wrap (x952 + (a1.length : Int))).toNat), x937.set x938 (x936.take ((IntKind.i64.wrap (x952 + a2)).toNat)), x938 + 1) (v939, n940, (i941.take (x938 * 1) ++ [str (x936.take ((IntKind.i64.wrap (x952 + a2)).toNat))] ++ i941.drop (x938 * 1 + 1))) hr ⟨⟨rfl, ⟨rfl, ⟨rfl, ⟨rfl, ⟨rfl, ⟨rfl, trivial⟩⟩⟩⟩⟩⟩, ⟨[], rfl⟩, ⟨[true], rfl⟩, ⟨[2, 3, 1, 0, 10, 11], rfl⟩⟩
          · replace hr := ineg h951 hr
            refine at_false rfl (decide_eq_false (by first | exact h951 | omega)) ?_
            refine at_exit ?_
            refine at_then_exit ?_
            refine at_then_exit ?_
            refine at_in_exit ?_
            have hq := oinj hr
            clear hr
            subst hq
            exact at_leaf (v939, n940, i941) ⟨⟨rfl, ⟨rfl, ⟨rfl, trivial⟩⟩⟩, ⟨[], rfl⟩, ⟨[true], rfl⟩, ⟨[0, 1, 2, 3], rfl⟩⟩
        · clear hl949
          obtain ⟨x942, x943, x944⟩ := r948
          intro e
          obtain ⟨v945, n946, i947⟩ := e
          change At _ _ (⟨[(0, str x942), (9, v945), (10, .int .i64 (x944 : Int))], [], [⟨v945, 9, 1, n946, i947⟩], [(Ty.str.fact x942 [str x942]), (Ty.str.row x943 i947), (pureF (x943.length * Ty.str.bytes ≤ 140737488355328)), ((Ty.int .i64).fact (x944 : Int) [.int .i64 (x944 : Int)])]⟩ : St) _
          refine at_then ?_
          refine at_seq ?_
          refine at_region ?_
          refine at_lt (lt_move rfl) rfl ?_
          refine at_lt (lt_move rfl) rfl ?_
          refine at_lt (lt_move rfl) rfl ?_
          replace hr := imust hr
          obtain ⟨h969, hr⟩ := hr
          refine at_rown 0 1 rfl rfl rfl (fun hn970 => ?_)
          refine at_rowv 0 rfl (fun hv971 => ?_)
          refine at_rowat (ix := (x944 : Int)) 0 rfl (by omega) (by omega) (fun p967 pa968 => ?_)
          refine at_lt (lt_idx rfl rfl pa968 und89 ti9) rfl ?_
          refine at_pure 2 rfl (fun hb972 => ?_)
          refine at_hv rfl ?_
          refine hv_store_row 0 x944 (cs := [str x942]) (inner' := (i947.take (x944 * 1) ++ [str x942] ++ i947.drop (x944 * 1 + 1))) rfl rfl ti9 rfl pa968 (by omega) rfl rfl rfl rfl ?_
          refine at_rowset (inner' := (i947.take (x944 * 1) ++ [str x942] ++ i947.drop (x944 * 1 + 1))) 1 0 x944 rfl rfl (by omega) rfl ?_
          refine at_nil ?_
          refine at_then ?_
          refine at_seq ?_
          refine at_region ?_
          refine at_lt (lt_move rfl) rfl ?_
          refine at_lt (lt_move rfl) rfl ?_
          replace hr := imust hr
          obtain ⟨h973, hr⟩ := hr
          refine at_lt (lt_add rfl rfl (by simp only [lo, hi]; omega)) rfl ?_
          replace hr := imust hr
          obtain ⟨h974, hr⟩ := hr
          refine at_release 0 0 rfl rfl rfl (by rw [List.length_set]; exact hb972) ?_
          refine at_cutf_h 0 (x944 + 1) rfl (by omega) (fun s975 hc976 => ?_)
          refine at_lt (lt_cut_h (x944 + 1) rfl rfl (by omega) und89 ti9 hc976) rfl ?_
          refine at_lt (lt_assign rfl) rfl ?_
          refine at_nil ?_
          refine at_then ?_
          refine at_ret ?_
          have hq := oinj hr
          clear hr
          subst hq
          exact at_return (s975) [0] hS Tryz.results114 (.cons (.tmp rfl) .nil) rfl rfl ⟨s975, rfl, rfl⟩
/-! 86 strings.Split -/
def m86 (a0 : Str) (a1 : Str) : Option (List Str) :=
  (m114 a0 a1 0 (-1)).bind fun x978 =>
  some x978
def post86 (r : (List Str)) (v : Value) (fs : List Fact) : Prop := ∃ s981 : Value, v = s981 ∧ fs = [((Ty.slice Ty.str).fact r [s981])]
theorem en86 : Enters Tryz.prog 86 := ⟨_, Tryz.func86, by kernel_rfl, rfl⟩
theorem f86_spec {a0 : Str} {a1 : Str} {r : (List Str)} (hr : m86 a0 a1 = some r) : Spec Tryz.prog 86 [str a0, str a1] [(Ty.str.fact a0 [str a0]), (Ty.str.fact a1 [str a1])] (post86 r) := by
  refine spec_start (N := 8) Tryz.func86 (by kernel_rfl) rfl rfl rfl ?_
  intro g hS
  unfold m86 at hr
  refine at_seq ?_
  refine at_region ?_
  refine at_lt (lt_assign rfl) rfl ?_
  refine at_nil ?_
  refine at_then ?_
  refine at_seq ?_
  refine at_region ?_
  refine at_lt (lt_move rfl) rfl ?_
  refine at_lt (lt_move rfl) rfl ?_
  replace hr := obind hr
  obtain ⟨x978, h979, hr⟩ := hr
  refine at_int .i64 0 (by simp only [lo, hi]; omega) ?_
  refine at_int .i64 (-1) (by simp only [lo, hi]; omega) ?_
  refine at_hv rfl ?_
  refine hv_call0 [2, 3, 1, 0] (f114_spec h979) rfl rfl rfl rfl ?_
  rintro s980 _ ⟨_, rfl, rfl⟩
  refine at_lt (lt_assign rfl) rfl ?_
  refine at_nil ?_
  refine at_then ?_
  refine at_ret ?_
  have hq := oinj hr
  clear hr
  subst hq
  exact at_return (s980) [0] hS Tryz.results86 (.cons (.tmp rfl) .nil) rfl rfl ⟨s980, rfl, rfl⟩
/-! 50 bookplate/crosswalk.read -/
def m50_l1 (x983 : (List Str)) : Nat → Nat → (List D_crosswalk_Pair) → Str → Str → (List D_crosswalk_Pair) → Option (Fl (D_crosswalk_Entry × Bool) ((List D_crosswalk_Pair) × Str × Str × (List D_crosswalk_Pair)))
  | 0, _, _, _, _, _ => none
  | k + 1, x1004, x1005, x1006, x1007, x1008 =>
    if x1004 < (x983.drop 3).length then
      ((x983.drop 3)[x1004]?).bind fun x1025 =>
      if x1025.length = 3 then
        (x1025[0]?).bind fun c1031 =>
        (x1025[2]?).bind fun c1033 =>
        if x1005.length + 1 ≤ 70368744177664 then
          m50_l1 x983 k (x1004 + 1) (x1005 ++ [(⟨c1031, c1033⟩ : D_crosswalk_Pair)]) x1006 x1007 x1008
        else none
      else
        some (Fl.ret ((⟨([] : Str), ([] : Str), ([] : (List D_crosswalk_Pair))⟩ : D_crosswalk_Entry), false))
    else
      some (Fl.go (x1005, x1006, x1007, x1008))
def m50 (a0 : Str) : Option (D_crosswalk_Entry × Bool) :=
  (m86 a0 ([32] : Str)).bind fun x983 =>
  if x983.length < 4 then
    some ((⟨([] : Str), ([] : Str), ([] : (List D_crosswalk_Pair))⟩ : D_crosswalk_Entry), false)
  else
    (x983[0]?).bind fun x989 =>
    (x983[2]?).bind fun x993 =>
    if 3 ≤ x983.length then
      (m50_l1 x983 ((x983.drop 3).length + 1) 0 ([] : (List D_crosswalk_Pair)) ([] : Str) ([] : Str) ([] : (List D_crosswalk_Pair))).bind fun r => match r with
      | .ret x => some x
      | .go (x1013, x1014, x1015, x1016) =>
        (m57 (⟨x989, x993, x1013⟩ : D_crosswalk_Entry)).bind fun x1044 =>
        if x1044 = true then
          (m54 (⟨x989, x993, x1013⟩ : D_crosswalk_Entry)).bind fun x1048 =>
          some ((⟨x989, x993, x1013⟩ : D_crosswalk_Entry), decide (x1048 = a0))
        else
          some ((⟨x989, x993, x1013⟩ : D_crosswalk_Entry), false)
    else none
def post50 (r : (D_crosswalk_Entry × Bool)) (v : Value) (fs : List Fact) : Prop := ∃ s1056 : Value, v = .tuple #[.agg #[str r.1.From, str r.1.To, s1056], .bool r.2] ∧ fs = [(ty76.fact r.1 [str r.1.From, str r.1.To, s1056])]
theorem en50 : Enters Tryz.prog 50 := ⟨_, Tryz.func50, by kernel_rfl, rfl⟩
theorem f50_spec {a0 : Str} {r : (D_crosswalk_Entry × Bool)} (hr : m50 a0 = some r) : Spec Tryz.prog 50 [str a0] [(Ty.str.fact a0 [str a0])] (post50 r) := by
  refine spec_start (N := 52) Tryz.func50 (by kernel_rfl) rfl rfl rfl ?_
  intro g hS
  unfold m50 at hr
  refine at_seq ?_
  refine at_region ?_
  refine at_hv rfl ?_
  refine hv_alloc (cs := [str ([] : Str), str ([] : Str), (.slice none 0 0)]) ti76 rfl rfl (fun b982 => ?_)
  refine at_lt (lt_assign rfl) rfl ?_
  refine at_nil ?_
  refine at_then ?_
  refine at_seq ?_
  refine at_region ?_
  refine at_lt (lt_move rfl) rfl ?_
  replace hr := obind hr
  obtain ⟨x983, h984, hr⟩ := hr
  refine at_str ([32] : Str) (by decide) ?_
  refine at_hv rfl ?_
  refine hv_call0 [1, 0] (f86_spec h984) rfl rfl rfl rfl ?_
  rintro s985 _ ⟨_, rfl, rfl⟩
  refine at_lt (lt_assign rfl) rfl ?_
  refine at_nil ?_
  refine at_then ?_
  refine at_seq ?_
  refine at_seq ?_
  refine at_region ?_
  refine at_lt (lt_move rfl) rfl ?_
  refine at_inv 0 rfl (fun i986 => ?_)
  have l987 := slice_len i986
  refine at_lt (lt_flen 0 rfl rfl und89) rfl ?_
  refine at_lt (lt_lss rfl rfl) rfl ?_
  refine at_nil ?_
  refine at_then ?_
  by_cases h988 : x983.length < 4
  · replace hr := ipos h988 hr
    refine at_true rfl (decide_eq_true (by omega)) ?_
    refine at_seq ?_
    refine at_region ?_
    refine at_lt (lt_build (cs := [str ([] : Str), str ([] : Str), (.slice none 0 0)]) rfl ti76 pl76 rfl) rfl ?_
    refine at_hv rfl ?_
    refine hv_store_box 0 (cs' := [str ([] : Str), str ([] : Str), (.slice none 0 0)]) rfl rfl ti76 rfl rfl rfl rfl rfl ?_
    refine at_lt (lt_assign rfl) rfl ?_
    refine at_nil ?_
    refine at_then ?_
    refine at_ret ?_
    have hq := oinj hr
    clear hr
    subst hq
    refine at_then_ret ?_
    refine at_str ([] : Str) (by decide) ?_
    refine at_fnil ty82 none ?_
    refine at_derive [1, 1, 0] (ty76.fact (⟨([] : Str), ([] : Str), ([] : (List D_crosswalk_Pair))⟩ : D_crosswalk_Entry) [str ([] : Str), str ([] : Str), (.slice none 0 0)]) rfl (fun F w h => mk76 (x := (⟨([] : Str), ([] : Str), ([] : (List D_crosswalk_Pair))⟩ : D_crosswalk_Entry)) h) ?_
    exact at_return (.tuple #[.agg #[str ([] : Str), str ([] : Str), (.slice none 0 0)], .bool false]) [0] hS Tryz.results50 (.cons (.cell 0 rfl ti76 rfl rfl rfl rfl) (.cons (.tmp rfl) .nil)) rfl rfl ⟨((.slice none 0 0)), rfl, rfl⟩
  · replace hr := ineg h988 hr
    refine at_false rfl (decide_eq_false (by omega)) ?_
    refine at_skip ?_
    refine at_then ?_
    refine at_seq ?_
    replace hr := obind hr
    obtain ⟨x989, h990, hr⟩ := hr
    have := (List.getElem?_eq_some_iff.1 h990).1
    refine at_elem 0 rfl (nat_at' (i := 0) h990) (fun p991 ec pa992 => ?_)
    refine at_open (A := Unit) 0 rfl (fun _ => ec = [str x989]) (fun _ => []) (fun F w h => ⟨(), h.1, by simp⟩) ?_
    rintro _ rfl
    replace hr := obind hr
    obtain ⟨x993, h994, hr⟩ := hr
    have := (List.getElem?_eq_some_iff.1 h994).1
    refine at_elem 2 rfl (nat_at' (i := 2) h994) (fun p995 ec pa996 => ?_)
    refine at_open (A := Unit) 0 rfl (fun _ => ec = [str x993]) (fun _ => []) (fun F w h => ⟨(), h.1, by simp⟩) ?_
    rintro _ rfl
    refine aa_start 9 (by kernel_rfl) ?_
    refine aa_pure (bs' := [true, false, false, false, false, false, false, false, false]) 0 rfl (by kernel_rfl) rfl rfl (lt_move rfl) rfl (ts_in 0 0 rfl rfl) ?_
    refine aa_pure (bs' := [true, true, false, false, false, false, false, false, false]) 1 rfl (by kernel_rfl) rfl rfl (lt_idx rfl rfl pa992 und89 ti9) rfl (ts_in 0 0 rfl rfl) ?_
    refine aa_load (bs' := [true, true, true, false, false, false, false, false, false]) 2 rfl (by kernel_rfl) rfl rfl (lt_load_peek 3 rfl ti9 rfl rfl rfl rfl rfl) rfl (ts_in 0 0 rfl rfl) ?_
    refine aa_pure (bs' := [true, true, true, true, false, false, false, false, false]) 3 rfl (by kernel_rfl) rfl rfl (lt_move rfl) rfl (ts_in 0 0 rfl rfl) ?_
    refine aa_pure (bs' := [true, true, true, true, true, false, false, false, false]) 4 rfl (by kernel_rfl) rfl rfl (lt_idx rfl rfl pa996 und89 ti9) rfl (ts_in 0 0 rfl rfl) ?_
    refine aa_load (bs' := [true, true, true, true, true, true, false, false, false]) 5 rfl (by kernel_rfl) rfl rfl (lt_load_peek 1 rfl ti9 rfl rfl rfl rfl rfl) rfl (ts_in 0 0 rfl rfl) ?_
    refine aa_pure (bs' := [true, true, true, true, true, true, true, false, false]) 6 rfl (by kernel_rfl) rfl rfl (lt_build (cs := [str x989, str x993, (.slice none 0 0)]) rfl ti76 pl76 rfl) rfl (ts_in 0 0 rfl rfl) ?_
    refine aa_all (rs := [7]) (by kernel_rfl) rfl (ts_in 0 0 rfl rfl) (List.forall_mem_singleton.2 ?_)
    refine aa_op rfl rfl ?_
    refine hv_alloc (cs := [str ([] : Str), str ([] : Str), (.slice none 0 0)]) ti76 rfl rfl (fun b998 => ?_)
    refine aa_all (rs := [8]) (by kernel_rfl) rfl (ts_in 1 0 rfl rfl) (List.forall_mem_singleton.2 ?_)
    refine aa_op rfl rfl ?_
    refine hv_store_box 0 (cs' := [str x989, str x993, (.slice none 0 0)]) rfl rfl ti76 rfl rfl rfl rfl rfl ?_
    refine aa_done (by kernel_rfl) (ts_in 1 0 rfl rfl) ?_
    refine at_then ?_
    refine at_seq ?_
    refine at_seq ?_
    refine at_region ?_
    refine at_lt (lt_move rfl) rfl ?_
    replace hr := imust hr
    obtain ⟨h999, hr⟩ := hr
    refine at_cutf_l 4 3 rfl (by omega) (fun s1000 hc1001 => ?_)
    refine at_lt (lt_cut_l 3 rfl rfl (by omega) und89 ti9 (by omega) hc1001) rfl ?_
    refine at_inv 0 rfl (fun i1002 => ?_)
    have l1003 := slice_len i1002
    refine at_lt (lt_flen 0 rfl rfl und89) rfl ?_
    refine at_lt (lt_move rfl) rfl ?_
    refine at_nil ?_
    refine at_then ?_
    refine at_int .i64 0 (by simp only [lo, hi]; omega) ?_
    refine at_rownew none 82 2 ?_
    refine at_rownil ty82 ?_
    refine at_mkpure (q := (([] : (List D_crosswalk_Pair)).length * ty82.bytes ≤ 140737488355328)) (by simp only [List.nil_append, List.cons_append, List.length_cons, List.length_nil, ty82_bytes] <;> omega) ?_
    refine at_str ([] : Str) (by decide) ?_
    refine at_fnil ty82 none ?_
    replace hr := obind hr
    obtain ⟨r1021, hl1022, hk1023⟩ := hr
    refine at_cutP (V := (((List D_crosswalk_Pair) × Str × Str × (List D_crosswalk_Pair))) × (Value × Nat × (List Value) × Value)) (fun v => r1021 = Fl.go v.1) (fun v => (⟨[(0, str a0), (2, .pointer (some (Addr.add ⟨b982, 0, none⟩ 0))), (5, .pointer (some (Addr.add ⟨b998, 0, none⟩ 0)))], [⟨b998, [str x989, str x993, v.2.1], 76⟩, ⟨b982, [str v.1.2.1, str v.1.2.2.1, v.2.2.2.2], 76⟩], [⟨v.2.1, 82, 2, v.2.2.1, v.2.2.2.1⟩], [(ty82.row v.1.1 v.2.2.2.1), (pureF (v.1.1.length * ty82.bytes ≤ 140737488355328)), (Ty.str.fact v.1.2.1 [str v.1.2.1]), (Ty.str.fact v.1.2.2.1 [str v.1.2.2.1]), ((Ty.slice ty82).fact v.1.2.2.2 [v.2.2.2.2]), (Ty.str.fact a0 [str a0]), (Ty.str.fact x989 [str x989]), (Ty.str.fact x993 [str x993])]⟩ : St)) ?_ ?_
    · refine at_block ?_
      refine at_loopW (σ := (Nat × (List D_crosswalk_Pair) × Str × Str × (List D_crosswalk_Pair))) (V := Value × Nat × (List Value) × Value) (r := r1021) (fun n s => m50_l1 x983 n s.1 s.2.1 s.2.2.1 s.2.2.2.1 s.2.2.2.2) (fun s e => (⟨[(0, str a0), (2, .pointer (some (Addr.add ⟨b982, 0, none⟩ 0))), (5, .pointer (some (Addr.add ⟨b998, 0, none⟩ 0))), (22, s1000), (23, .int .i64 ((x983.drop 3).length : Int)), (24, .int .i64 (s.1 : Int))], [⟨b998, [str x989, str x993, e.1], 76⟩, ⟨b982, [str s.2.2.1, str s.2.2.2.1, e.2.2.2], 76⟩], [⟨e.1, 82, 2, e.2.1, e.2.2.1⟩], [((Ty.int .i64).fact (s.1 : Int) [.int .i64 (s.1 : Int)]), (ty82.row s.2.1 e.2.2.1), (pureF (s.2.1.length * ty82.bytes ≤ 140737488355328)), (Ty.str.fact s.2.2.1 [str s.2.2.1]), (Ty.str.fact s.2.2.2.1 [str s.2.2.2.1]), ((Ty.slice ty82).fact s.2.2.2.2 [e.2.2.2]), (Ty.str.fact a0 [str a0]), ((Ty.slice Ty.str).fact (x983.drop 3) [s1000]), (Ty.str.fact x989 [str x989]), (Ty.str.fact x993 [str x993])]⟩ : St)) (fun _ => rfl) _ (0, ([] : (List D_crosswalk_Pair)), ([] : Str), ([] : Str), ([] : (List D_crosswalk_Pair))) ((.slice none 0 0), 0, [], (.slice none 0 0)) hl1022 ⟨⟨rfl, ⟨rfl, ⟨rfl, ⟨rfl, ⟨rfl, ⟨rfl, trivial⟩⟩⟩⟩⟩⟩, ⟨[true, true], rfl⟩, ⟨[true], rfl⟩, ⟨[4, 3, 2, 1, 1, 0, 12, 5, 8, 6], rfl⟩⟩ ?_
      clear hl1022
      intro n s hr e
      obtain ⟨x1004, x1005, x1006, x1007, x1008⟩ := s
      obtain ⟨v1009, n1010, i1011, v1012⟩ := e
      change m50_l1 x983 (n + 1) x1004 x1005 x1006 x1007 x1008 = some r1021 at hr
      change At _ _ (⟨[(0, str a0), (2, .pointer (some (Addr.add ⟨b982, 0, none⟩ 0))), (5, .pointer (some (Addr.add ⟨b998, 0, none⟩ 0))), (22, s1000), (23, .int .i64 ((x983.drop 3).length : Int)), (24, .int .i64 (x1004 : Int))], [⟨b998, [str x989, str x993, v1009], 76⟩, ⟨b982, [str x1006, str x1007, v1012], 76⟩], [⟨v1009, 82, 2, n1010, i1011⟩], [((Ty.int .i64).fact (x1004 : Int) [.int .i64 (x1004 : Int)]), (ty82.row x1005 i1011), (pureF (x1005.length * ty82.bytes ≤ 140737488355328)), (Ty.str.fact x1006 [str x1006]), (Ty.str.fact x1007 [str x1007]), ((Ty.slice ty82).fact x1008 [v1012]), (Ty.str.fact a0 [str a0]), ((Ty.slice Ty.str).fact (x983.drop 3) [s1000]), (Ty.str.fact x989 [str x989]), (Ty.str.fact x993 [str x993])]⟩ : St) _
      rw [m50_l1] at hr
      refine at_seq ?_
      refine at_region ?_
      refine at_lt (lt_lss rfl rfl) rfl ?_
      refine at_nil ?_
      refine at_then ?_
      refine at_seq ?_
      by_cases h1024 : x1004 < (x983.drop 3).length
      · replace hr := ipos h1024 hr
        refine at_true rfl (decide_eq_true (by omega)) ?_
        refine at_skip ?_
        refine at_then ?_
        refine at_seq ?_
        refine at_block ?_
        refine at_seq ?_
        refine at_region ?_
        replace hr := obind hr
        obtain ⟨x1025, h1026, hr⟩ := hr
        have := (List.getElem?_eq_some_iff.1 h1026).1
        refine at_elem 7 rfl (nat_at' h1026) (fun p1027 ec pa1028 => ?_)
        refine at_open (A := Unit) 0 rfl (fun _ => ec = [str x1025]) (fun _ => []) (fun F w h => ⟨(), h.1, by simp⟩) ?_
        rintro _ rfl
        refine at_lt (lt_idx rfl rfl pa1028 und89 ti9) rfl ?_
        refine at_lt (lt_load_peek 1 rfl ti9 rfl rfl rfl rfl rfl) rfl ?_
        refine at_lt (lt_assign rfl) rfl ?_
        refine at_nil ?_
        refine at_then ?_
        refine at_seq ?_
        refine at_seq ?_
        refine at_region ?_
        refine at_lt (lt_move rfl) rfl ?_
        refine at_inv 0 rfl (fun l1029 => ?_)
        replace l1029 : x1025.length ≤ 9223372036854775807 := l1029
        refine at_lt (lt_slen rfl und9) rfl ?_
        refine at_lt (lt_neq rfl rfl) rfl ?_
        refine at_nil ?_
        refine at_then ?_
        by_cases h1030 : x1025.length = 3
        · replace hr := ipos h1030 hr
          refine at_false rfl (nt (decide_eq_true (by omega))) ?_
          refine at_skip ?_
          refine at_then ?_
          replace hr := obind hr
          obtain ⟨c1031, h1032, hr⟩ := hr
          have := (List.getElem?_eq_some_iff.1 h1032).1
          have := c1031.toNat_lt
          replace hr := obind hr
          obtain ⟨c1033, h1034, hr⟩ := hr
          have := (List.getElem?_eq_some_iff.1 h1034).1
          have := c1033.toNat_lt
          replace hr := imust hr
          obtain ⟨h1036, hr⟩ := hr
          refine aa_start 10 (by kernel_rfl) ?_
          refine aa_pure (bs' := [true, false, false, false, false, false, false, false, false, false, false]) 0 rfl (by kernel_rfl) rfl rfl (lt_fieldAddr 2 rfl fld76_2 rfl) rfl (ts_in 0 0 rfl rfl) ?_
          refine aa_load (bs' := [true, true, false, false, false, false, false, false, false, false, false]) 1 rfl (by kernel_rfl) rfl rfl (lt_load_box 0 rfl ti74 rfl rfl rfl rfl rfl) rfl (ts_in 0 0 rfl rfl) ?_
          refine aa_pure (bs' := [true, true, true, false, false, false, false, false, false, false, false]) 2 rfl (by kernel_rfl) rfl rfl (lt_move rfl) rfl (ts_in 0 0 rfl rfl) ?_
          refine aa_pure (bs' := [true, true, true, true, false, false, false, false, false, false, false]) 3 rfl (by kernel_rfl) rfl rfl (lt_sidx rfl rfl und9 (by omega) h1032) rfl (ts_in 0 0 rfl rfl) ?_
          refine aa_pure (bs' := [true, true, true, true, true, false, false, false, false, false, false]) 4 rfl (by kernel_rfl) rfl rfl (lt_move rfl) rfl (ts_in 0 0 rfl rfl) ?_
          refine aa_pure (bs' := [true, true, true, true, true, true, false, false, false, false, false]) 5 rfl (by kernel_rfl) rfl rfl (lt_sidx rfl rfl und9 (by omega) h1034) rfl (ts_in 0 0 rfl rfl) ?_
          refine aa_pure (bs' := [true, true, true, true, true, true, true, false, false, false, false]) 6 rfl (by kernel_rfl) rfl rfl (lt_build (cs := [.int .u8 (c1031.toNat : Int), .int .u8 (c1033.toNat : Int)]) rfl ti82 pl82 rfl) rfl (ts_in 0 0 rfl rfl) ?_
          refine aa_all (rs := [7]) (by kernel_rfl) rfl (ts_in 0 0 rfl rfl) (List.forall_mem_singleton.2 ?_)
          refine aa_op rfl rfl ?_
          refine hv_bslice (cs := [.int .u8 (c1031.toNat : Int), .int .u8 (c1033.toNat : Int)]) rfl und74 ti82 rfl rfl rfl rfl rfl (fun s1040 => ?_)
          refine aa_all (rs := [8]) (by kernel_rfl) rfl (ts_in 0 0 rfl rfl) (List.forall_mem_singleton.2 ?_)
          refine at_derive [] (ty82.fact (⟨c1031, c1033⟩ : D_crosswalk_Pair) [.int .u8 (c1031.toNat : Int), .int .u8 (c1033.toNat : Int)]) rfl (fun F w h => mk82 (x := (⟨c1031, c1033⟩ : D_crosswalk_Pair)) h) ?_
          refine at_rown 1 4 rfl rfl rfl (fun hn1042 => ?_)
          refine aa_op rfl rfl ?_
          refine hv_append 1 0 rfl rfl rfl rfl und74 ti82 rfl rfl rfl (by omega) (by omega) rfl (fun s1041 => ?_)
          refine at_rowsnoc 4 0 rfl rfl ?_
          refine aa_pure (bs' := [true, true, true, true, true, true, true, true, true, true, false]) 9 rfl (by kernel_rfl) rfl rfl (lt_fieldAddr 2 rfl fld76_2 rfl) rfl (ts_in 0 2 rfl rfl) ?_
          refine aa_all (rs := [10]) (by kernel_rfl) rfl (ts_in 0 2 rfl rfl) (List.forall_mem_singleton.2 ?_)
          refine at_rowv 1 rfl (fun ho1043 => ?_)
          replace ho1043 := row_one (by obtain ⟨a, c, h⟩ := ho1043; exact ⟨a, _, c, h⟩)
          refine aa_op rfl rfl ?_
          refine hv_store1 0 (cs' := [str x989, str x993, s1041]) rfl rfl ti74 rfl rfl rfl rfl ho1043 ?_
          refine aa_done (by kernel_rfl) (ts_out rfl) ?_
          refine at_in ?_
          refine at_then ?_
          refine at_region ?_
          refine at_lt (lt_add rfl rfl (by simp only [lo, hi]; omega)) rfl ?_
          refine at_lt (lt_move rfl) rfl ?_
          refine at_nil ?_
          refine at_int .i64 (x1004 + 1 : Int) (by simp only [lo, hi]; omega) ?_
          refine at_mkpure (q := ((x1005 ++ [(⟨c1031, c1033⟩ : D_crosswalk_Pair)]).length * ty82.bytes ≤ 140737488355328)) (by simp only [List.length_append, List.length_cons, List.length_nil, ty82_bytes] <;> omega) ?_
          exact at_again (σ := (Nat × (List D_crosswalk_Pair) × Str × Str × (List D_crosswalk_Pair))) (V := Value × Nat × (List Value) × Value) (lp := fun n s => m50_l1 x983 n s.1 s.2.1 s.2.2.1 s.2.2.2.1 s.2.2.2.2) (S := fun s e => (⟨[(0, str a0), (2, .pointer (some (Addr.add ⟨b982, 0, none⟩ 0))), (5, .pointer (some (Addr.add ⟨b998, 0, none⟩ 0))), (22, s1000), (23, .int .i64 ((x983.drop 3).length : Int)), (24, .int .i64 (s.1 : Int))], [⟨b998, [str x989, str x993, e.1], 76⟩, ⟨b982, [str s.2.2.1, str s.2.2.2.1, e.2.2.2], 76⟩], [⟨e.1, 82, 2, e.2.1, e.2.2.1⟩], [((Ty.int .i64).fact (s.1 : Int) [.int .i64 (s.1 : Int)]), (ty82.row s.2.1 e.2.2.1), (pureF (s.2.1.length * ty82.bytes ≤ 140737488355328)), (Ty.str.fact s.2.2.1 [str s.2.2.1]), (Ty.str.fact s.2.2.2.1 [str s.2.2.2.1]), ((Ty.slice ty82).fact s.2.2.2.2 [e.2.2.2]), (Ty.str.fact a0 [str a0]), ((Ty.slice Ty.str).fact (x983.drop 3) [s1000]), (Ty.str.fact x989 [str x989]), (Ty.str.fact x993 [str x993])]⟩ : St)) (x1004 + 1, x1005 ++ [(⟨c1031, c1033⟩ : D_crosswalk_Pair)], x1006, x1007, x1008) (s1041, n1010 + 1, i1011 ++ [.int .u8 (c1031.toNat : Int), .int .u8 (c1033.toNat : Int)], v1012) hr ⟨⟨rfl, ⟨rfl, ⟨rfl, ⟨rfl, ⟨rfl, ⟨rfl, trivial⟩⟩⟩⟩⟩⟩, ⟨[true, true], rfl⟩, ⟨[false, true], rfl⟩, ⟨[1, 2, 0, 9, 10, 11, 12, 13, 14, 15], rfl⟩⟩
        · replace hr := ineg h1030 hr
          refine at_true rfl (nf (decide_eq_false (by omega))) ?_
          refine at_seq ?_
          refine at_region ?_
          refine at_lt (lt_build (cs := [str ([] : Str), str ([] : Str), (.slice none 0 0)]) rfl ti76 pl76 rfl) rfl ?_
          refine at_hv rfl ?_
          refine hv_store_box 1 (cs' := [str ([] : Str), str ([] : Str), (.slice none 0 0)]) rfl rfl ti76 rfl rfl rfl rfl rfl ?_
          refine at_lt (lt_assign rfl) rfl ?_
          refine at_nil ?_
          refine at_then ?_
          refine at_ret ?_
          have hq := oinj hr
          clear hr
          subst hq
          have hq := oinj hk1023
          clear hk1023
          subst hq
          refine at_then_ret ?_
          refine at_in_ret ?_
          refine at_then_ret ?_
          refine at_then_ret ?_
          refine at_in_ret ?_
          refine at_then_ret ?_
          refine at_then_ret ?_
          refine at_str ([] : Str) (by decide) ?_
          refine at_fnil ty82 none ?_
          refine at_derive [1, 1, 0] (ty76.fact (⟨([] : Str), ([] : Str), ([] : (List D_crosswalk_Pair))⟩ : D_crosswalk_Entry) [str ([] : Str), str ([] : Str), (.slice none 0 0)]) rfl (fun F w h => mk76 (x := (⟨([] : Str), ([] : Str), ([] : (List D_crosswalk_Pair))⟩ : D_crosswalk_Entry)) h) ?_
          exact at_return (.tuple #[.agg #[str ([] : Str), str ([] : Str), (.slice none 0 0)], .bool false]) [0] hS Tryz.results50 (.cons (.cell 1 rfl ti76 rfl rfl rfl rfl) (.cons (.tmp rfl) .nil)) rfl rfl ⟨((.slice none 0 0)), rfl, rfl⟩
      · replace hr := ineg h1024 hr
        refine at_false rfl (decide_eq_false (by omega)) ?_
        refine at_exit ?_
        refine at_then_exit ?_
        refine at_then_exit ?_
        refine at_in_exit ?_
        have hq := oinj hr
        clear hr
        subst hq
        exact at_leafP ((x1005, x1006, x1007, x1008), (v1009, n1010, i1011, v1012)) rfl ⟨⟨rfl, ⟨rfl, ⟨rfl, trivial⟩⟩⟩, ⟨[true, true], rfl⟩, ⟨[true], rfl⟩, ⟨[1, 2, 3, 4, 5, 6, 8, 9], rfl⟩⟩
    · rintro ⟨⟨x1013, x1014, x1015, x1016⟩, ⟨v1017, n1018, i1019, v1020⟩⟩ hp
      replace hr := hk1023
      subst hp
      clear hl1022
      change At _ _ (⟨[(0, str a0), (2, .pointer (some (Addr.add ⟨b982, 0, none⟩ 0))), (5, .pointer (some (Addr.add ⟨b998, 0, none⟩ 0)))], [⟨b998, [str x989, str x993, v1017], 76⟩, ⟨b982, [str x1014, str x1015, v1020], 76⟩], [⟨v1017, 82, 2, n1018, i1019⟩], [(ty82.row x1013 i1019), (pureF (x1013.length * ty82.bytes ≤ 140737488355328)), (Ty.str.fact x1014 [str x1014]), (Ty.str.fact x1015 [str x1015]), ((Ty.slice ty82).fact x1016 [v1020]), (Ty.str.fact a0 [str a0]), (Ty.str.fact x989 [str x989]), (Ty.str.fact x993 [str x993])]⟩ : St) _
      refine at_then ?_
      refine at_seq ?_
      replace hr := obind hr
      obtain ⟨x1044, h1045, hr⟩ := hr
      by_cases h1047 : x1044 = true
      · replace hr := ipos h1047 hr
        replace hr := obind hr
        obtain ⟨x1048, h1049, hr⟩ := hr
        refine aa_start 9 (by kernel_rfl) ?_
        refine aa_load (bs' := [true, false, false, false, false, false, false, false, false, false, false]) 0 rfl (by kernel_rfl) rfl rfl (lt_load_box 0 rfl ti76 rfl rfl rfl rfl rfl) rfl (ts_in 0 0 rfl rfl) ?_
        refine aa_all (rs := [1]) (by kernel_rfl) rfl (ts_in 0 0 rfl rfl) (List.forall_mem_singleton.2 ?_)
        refine aa_op rfl rfl ?_
        refine hv_lt (lt_load_box 0 rfl ti76 rfl rfl rfl rfl rfl) rfl ?_
        refine aa_all (rs := [2]) (by kernel_rfl) rfl (ts_in 0 0 rfl rfl) (List.forall_mem_singleton.2 ?_)
        refine at_pure 1 rfl (fun hb1051 => ?_)
        refine at_release 0 0 rfl rfl rfl hb1051 ?_
        refine at_derive [7, 8, 0] (ty76.fact (⟨x989, x993, x1013⟩ : D_crosswalk_Entry) [str x989, str x993, v1017]) rfl (fun F w h => mk76 (x := (⟨x989, x993, x1013⟩ : D_crosswalk_Entry)) h) ?_
        refine aa_op rfl rfl ?_
        refine hv_call0 [0] (f57_spec h1045) rfl rfl rfl rfl ?_
        rintro _ _ ⟨rfl, rfl⟩
        refine aa_pure (bs' := [true, true, true, true, false, false, false, false, false, false, false]) 3 rfl (by kernel_rfl) rfl rfl (lt_move rfl) rfl (ts_in 0 2 rfl rfl) ?_
        refine aa_pure (bs' := [true, true, true, true, false, false, true, false, false, false, false]) 6 rfl (by kernel_rfl) rfl ⟨46, rfl, .inl ⟨_, rfl, gdq (v := true) h1047 rfl⟩⟩ (lt_move rfl) rfl (ts_in 0 2 rfl rfl) ?_
        refine aa_all (rs := [4]) (by kernel_rfl) rfl (ts_in 0 2 rfl rfl) (List.forall_mem_singleton.2 ?_)
        refine aa_op rfl ⟨46, rfl, .inl ⟨_, rfl, gdq (v := true) h1047 rfl⟩⟩ ?_
        refine hv_lt (lt_load_box 0 rfl ti76 rfl rfl rfl rfl rfl) rfl ?_
        refine aa_all (rs := [5]) (by kernel_rfl) rfl (ts_in 0 2 rfl rfl) (List.forall_mem_singleton.2 ?_)
        refine aa_op rfl ⟨46, rfl, .inl ⟨_, rfl, gdq (v := true) h1047 rfl⟩⟩ ?_
        refine hv_call0 [0] (f54_spec h1049) rfl rfl rfl rfl ?_
        rintro _ _ ⟨rfl, rfl⟩
        refine aa_pure (bs' := [true, true, true, true, true, true, true, true, false, false, false]) 7 rfl (by kernel_rfl) rfl ⟨46, rfl, .inl ⟨_, rfl, gdq (v := true) h1047 rfl⟩⟩ (lt_seql rfl rfl) rfl (ts_in 0 3 rfl rfl) ?_
        refine aa_pure (bs' := [true, true, true, true, true, true, true, true, true, false, false]) 8 rfl (by kernel_rfl) rfl rfl (lt_pick true rfl h1047 rfl) rfl (ts_in 0 3 rfl rfl) ?_
        refine aa_all (rs := [9]) (by kernel_rfl) rfl (ts_in 0 3 rfl rfl) (List.forall_mem_singleton.2 ?_)
        refine at_one 2 rfl (fun ho1052 => ?_)
        refine aa_op rfl rfl ?_
        refine hv_store_box 1 (cs' := [str x989, str x993, v1017]) rfl rfl ti76 rfl rfl rfl rfl (allc rfl (allc rfl (allc ho1052 rfl))) ?_
        refine aa_all (rs := [10]) (by kernel_rfl) rfl (ts_out rfl) (List.forall_mem_singleton.2 ?_)
        refine aa_op rfl rfl ?_
        refine hv_lt (lt_assign rfl) rfl ?_
        refine aa_done (by kernel_rfl) (ts_out rfl) ?_
        refine at_then ?_
        refine at_ret ?_
        have hq := oinj hr
        clear hr
        subst hq
        exact at_return (.tuple #[.agg #[str x989, str x993, v1017], .bool (decide (x1048 = a0))]) [1] hS Tryz.results50 (.cons (.cell 1 rfl ti76 rfl rfl rfl rfl) (.cons (.tmp rfl) .nil)) rfl rfl ⟨v1017, rfl, rfl⟩
      · replace hr := ineg h1047 hr
        refine aa_start 9 (by kernel_rfl) ?_
        refine aa_load (bs' := [true, false, false, false, false, false, false, false, false, false, false]) 0 rfl (by kernel_rfl) rfl rfl (lt_load_box 0 rfl ti76 rfl rfl rfl rfl rfl) rfl (ts_in 0 0 rfl rfl) ?_
        refine aa_all (rs := [1]) (by kernel_rfl) rfl (ts_in 0 0 rfl rfl) (List.forall_mem_singleton.2 ?_)
        refine aa_op rfl rfl ?_
        refine hv_lt (lt_load_box 0 rfl ti76 rfl rfl rfl rfl rfl) rfl ?_
        refine aa_all (rs := [2]) (by kernel_rfl) rfl (ts_in 0 0 rfl rfl) (List.forall_mem_singleton.2 ?_)
        refine at_pure 1 rfl (fun hb1054 => ?_)
        refine at_release 0 0 rfl rfl rfl hb1054 ?_
        refine at_derive [7, 8, 0] (ty76.fact (⟨x989, x993, x1013⟩ : D_crosswalk_Entry) [str x989, str x993, v1017]) rfl (fun F w h => mk76 (x := (⟨x989, x993, x1013⟩ : D_crosswalk_Entry)) h) ?_
        refine aa_op rfl rfl ?_
        refine hv_call0 [0] (f57_spec h1045) rfl rfl rfl rfl ?_
        rintro _ _ ⟨rfl, rfl⟩
        refine aa_pure (bs' := [true, true, true, true, false, false, false, false, false, false, false]) 3 rfl (by kernel_rfl) rfl rfl (lt_move rfl) rfl (ts_in 0 2 rfl rfl) ?_
        refine aa_off (bs' := [true, true, true, true, true, false, false, false, false, false, false]) 4 rfl (by kernel_rfl) rfl ⟨46, rfl, .inl ⟨_, rfl, gdq (v := false) (bf h1047) rfl⟩⟩ rfl (ts_in 0 2 rfl rfl) ?_
        refine aa_off (bs' := [true, true, true, true, true, true, false, false, false, false, false]) 5 rfl (by kernel_rfl) rfl ⟨46, rfl, .inl ⟨_, rfl, gdq (v := false) (bf h1047) rfl⟩⟩ rfl (ts_in 0 2 rfl rfl) ?_
        refine aa_off (bs' := [true, true, true, true, true, true, true, false, false, false, false]) 6 rfl (by kernel_rfl) rfl ⟨46, rfl, .inl ⟨_, rfl, gdq (v := false) (bf h1047) rfl⟩⟩ rfl (ts_in 0 2 rfl rfl) ?_
        refine aa_off (bs' := [true, true, true, true, true, true, true, true, false, false, false]) 7 rfl (by kernel_rfl) rfl ⟨46, rfl, .inl ⟨_, rfl, gdq (v := false) (bf h1047) rfl⟩⟩ rfl (ts_in 0 2 rfl rfl) ?_
        refine aa_pure (bs' := [true, true, true, true, true, true, true, true, true, false, false]) 8 rfl (by kernel_rfl) rfl rfl (lt_pick false rfl (bf h1047) rfl) rfl (ts_in 0 2 rfl rfl) ?_
        refine aa_all (rs := [9]) (by kernel_rfl) rfl (ts_in 0 2 rfl rfl) (List.forall_mem_singleton.2 ?_)
        refine at_one 1 rfl (fun ho1055 => ?_)
        refine aa_op rfl rfl ?_
        refine hv_store_box 1 (cs' := [str x989, str x993, v1017]) rfl rfl ti76 rfl rfl rfl rfl (allc rfl (allc rfl (allc ho1055 rfl))) ?_
        refine aa_all (rs := [10]) (by kernel_rfl) rfl (ts_out rfl) (List.forall_mem_singleton.2 ?_)
        refine aa_op rfl rfl ?_
        refine hv_lt (lt_assign rfl) rfl ?_
        refine aa_done (by kernel_rfl) (ts_out rfl) ?_
        refine at_then ?_
        refine at_ret ?_
        have hq := oinj hr
        clear hr
        subst hq
        exact at_return (.tuple #[.agg #[str x989, str x993, v1017], .bool false]) [0] hS Tryz.results50 (.cons (.cell 1 rfl ti76 rfl rfl rfl rfl) (.cons (.tmp rfl) .nil)) rfl rfl ⟨v1017, rfl, rfl⟩
/-! 51 slices.Clone[bookplate/crosswalk.Map,bookplate/crosswalk.Entry] -/
def m51 (a0 : List D_crosswalk_Entry) : Option (List D_crosswalk_Entry) := if a0.length ≤ 2513169434916 then some a0 else none
theorem m51_len {a0 r : List D_crosswalk_Entry} (h : m51 a0 = some r) : r.length ≤ 2513169434916 := by
  unfold m51 at h
  obtain ⟨hb, h⟩ := imust h
  have hq := oinj h
  subst hq
  exact hb
theorem f51_specL {a0 r : List D_crosswalk_Entry} {v : Value} {n : Nat} {inner : List Value} (hr : m51 a0 = some r) : SpecG Tryz.prog 51 [v] [⟨v, 76, 3, n, inner⟩] [ty76.row a0 inner] (postCloneL ty76 76 v n inner r) := by
  unfold m51 at hr
  obtain ⟨hb, hr⟩ := imust hr
  obtain rfl := oinj hr
  refine specG_start (N := 8) Tryz.func51 (by kernel_rfl) rfl rfl rfl ?_
  intro g hS
  refine at_rowq 0 rfl (fun A c hv hn => ?_)
  refine at_rown 0 0 rfl rfl rfl (fun hl => ?_)
  simp only at hv hn
  refine at_seq ?_
  refine at_region ?_
  refine at_lt (lt_assign rfl) rfl ?_
  refine at_nil ?_
  refine at_then ?_
  refine at_seq ?_
  refine at_seq ?_
  refine at_region ?_
  refine at_lt (lt_move rfl) rfl ?_
  refine at_lt (lt_nilq (A := A) (n := n) (c := c) (by rw [hv]; rfl) und34) rfl ?_
  refine at_nil ?_
  refine at_then ?_
  cases A with
  | none =>
    obtain rfl := hn rfl
    refine at_row0 0 rfl rfl (fun hi => ?_)
    obtain rfl := List.eq_nil_of_length_eq_zero hl.symm
    refine at_true rfl rfl ?_
    refine at_seq ?_
    refine at_region ?_
    refine at_lt (lt_assign rfl) rfl ?_
    refine at_nil ?_
    refine at_then ?_
    refine at_ret ?_
    refine at_then_ret ?_
    refine at_rownew none 76 3 ?_
    refine at_rownil ty76 ?_
    exact at_returnG (.slice none 0 0) [true, true] [0] hS Tryz.results51 (.cons (.tmp rfl) .nil) rfl rfl rfl ⟨0, [], rfl, rfl⟩
  | some ad =>
    refine at_false rfl rfl ?_
    refine at_skip ?_
    refine at_then ?_
    refine at_seq ?_
    refine at_region ?_
    refine at_hv rfl ?_
    refine hv_bslice (cs := []) rfl und34 ti76 rfl rfl rfl rfl rfl (fun s1 => ?_)
    refine at_lt (lt_move rfl) rfl ?_
    refine at_rowone 0 rfl rfl (fun h1 => ?_)
    refine at_hv rfl ?_
    refine hv_append 0 1 rfl rfl rfl rfl und34 ti76 rfl rfl h1 (by omega) (by omega) rfl (fun s2 => ?_)
    refine at_lt (lt_assign rfl) rfl ?_
    refine at_nil ?_
    refine at_then ?_
    refine at_ret ?_
    exact at_returnG s2 [true, true] [0] hS Tryz.results51 (.cons (.tmp rfl) .nil) rfl rfl rfl ⟨0 + n, [] ++ inner, rfl, rfl⟩
theorem f51_specR {a0 r : List D_crosswalk_Entry} {v : Value} (hr : m51 a0 = some r) : SpecG Tryz.prog 51 [v] [] [ty76.slice.fact a0 [v]] (postCloneR ty76 76 r) := by
  unfold m51 at hr
  obtain ⟨hb, hr⟩ := imust hr
  obtain rfl := oinj hr
  refine specG_start (N := 8) Tryz.func51 (by kernel_rfl) rfl rfl rfl ?_
  intro g hS
  refine at_slq 0 rfl (fun A c hv hn => ?_)
  refine at_seq ?_
  refine at_region ?_
  refine at_lt (lt_assign rfl) rfl ?_
  refine at_nil ?_
  refine at_then ?_
  refine at_seq ?_
  refine at_seq ?_
  refine at_region ?_
  refine at_lt (lt_move rfl) rfl ?_
  refine at_lt (lt_nilq (A := A) (n := a0.length) (c := c) (by rw [hv]; rfl) und34) rfl ?_
  refine at_nil ?_
  refine at_then ?_
  cases A with
  | none =>
    obtain rfl := hn rfl
    refine at_true rfl rfl ?_
    refine at_seq ?_
    refine at_region ?_
    refine at_lt (lt_assign rfl) rfl ?_
    refine at_nil ?_
    refine at_then ?_
    refine at_ret ?_
    refine at_then_ret ?_
    refine at_rownew none 76 3 ?_
    refine at_rownil ty76 ?_
    exact at_returnG (.slice none 0 0) [true] [0] hS Tryz.results51 (.cons (.tmp rfl) .nil) rfl rfl rfl ⟨0, [], rfl, rfl⟩
  | some ad =>
    refine at_false rfl rfl ?_
    refine at_skip ?_
    refine at_then ?_
    refine at_seq ?_
    refine at_region ?_
    refine at_hv rfl ?_
    refine hv_bslice (cs := []) rfl und34 ti76 rfl rfl rfl rfl rfl (fun s1 => ?_)
    refine at_lt (lt_move rfl) rfl ?_
    refine at_hv rfl ?_
    refine hv_append_f 0 0 rfl rfl rfl rfl und34 ti76 rfl rfl (by omega) (by omega) rfl (fun s2 u => ?_)
    refine at_lt (lt_assign rfl) rfl ?_
    refine at_nil ?_
    refine at_then ?_
    refine at_ret ?_
    exact at_returnG s2 [true] [0] hS Tryz.results51 (.cons (.tmp rfl) .nil) rfl rfl rfl ⟨0 + a0.length, [] ++ u, rfl, rfl⟩

/-! 19 bookplate/crosswalk.Parse -/
def m19_l1 : Nat → Str → (List D_crosswalk_Entry) → Nat → Option (Fl ((List D_crosswalk_Entry) × Int × Int) (List D_crosswalk_Entry))
  | 0, _, _, _ => none
  | k + 1, x1057, x1058, x1059 =>
    if x1057 = ([] : Str) then
      some (Fl.go x1058)
    else
      (m49 x1057 ([10] : Str)).bind fun x1071 =>
      (m50 x1071.1).bind fun x1073 =>
      Option.bind (α := Bool) (
        if x1071.2.2 = true then
          if x1073.2 = true then
            (m51 x1058).bind fun x1096 =>
            if x1096.length + 1 ≤ 2513169434916 then
              (m27 (x1096 ++ [(⟨x1073.1.From, x1073.1.To, x1073.1.Codes⟩ : D_crosswalk_Entry)])).bind fun x1106 =>
              some (!x1106)
            else none
          else
            some true
        else
          some true
      ) fun x1092 =>
      if x1092 = true then
        some (Fl.ret (([] : (List D_crosswalk_Entry)), (x1059 : Int), 7))
      else
        if x1058.length + 1 ≤ 2513169434916 then
          if x1059 + 1 ≤ 9223372036854775807 then
            m19_l1 k x1071.2.1 (x1058 ++ [(⟨x1073.1.From, x1073.1.To, x1073.1.Codes⟩ : D_crosswalk_Entry)]) (x1059 + 1)
          else none
        else none
def m19 (a0 : Str) : Option ((List D_crosswalk_Entry) × Int × Int) :=
  (m19_l1 9223372036854775808 a0 ([] : (List D_crosswalk_Entry)) 0).bind fun r => match r with
  | .ret x => some x
  | .go x1063 =>
    some (x1063, 0, 0)
def post19 (r : ((List D_crosswalk_Entry) × Int × Int)) (v : Value) (fs : List Fact) : Prop := ∃ s1127 : Value, v = .tuple #[s1127, .int .i64 r.2.1, .int .i64 r.2.2] ∧ fs = [((Ty.slice ty76).fact r.1 [s1127]), ((Ty.int .i64).fact r.2.1 [.int .i64 r.2.1]), ((Ty.int .i64).fact r.2.2 [.int .i64 r.2.2])]
theorem en19 : Enters Tryz.prog 19 := ⟨_, Tryz.func19, by kernel_rfl, rfl⟩
theorem f19_spec {a0 : Str} {r : ((List D_crosswalk_Entry) × Int × Int)} (hr : m19 a0 = some r) : Spec Tryz.prog 19 [str a0] [(Ty.str.fact a0 [str a0])] (post19 r) := by
  refine spec_start (N := 47) Tryz.func19 (by kernel_rfl) rfl rfl rfl ?_
  intro g hS
  unfold m19 at hr
  refine at_seq ?_
  refine at_region ?_
  refine at_lt (lt_assign rfl) rfl ?_
  refine at_lt (lt_assign rfl) rfl ?_
  refine at_lt (lt_assign rfl) rfl ?_
  refine at_nil ?_
  refine at_then ?_
  refine at_seq ?_
  refine at_rownew none 76 3 ?_
  refine at_rownil ty76 ?_
  refine at_mkpure (q := (([] : (List D_crosswalk_Entry)).length * ty76.bytes ≤ 140737488355328)) (by simp only [List.nil_append, List.cons_append, List.length_cons, List.length_nil, ty76_bytes] <;> omega) ?_
  refine at_int .i64 0 (by simp only [lo, hi]; omega) ?_
  replace hr := obind hr
  obtain ⟨r1067, hl1068, hk1069⟩ := hr
  refine at_cutP (V := ((List D_crosswalk_Entry)) × (Value × Nat × (List Value))) (fun v => r1067 = Fl.go v.1) (fun v => (⟨[(2, v.2.1)], [], [⟨v.2.1, 76, 3, v.2.2.1, v.2.2.2⟩], [(ty76.row v.1 v.2.2.2), (pureF (v.1.length * ty76.bytes ≤ 140737488355328))]⟩ : St)) ?_ ?_
  · refine at_block ?_
    refine at_loopW (σ := (Str × (List D_crosswalk_Entry) × Nat)) (V := Value × Nat × (List Value)) (r := r1067) (fun n s => m19_l1 n s.1 s.2.1 s.2.2) (fun s e => (⟨[(0, str s.1), (2, e.1), (3, .int .i64 (s.2.2 : Int))], [], [⟨e.1, 76, 3, e.2.1, e.2.2⟩], [(Ty.str.fact s.1 [str s.1]), (ty76.row s.2.1 e.2.2), (pureF (s.2.1.length * ty76.bytes ≤ 140737488355328)), ((Ty.int .i64).fact (s.2.2 : Int) [.int .i64 (s.2.2 : Int)])]⟩ : St)) (fun _ => rfl) _ (a0, ([] : (List D_crosswalk_Entry)), 0) ((.slice none 0 0), 0, []) hl1068 ⟨⟨rfl, ⟨rfl, ⟨rfl, trivial⟩⟩⟩, ⟨[], rfl⟩, ⟨[true], rfl⟩, ⟨[3, 2, 1, 0], rfl⟩⟩ ?_
    clear hl1068
    intro n s hr e
    obtain ⟨x1057, x1058, x1059⟩ := s
    obtain ⟨v1060, n1061, i1062⟩ := e
    change m19_l1 (n + 1) x1057 x1058 x1059 = some r1067 at hr
    change At _ _ (⟨[(0, str x1057), (2, v1060), (3, .int .i64 (x1059 : Int))], [], [⟨v1060, 76, 3, n1061, i1062⟩], [(Ty.str.fact x1057 [str x1057]), (ty76.row x1058 i1062), (pureF (x1058.length * ty76.bytes ≤ 140737488355328)), ((Ty.int .i64).fact (x1059 : Int) [.int .i64 (x1059 : Int)])]⟩ : St) _
    rw [m19_l1] at hr
    refine at_seq ?_
    refine at_seq ?_
    refine at_region ?_
    refine at_lt (lt_move rfl) rfl ?_
    refine at_lt (lt_sneq rfl rfl) rfl ?_
    refine at_nil ?_
    refine at_then ?_
    by_cases h1070 : x1057 = ([] : Str)
    · replace hr := ipos h1070 hr
      refine at_false rfl (nt (decide_eq_true h1070)) ?_
      refine at_exit ?_
      refine at_then_exit ?_
      refine at_then_exit ?_
      refine at_in_exit ?_
      have hq := oinj hr
      clear hr
      subst hq
      exact at_leafP (x1058, (v1060, n1061, i1062)) rfl ⟨⟨rfl, trivial⟩, ⟨[], rfl⟩, ⟨[true], rfl⟩, ⟨[1, 2], rfl⟩⟩
    · replace hr := ineg h1070 hr
      refine at_true rfl (nf (decide_eq_false h1070)) ?_
      refine at_skip ?_
      refine at_then ?_
      refine at_seq ?_
      refine at_block ?_
      refine at_seq ?_
      refine at_region ?_
      refine at_lt (lt_move rfl) rfl ?_
      replace hr := obind hr
      obtain ⟨x1071, h1072, hr⟩ := hr
      refine at_str ([10] : Str) (by decide) ?_
      refine at_hv rfl ?_
      refine hv_call0 [1, 0] (f49_spec h1072) rfl rfl rfl rfl ?_
      rintro _ _ ⟨rfl, rfl⟩
      refine at_lt (lt_move rfl) rfl ?_
      refine at_lt (lt_extract rfl rfl) rfl ?_
      refine at_lt (lt_extract rfl rfl) rfl ?_
      refine at_lt (lt_extract rfl rfl) rfl ?_
      refine at_lt (lt_assign rfl) rfl ?_
      refine at_lt (lt_assign rfl) rfl ?_
      refine at_lt (lt_assign rfl) rfl ?_
      refine at_nil ?_
      refine at_then ?_
      refine at_seq ?_
      refine at_region ?_
      refine at_lt (lt_move rfl) rfl ?_
      replace hr := obind hr
      obtain ⟨x1073, h1074, hr⟩ := hr
      refine at_hv rfl ?_
      refine hv_call0 [0] (f50_spec h1074) rfl rfl rfl rfl ?_
      rintro _ _ ⟨s1075, rfl, rfl⟩
      refine at_open (A := Unit) 0 rfl (fun _ => True) (fun _ => [(Ty.str.fact x1073.1.From [str x1073.1.From]), (Ty.str.fact x1073.1.To [str x1073.1.To]), ((Ty.slice ty82).fact x1073.1.Codes [s1075])]) (fun F w h => ⟨(), trivial, ex76 h⟩) (fun _ _ => ?_)
      refine at_lt (lt_move rfl) rfl ?_
      refine at_lt (lt_extract rfl rfl) rfl ?_
      refine at_lt (lt_extract rfl rfl) rfl ?_
      refine at_hv rfl ?_
      refine hv_alloc (cs := [str ([] : Str), str ([] : Str), (.slice none 0 0)]) ti76 rfl rfl (fun b1076 => ?_)
      refine at_one 2 rfl (fun ho1077 => ?_)
      refine at_hv rfl ?_
      refine hv_store_box 0 (cs' := [str x1073.1.From, str x1073.1.To, s1075]) rfl rfl ti76 rfl rfl rfl rfl (allc rfl (allc rfl (allc ho1077 rfl))) ?_
      refine at_lt (lt_assign rfl) rfl ?_
      refine at_nil ?_
      refine at_then ?_
      refine at_seq ?_
      refine at_seq ?_
      replace hr := obind hr
      obtain ⟨x1092, hc1093, hr⟩ := hr
      refine at_cut (V := Unit) (fun e => (⟨[(2, v1060), (3, .int .i64 (x1059 : Int)), (6, str x1071.2.1), (8, .pointer (some (Addr.add ⟨b1076, 0, none⟩ 0))), (39, .bool x1092)], [⟨b1076, [str x1073.1.From, str x1073.1.To, s1075], 76⟩], [⟨v1060, 76, 3, n1061, i1062⟩], [(ty76.row x1058 i1062), (pureF (x1058.length * ty76.bytes ≤ 140737488355328)), ((Ty.int .i64).fact (x1059 : Int) [.int .i64 (x1059 : Int)]), (Ty.str.fact x1071.2.1 [str x1071.2.1]), (Ty.str.fact x1073.1.From [str x1073.1.From]), (Ty.str.fact x1073.1.To [str x1073.1.To]), ((Ty.slice ty82).fact x1073.1.Codes [s1075])]⟩ : St)) ?_ ?_
      · clear hr
        have hr := hc1093
        clear hc1093
        by_cases h1094 : x1071.2.2 = true
        · replace hr := ipos h1094 hr
          by_cases h1095 : x1073.2 = true
          · replace hr := ipos h1095 hr
            replace hr := obind hr
            obtain ⟨x1096, h1097, hr⟩ := hr
            replace hr := imust hr
            obtain ⟨h1103, hr⟩ := hr
            replace hr := obind hr
            obtain ⟨x1106, h1107, hr⟩ := hr
            refine aa_start 15 (by kernel_rfl) ?_
            refine aa_pure (bs' := [true, false, false, false, false, false, false, false, false, false, false, false, false, false, false]) 0 rfl (by kernel_rfl) rfl rfl (lt_move rfl) rfl (ts_in 0 0 rfl rfl) ?_
            refine aa_pure (bs' := [true, true, false, false, false, false, false, false, false, false, false, false, false, false, false]) 1 rfl (by kernel_rfl) rfl rfl (lt_not rfl) rfl (ts_in 0 0 rfl rfl) ?_
            refine aa_pure (bs' := [true, true, true, false, false, false, false, false, false, false, false, false, false, false, false]) 2 rfl (by kernel_rfl) rfl rfl (lt_move rfl) rfl (ts_in 0 0 rfl rfl) ?_
            refine aa_pure (bs' := [true, true, true, true, false, false, false, false, false, false, false, false, false, false, false]) 3 rfl (by kernel_rfl) rfl ⟨27, rfl, .inl ⟨_, rfl, gdq (v := false) (nt h1094) rfl⟩⟩ (lt_move rfl) rfl (ts_in 0 0 rfl rfl) ?_
            refine aa_pure (bs' := [true, true, true, true, true, false, false, false, false, false, false, false, false, false, false]) 4 rfl (by kernel_rfl) rfl ⟨27, rfl, .inl ⟨_, rfl, gdq (v := false) (nt h1094) rfl⟩⟩ (lt_not rfl) rfl (ts_in 0 0 rfl rfl) ?_
            refine aa_pure (bs' := [true, true, true, true, true, true, false, false, false, false, false, false, false, false, false]) 5 rfl (by kernel_rfl) rfl rfl (lt_pick false rfl (nt h1094) rfl) rfl (ts_in 0 0 rfl rfl) ?_
            refine aa_pure (bs' := [true, true, true, true, true, true, true, false, false, false, false, false, false, false, false]) 6 rfl (by kernel_rfl) rfl rfl (lt_move rfl) rfl (ts_in 0 0 rfl rfl) ?_
            refine aa_pure (bs' := [true, true, true, true, true, true, true, true, false, false, false, false, false, false, false]) 7 rfl (by kernel_rfl) rfl ⟨31, rfl, .inl ⟨_, rfl, gdq (v := false) (nt h1095) rfl⟩⟩ (lt_move rfl) rfl (ts_in 0 0 rfl rfl) ?_
            refine aa_load (bs' := [true, true, true, true, true, true, true, true, false, true, false, false, false, false, false]) 9 rfl (by kernel_rfl) rfl ⟨31, rfl, .inl ⟨_, rfl, gdq (v := false) (nt h1095) rfl⟩⟩ (lt_load_box 0 rfl ti76 rfl rfl rfl rfl rfl) rfl (ts_in 0 0 rfl rfl) ?_
            refine aa_all (rs := [8, 10]) (by kernel_rfl) rfl (ts_in 0 0 rfl rfl) (List.forall_mem_cons.2 ⟨?_, (List.forall_mem_singleton.2 ?_)⟩)
            · refine aa_op rfl ⟨31, rfl, .inl ⟨_, rfl, gdq (v := false) (nt h1095) rfl⟩⟩ ?_
              refine hv_callG0 [true] [8] (f51_specL h1097) rfl rfl rfl rfl rfl rfl ?_
              rintro s1108 _ _ ⟨n1109, i1110, rfl, rfl⟩
              refine aa_all (rs := [10]) (by kernel_rfl) rfl (ts_in 0 1 rfl rfl) (List.forall_mem_singleton.2 ?_)
              refine aa_op rfl ⟨31, rfl, .inl ⟨_, rfl, gdq (v := false) (nt h1095) rfl⟩⟩ ?_
              refine hv_bslice (cs := [str x1073.1.From, str x1073.1.To, s1075]) rfl und34 ti76 rfl rfl rfl rfl rfl (fun s1111 => ?_)
              refine aa_all (rs := [11]) (by kernel_rfl) rfl (ts_in 0 1 rfl rfl) (List.forall_mem_singleton.2 ?_)
              refine at_derive [1, 2, 3] (ty76.fact (⟨x1073.1.From, x1073.1.To, x1073.1.Codes⟩ : D_crosswalk_Entry) [str x1073.1.From, str x1073.1.To, s1075]) rfl (fun F w h => mk76 (x := (⟨x1073.1.From, x1073.1.To, x1073.1.Codes⟩ : D_crosswalk_Entry)) h) ?_
              refine at_rown 1 1 rfl rfl rfl (fun hn1113 => ?_)
              refine aa_op rfl ⟨31, rfl, .inl ⟨_, rfl, gdq (v := false) (nt h1095) rfl⟩⟩ ?_
              refine hv_append 1 0 rfl rfl rfl rfl und34 ti76 rfl rfl (allc rfl (allc rfl (allc ho1077 rfl))) (by omega) (by omega) rfl (fun s1112 => ?_)
              refine at_rowsnoc 1 0 rfl rfl ?_
              refine aa_all (rs := [12]) (by kernel_rfl) rfl (ts_in 0 3 rfl rfl) (List.forall_mem_singleton.2 ?_)
              refine at_release 1 0 rfl rfl rfl (by simp only [List.length_append, List.length_cons, List.length_nil, ty76_bytes] <;> omega) ?_
              refine aa_op rfl ⟨31, rfl, .inl ⟨_, rfl, gdq (v := false) (nt h1095) rfl⟩⟩ ?_
              refine hv_call0 [0] (f27_spec h1107) rfl rfl rfl rfl ?_
              rintro _ _ ⟨rfl, rfl⟩
              refine aa_pure (bs' := [true, true, true, true, true, true, true, true, true, true, true, true, true, true, false]) 13 rfl (by kernel_rfl) rfl ⟨31, rfl, .inl ⟨_, rfl, gdq (v := false) (nt h1095) rfl⟩⟩ (lt_not rfl) rfl (ts_in 0 4 rfl rfl) ?_
              refine aa_pure (bs' := [true, true, true, true, true, true, true, true, true, true, true, true, true, true, true]) 14 rfl (by kernel_rfl) rfl rfl (lt_pick false rfl (nt h1095) rfl) rfl (ts_in 0 4 rfl rfl) ?_
              refine aa_done (by kernel_rfl) (ts_in 0 4 rfl rfl) ?_
              have hq := oinj hr
              clear hr
              subst hq
              exact at_leaf () ⟨⟨rfl, ⟨rfl, ⟨rfl, ⟨rfl, ⟨rfl, trivial⟩⟩⟩⟩⟩, ⟨[true], rfl⟩, ⟨[false, true], rfl⟩, ⟨[12, 13, 14, 9, 4, 5, 6], rfl⟩⟩
            · refine aa_op rfl ⟨31, rfl, .inl ⟨_, rfl, gdq (v := false) (nt h1095) rfl⟩⟩ ?_
              refine hv_bslice (cs := [str x1073.1.From, str x1073.1.To, s1075]) rfl und34 ti76 rfl rfl rfl rfl rfl (fun s1114 => ?_)
              refine aa_all (rs := [8]) (by kernel_rfl) rfl (ts_in 0 0 rfl rfl) (List.forall_mem_singleton.2 ?_)
              refine aa_op rfl ⟨31, rfl, .inl ⟨_, rfl, gdq (v := false) (nt h1095) rfl⟩⟩ ?_
              refine hv_callG0 [false, true] [8] (f51_specL h1097) rfl rfl rfl rfl rfl rfl ?_
              rintro s1115 _ _ ⟨n1116, i1117, rfl, rfl⟩
              refine aa_all (rs := [11]) (by kernel_rfl) rfl (ts_in 0 1 rfl rfl) (List.forall_mem_singleton.2 ?_)
              refine at_derive [1, 2, 3] (ty76.fact (⟨x1073.1.From, x1073.1.To, x1073.1.Codes⟩ : D_crosswalk_Entry) [str x1073.1.From, str x1073.1.To, s1075]) rfl (fun F w h => mk76 (x := (⟨x1073.1.From, x1073.1.To, x1073.1.Codes⟩ : D_crosswalk_Entry)) h) ?_
              refine at_rown 0 1 rfl rfl rfl (fun hn1119 => ?_)
              refine aa_op rfl ⟨31, rfl, .inl ⟨_, rfl, gdq (v := false) (nt h1095) rfl⟩⟩ ?_
              refine hv_append 0 2 rfl rfl rfl rfl und34 ti76 rfl rfl (allc rfl (allc rfl (allc ho1077 rfl))) (by omega) (by omega) rfl (fun s1118 => ?_)
              refine at_rowsnoc 1 0 rfl rfl ?_
              refine aa_all (rs := [12]) (by kernel_rfl) rfl (ts_in 0 3 rfl rfl) (List.forall_mem_singleton.2 ?_)
              refine at_release 0 0 rfl rfl rfl (by simp only [List.length_append, List.length_cons, List.length_nil, ty76_bytes] <;> omega) ?_
              refine aa_op rfl ⟨31, rfl, .inl ⟨_, rfl, gdq (v := false) (nt h1095) rfl⟩⟩ ?_
              refine hv_call0 [0] (f27_spec h1107) rfl rfl rfl rfl ?_
              rintro _ _ ⟨rfl, rfl⟩
              refine aa_pure (bs' := [true, true, true, true, true, true, true, true, true, true, true, true, true, true, false]) 13 rfl (by kernel_rfl) rfl ⟨31, rfl, .inl ⟨_, rfl, gdq (v := false) (nt h1095) rfl⟩⟩ (lt_not rfl) rfl (ts_in 0 4 rfl rfl) ?_
              refine aa_pure (bs' := [true, true, true, true, true, true, true, true, true, true, true, true, true, true, true]) 14 rfl (by kernel_rfl) rfl rfl (lt_pick false rfl (nt h1095) rfl) rfl (ts_in 0 4 rfl rfl) ?_
              refine aa_done (by kernel_rfl) (ts_in 0 4 rfl rfl) ?_
              have hq := oinj hr
              clear hr
              subst hq
              exact at_leaf () ⟨⟨rfl, ⟨rfl, ⟨rfl, ⟨rfl, ⟨rfl, trivial⟩⟩⟩⟩⟩, ⟨[true], rfl⟩, ⟨[true, false], rfl⟩, ⟨[12, 13, 14, 9, 4, 5, 6], rfl⟩⟩
          · replace hr := ineg h1095 hr
            refine aa_start 15 (by kernel_rfl) ?_
            refine aa_pure (bs' := [true, false, false, false, false, false, false, false, false, false, false, false, false, false, false]) 0 rfl (by kernel_rfl) rfl rfl (lt_move rfl) rfl (ts_in 0 0 rfl rfl) ?_
            refine aa_pure (bs' := [true, true, false, false, false, false, false, false, false, false, false, false, false, false, false]) 1 rfl (by kernel_rfl) rfl rfl (lt_not rfl) rfl (ts_in 0 0 rfl rfl) ?_
            refine aa_pure (bs' := [true, true, true, false, false, false, false, false, false, false, false, false, false, false, false]) 2 rfl (by kernel_rfl) rfl rfl (lt_move rfl) rfl (ts_in 0 0 rfl rfl) ?_
            refine aa_pure (bs' := [true, true, true, true, false, false, false, false, false, false, false, false, false, false, false]) 3 rfl (by kernel_rfl) rfl ⟨27, rfl, .inl ⟨_, rfl, gdq (v := false) (nt h1094) rfl⟩⟩ (lt_move rfl) rfl (ts_in 0 0 rfl rfl) ?_
            refine aa_pure (bs' := [true, true, true, true, true, false, false, false, false, false, false, false, false, false, false]) 4 rfl (by kernel_rfl) rfl ⟨27, rfl, .inl ⟨_, rfl, gdq (v := false) (nt h1094) rfl⟩⟩ (lt_not rfl) rfl (ts_in 0 0 rfl rfl) ?_
            refine aa_pure (bs' := [true, true, true, true, true, true, false, false, false, false, false, false, false, false, false]) 5 rfl (by kernel_rfl) rfl rfl (lt_pick false rfl (nt h1094) rfl) rfl (ts_in 0 0 rfl rfl) ?_
            refine aa_pure (bs' := [true, true, true, true, true, true, true, false, false, false, false, false, false, false, false]) 6 rfl (by kernel_rfl) rfl rfl (lt_move rfl) rfl (ts_in 0 0 rfl rfl) ?_
            refine aa_off (bs' := [true, true, true, true, true, true, true, true, false, false, false, false, false, false, false]) 7 rfl (by kernel_rfl) rfl ⟨31, rfl, .inl ⟨_, rfl, gdq (v := true) (nf (bf h1095)) rfl⟩⟩ rfl (ts_in 0 0 rfl rfl) ?_
            refine aa_off (bs' := [true, true, true, true, true, true, true, true, true, false, false, false, false, false, false]) 8 rfl (by kernel_rfl) rfl ⟨31, rfl, .inl ⟨_, rfl, gdq (v := true) (nf (bf h1095)) rfl⟩⟩ rfl (ts_in 0 0 rfl rfl) ?_
            refine aa_off (bs' := [true, true, true, true, true, true, true, true, true, true, false, false, false, false, false]) 9 rfl (by kernel_rfl) rfl ⟨31, rfl, .inl ⟨_, rfl, gdq (v := true) (nf (bf h1095)) rfl⟩⟩ rfl (ts_in 0 0 rfl rfl) ?_
            refine aa_off (bs' := [true, true, true, true, true, true, true, true, true, true, true, false, false, false, false]) 10 rfl (by kernel_rfl) rfl ⟨31, rfl, .inl ⟨_, rfl, gdq (v := true) (nf (bf h1095)) rfl⟩⟩ rfl (ts_in 0 0 rfl rfl) ?_
            refine aa_off (bs' := [true, true, true, true, true, true, true, true, true, true, true, true, false, false, false]) 11 rfl (by kernel_rfl) rfl ⟨31, rfl, .inl ⟨_, rfl, gdq (v := true) (nf (bf h1095)) rfl⟩⟩ rfl (ts_in 0 0 rfl rfl) ?_
            refine aa_off (bs' := [true, true, true, true, true, true, true, true, true, true, true, true, true, false, false]) 12 rfl (by kernel_rfl) rfl ⟨31, rfl, .inl ⟨_, rfl, gdq (v := true) (nf (bf h1095)) rfl⟩⟩ rfl (ts_in 0 0 rfl rfl) ?_
            refine aa_off (bs' := [true, true, true, true, true, true, true, true, true, true, true, true, true, true, false]) 13 rfl (by kernel_rfl) rfl ⟨31, rfl, .inl ⟨_, rfl, gdq (v := true) (nf (bf h1095)) rfl⟩⟩ rfl (ts_in 0 0 rfl rfl) ?_
            refine aa_pure (bs' := [true, true, true, true, true, true, true, true, true, true, true, true, true, true, true]) 14 rfl (by kernel_rfl) rfl rfl (lt_pick true rfl (nf (bf h1095)) rfl) rfl (ts_in 0 0 rfl rfl) ?_
            refine aa_done (by kernel_rfl) (ts_in 0 0 rfl rfl) ?_
            have hq := oinj hr
            clear hr
            subst hq
            exact at_leaf () ⟨⟨rfl, ⟨rfl, ⟨rfl, ⟨rfl, ⟨rfl, trivial⟩⟩⟩⟩⟩, ⟨[true], rfl⟩, ⟨[true], rfl⟩, ⟨[8, 9, 10, 5, 0, 1, 2], rfl⟩⟩
        · replace hr := ineg h1094 hr
          refine aa_start 15 (by kernel_rfl) ?_
          refine aa_pure (bs' := [true, false, false, false, false, false, false, false, false, false, false, false, false, false, false]) 0 rfl (by kernel_rfl) rfl rfl (lt_move rfl) rfl (ts_in 0 0 rfl rfl) ?_
          refine aa_pure (bs' := [true, true, false, false, false, false, false, false, false, false, false, false, false, false, false]) 1 rfl (by kernel_rfl) rfl rfl (lt_not rfl) rfl (ts_in 0 0 rfl rfl) ?_
          refine aa_pure (bs' := [true, true, true, false, false, false, false, false, false, false, false, false, false, false, false]) 2 rfl (by kernel_rfl) rfl rfl (lt_move rfl) rfl (ts_in 0 0 rfl rfl) ?_
          refine aa_off (bs' := [true, true, true, true, false, false, false, false, false, false, false, false, false, false, false]) 3 rfl (by kernel_rfl) rfl ⟨27, rfl, .inl ⟨_, rfl, gdq (v := true) (nf (bf h1094)) rfl⟩⟩ rfl (ts_in 0 0 rfl rfl) ?_
          refine aa_off (bs' := [true, true, true, true, true, false, false, false, false, false, false, false, false, false, false]) 4 rfl (by kernel_rfl) rfl ⟨27, rfl, .inl ⟨_, rfl, gdq (v := true) (nf (bf h1094)) rfl⟩⟩ rfl (ts_in 0 0 rfl rfl) ?_
          refine aa_pure (bs' := [true, true, true, true, true, true, false, false, false, false, false, false, false, false, false]) 5 rfl (by kernel_rfl) rfl rfl (lt_pick true rfl (nf (bf h1094)) rfl) rfl (ts_in 0 0 rfl rfl) ?_
          refine aa_pure (bs' := [true, true, true, true, true, true, true, false, false, false, false, false, false, false, false]) 6 rfl (by kernel_rfl) rfl rfl (lt_move rfl) rfl (ts_in 0 0 rfl rfl) ?_
          refine aa_off (bs' := [true, true, true, true, true, true, true, true, false, false, false, false, false, false, false]) 7 rfl (by kernel_rfl) rfl ⟨31, rfl, .inl ⟨_, rfl, gdq (v := true) rfl rfl⟩⟩ rfl (ts_in 0 0 rfl rfl) ?_
          refine aa_off (bs' := [true, true, true, true, true, true, true, true, true, false, false, false, false, false, false]) 8 rfl (by kernel_rfl) rfl ⟨31, rfl, .inl ⟨_, rfl, gdq (v := true) rfl rfl⟩⟩ rfl (ts_in 0 0 rfl rfl) ?_
          refine aa_off (bs' := [true, true, true, true, true, true, true, true, true, true, false, false, false, false, false]) 9 rfl (by kernel_rfl) rfl ⟨31, rfl, .inl ⟨_, rfl, gdq (v := true) rfl rfl⟩⟩ rfl (ts_in 0 0 rfl rfl) ?_
          refine aa_off (bs' := [true, true, true, true, true, true, true, true, true, true, true, false, false, false, false]) 10 rfl (by kernel_rfl) rfl ⟨31, rfl, .inl ⟨_, rfl, gdq (v := true) rfl rfl⟩⟩ rfl (ts_in 0 0 rfl rfl) ?_
          refine aa_off (bs' := [true, true, true, true, true, true, true, true, true, true, true, true, false, false, false]) 11 rfl (by kernel_rfl) rfl ⟨31, rfl, .inl ⟨_, rfl, gdq (v := true) rfl rfl⟩⟩ rfl (ts_in 0 0 rfl rfl) ?_
          refine aa_off (bs' := [true, true, true, true, true, true, true, true, true, true, true, true, true, false, false]) 12 rfl (by kernel_rfl) rfl ⟨31, rfl, .inl ⟨_, rfl, gdq (v := true) rfl rfl⟩⟩ rfl (ts_in 0 0 rfl rfl) ?_
          refine aa_off (bs' := [true, true, true, true, true, true, true, true, true, true, true, true, true, true, false]) 13 rfl (by kernel_rfl) rfl ⟨31, rfl, .inl ⟨_, rfl, gdq (v := true) rfl rfl⟩⟩ rfl (ts_in 0 0 rfl rfl) ?_
          refine aa_pure (bs' := [true, true, true, true, true, true, true, true, true, true, true, true, true, true, true]) 14 rfl (by kernel_rfl) rfl rfl (lt_pick true rfl rfl rfl) rfl (ts_in 0 0 rfl rfl) ?_
          refine aa_done (by kernel_rfl) (ts_in 0 0 rfl rfl) ?_
          have hq := oinj hr
          clear hr
          subst hq
          exact at_leaf () ⟨⟨rfl, ⟨rfl, ⟨rfl, ⟨rfl, ⟨rfl, trivial⟩⟩⟩⟩⟩, ⟨[true], rfl⟩, ⟨[true], rfl⟩, ⟨[8, 9, 10, 5, 0, 1, 2], rfl⟩⟩
      · clear hc1093
        intro _
        change At _ _ (⟨[(2, v1060), (3, .int .i64 (x1059 : Int)), (6, str x1071.2.1), (8, .pointer (some (Addr.add ⟨b1076, 0, none⟩ 0))), (39, .bool x1092)], [⟨b1076, [str x1073.1.From, str x1073.1.To, s1075], 76⟩], [⟨v1060, 76, 3, n1061, i1062⟩], [(ty76.row x1058 i1062), (pureF (x1058.length * ty76.bytes ≤ 140737488355328)), ((Ty.int .i64).fact (x1059 : Int) [.int .i64 (x1059 : Int)]), (Ty.str.fact x1071.2.1 [str x1071.2.1]), (Ty.str.fact x1073.1.From [str x1073.1.From]), (Ty.str.fact x1073.1.To [str x1073.1.To]), ((Ty.slice ty82).fact x1073.1.Codes [s1075])]⟩ : St) _
        refine at_then ?_
        by_cases h1120 : x1092 = true
        · replace hr := ipos h1120 hr
          refine at_true rfl h1120 ?_
          refine at_seq ?_
          refine at_region ?_
          refine at_lt (lt_move rfl) rfl ?_
          refine at_lt (lt_assign rfl) rfl ?_
          refine at_lt (lt_assign rfl) rfl ?_
          refine at_lt (lt_assign rfl) rfl ?_
          refine at_nil ?_
          refine at_then ?_
          refine at_ret ?_
          have hq := oinj hr
          clear hr
          subst hq
          have hq := oinj hk1069
          clear hk1069
          subst hq
          refine at_then_ret ?_
          refine at_in_ret ?_
          refine at_then_ret ?_
          refine at_then_ret ?_
          refine at_in_ret ?_
          refine at_then_ret ?_
          refine at_then_ret ?_
          refine at_fnil ty76 none ?_
          refine at_int .i64 7 (by simp only [lo, hi]; omega) ?_
          exact at_return (.tuple #[(.slice none 0 0), .int .i64 (x1059 : Int), .int .i64 7]) [1, 4, 0] hS Tryz.results19 (.cons (.tmp rfl) (.cons (.tmp rfl) (.cons (.tmp rfl) .nil))) rfl rfl ⟨((.slice none 0 0)), rfl, rfl⟩
        · replace hr := ineg h1120 hr
          refine at_false rfl (bf h1120) ?_
          refine at_skip ?_
          refine at_then ?_
          refine at_seq ?_
          refine at_region ?_
          refine at_lt (lt_move rfl) rfl ?_
          refine at_lt (lt_load_box 0 rfl ti76 rfl rfl rfl rfl rfl) rfl ?_
          refine at_hv rfl ?_
          refine hv_bslice (cs := [str x1073.1.From, str x1073.1.To, s1075]) rfl und34 ti76 rfl rfl rfl rfl rfl (fun s1121 => ?_)
          replace hr := imust hr
          obtain ⟨h1122, hr⟩ := hr
          refine at_derive [4, 5, 6] (ty76.fact (⟨x1073.1.From, x1073.1.To, x1073.1.Codes⟩ : D_crosswalk_Entry) [str x1073.1.From, str x1073.1.To, s1075]) rfl (fun F w h => mk76 (x := (⟨x1073.1.From, x1073.1.To, x1073.1.Codes⟩ : D_crosswalk_Entry)) h) ?_
          refine at_rown 1 1 rfl rfl rfl (fun hn1124 => ?_)
          refine at_hv rfl ?_
          refine hv_append 1 0 rfl rfl rfl rfl und34 ti76 rfl rfl (allc rfl (allc rfl (allc ho1077 rfl))) (by omega) (by omega) rfl (fun s1123 => ?_)
          refine at_rowsnoc 1 0 rfl rfl ?_
          refine at_lt (lt_assign rfl) rfl ?_
          refine at_nil ?_
          refine at_then ?_
          refine at_region ?_
          refine at_lt (lt_move rfl) rfl ?_
          refine at_lt (lt_assign rfl) rfl ?_
          refine at_nil ?_
          refine at_in ?_
          refine at_then ?_
          refine at_region ?_
          refine at_lt (lt_move rfl) rfl ?_
          replace hr := imust hr
          obtain ⟨h1125, hr⟩ := hr
          refine at_lt (lt_add rfl rfl (by simp only [lo, hi]; omega)) rfl ?_
          refine at_lt (lt_assign rfl) rfl ?_
          refine at_nil ?_
          refine at_mkpure (q := ((x1058 ++ [(⟨x1073.1.From, x1073.1.To, x1073.1.Codes⟩ : D_crosswalk_Entry)]).length * ty76.bytes ≤ 140737488355328)) (by simp only [List.length_append, List.length_cons, List.length_nil, ty76_bytes] <;> omega) ?_
          refine at_int .i64 (x1059 + 1 : Int) (by simp only [lo, hi]; omega) ?_
          exact at_again (σ := (Str × (List D_crosswalk_Entry) × Nat)) (V := Value × Nat × (List Value)) (lp := fun n s => m19_l1 n s.1 s.2.1 s.2.2) (S := fun s e => (⟨[(0, str s.1), (2, e.1), (3, .int .i64 (s.2.2 : Int))], [], [⟨e.1, 76, 3, e.2.1, e.2.2⟩], [(Ty.str.fact s.1 [str s.1]), (ty76.row s.2.1 e.2.2), (pureF (s.2.1.length * ty76.bytes ≤ 140737488355328)), ((Ty.int .i64).fact (s.2.2 : Int) [.int .i64 (s.2.2 : Int)])]⟩ : St)) (x1071.2.1, x1058 ++ [(⟨x1073.1.From, x1073.1.To, x1073.1.Codes⟩ : D_crosswalk_Entry)], x1059 + 1) (s1123, n1061 + 1, i1062 ++ [str x1073.1.From, str x1073.1.To, s1075]) hr ⟨⟨rfl, ⟨rfl, ⟨rfl, trivial⟩⟩⟩, ⟨[false], rfl⟩, ⟨[false, true], rfl⟩, ⟨[7, 2, 1, 0], rfl⟩⟩
  · rintro ⟨x1063, ⟨v1064, n1065, i1066⟩⟩ hp
    replace hr := hk1069
    subst hp
    clear hl1068
    change At _ _ (⟨[(2, v1064)], [], [⟨v1064, 76, 3, n1065, i1066⟩], [(ty76.row x1063 i1066), (pureF (x1063.length * ty76.bytes ≤ 140737488355328))]⟩ : St) _
    refine at_then ?_
    refine at_seq ?_
    refine at_region ?_
    refine at_lt (lt_move rfl) rfl ?_
    refine at_lt (lt_assign rfl) rfl ?_
    refine at_lt (lt_assign rfl) rfl ?_
    refine at_lt (lt_assign rfl) rfl ?_
    refine at_nil ?_
    refine at_then ?_
    refine at_ret ?_
    have hq := oinj hr
    clear hr
    subst hq
    refine at_pure 1 rfl (fun hb1126 => ?_)
    refine at_release 0 0 rfl rfl rfl hb1126 ?_
    refine at_int .i64 0 (by simp only [lo, hi]; omega) ?_
    exact at_return (.tuple #[v1064, .int .i64 0, .int .i64 0]) [1, 0, 0] hS Tryz.results19 (.cons (.tmp rfl) (.cons (.tmp rfl) (.cons (.tmp rfl) .nil))) rfl rfl ⟨v1064, rfl, rfl⟩
/-! 10 bookplate/bookplatelaw16.awake -/
def m10  : Option Bool :=
  (m19 ([50, 52, 53, 32, 62, 32, 50, 48, 48, 32, 97, 62, 97, 32, 98, 62, 101, 10] : Str)).bind fun x1128 =>
  (m14 x1128.1 (⟨3, [(⟨([50, 52, 53] : Str), 49, 32, [(⟨98, ([114, 101, 115, 116] : Str)⟩ : D_api_Sub), (⟨99, ([120] : Str)⟩ : D_api_Sub)]⟩ : D_api_Field)]⟩ : D_api_Record)).bind fun x1138 =>
  (m19 ([49, 48, 48, 32, 62, 32, 55, 48, 48, 32, 97, 62, 97, 10, 55, 48, 48, 32, 62, 32, 55, 48, 48, 32, 97, 62, 97, 10] : Str)).bind fun x1145 =>
  if x1128.2.2 = 0 then
    if x1128.2.1 = 0 then
      if x1138.2 = 0 then
        if x1145.2.2 = 0 then
          if x1138.1.Fields.length = 1 then
            (x1138.1.Fields[0]?).bind fun x1157 =>
            if x1157.Tag = ([50, 48, 48] : Str) then
              (x1138.1.Fields[0]?).bind fun x1163 =>
              if x1163.Subs.length = 1 then
                (x1138.1.Fields[0]?).bind fun x1171 =>
                (x1171.Subs[0]?).bind fun x1176 =>
                if (decide (((x1176.Code.toNat : Int) : Int) = 101) && decide (x1176.Value = ([114, 101, 115, 116] : Str))) = true then
                  (m17 x1128.1).bind fun x1181 =>
                  if x1181 = true then
                    (m17 x1145.1).bind fun x1184 =>
                    some (!x1184)
                  else
                    some false
                else
                  some false
              else
                some false
            else
              some false
          else
            some false
        else
          some false
      else
        some false
    else
      some false
  else
    some false
def post10 (r : Bool) (v : Value) (fs : List Fact) : Prop := v = .bool r ∧ fs = []
theorem en10 : Enters Tryz.prog 10 := ⟨_, Tryz.func10, by kernel_rfl, rfl⟩
theorem f10_spec {r : Bool} (hr : m10  = some r) : Spec Tryz.prog 10 [] [] (post10 r) := by
  refine spec_start (N := 90) Tryz.func10 (by kernel_rfl) rfl rfl rfl ?_
  intro g hS
  unfold m10 at hr
  refine at_seq ?_
  refine at_region ?_
  refine at_lt (lt_assign rfl) rfl ?_
  refine at_nil ?_
  refine at_then ?_
  refine at_seq ?_
  refine at_region ?_
  replace hr := obind hr
  obtain ⟨x1128, h1129, hr⟩ := hr
  refine at_str ([50, 52, 53, 32, 62, 32, 50, 48, 48, 32, 97, 62, 97, 32, 98, 62, 101, 10] : Str) (by decide) ?_
  refine at_hv rfl ?_
  refine hv_call0 [0] (f19_spec h1129) rfl rfl rfl rfl ?_
  rintro _ _ ⟨s1130, rfl, rfl⟩
  refine at_inv 1 rfl (fun l1131 => ?_)
  replace l1131 : (-9223372036854775808) ≤ x1128.2.1 ∧ x1128.2.1 ≤ 9223372036854775807 := l1131
  refine at_inv 2 rfl (fun l1132 => ?_)
  replace l1132 : (-9223372036854775808) ≤ x1128.2.2 ∧ x1128.2.2 ≤ 9223372036854775807 := l1132
  refine at_lt (lt_move rfl) rfl ?_
  refine at_lt (lt_extract rfl rfl) rfl ?_
  refine at_lt (lt_extract rfl rfl) rfl ?_
  refine at_lt (lt_extract rfl rfl) rfl ?_
  refine at_lt (lt_assign rfl) rfl ?_
  refine at_lt (lt_assign rfl) rfl ?_
  refine at_lt (lt_assign rfl) rfl ?_
  refine at_nil ?_
  refine at_then ?_
  refine at_seq ?_
  refine at_region ?_
  refine at_lt (lt_abuild (cs := [.int .u8 49, .int .u8 32]) rfl ti64 und64 ti5 rfl) rfl ?_
  refine at_lt (lt_build (cs := [.int .u8 98, str ([114, 101, 115, 116] : Str)]) rfl ti66 pl66 rfl) rfl ?_
  refine at_lt (lt_build (cs := [.int .u8 99, str ([120] : Str)]) rfl ti66 pl66 rfl) rfl ?_
  refine at_hv rfl ?_
  refine hv_bslice (cs := [.int .u8 98, str ([114, 101, 115, 116] : Str), .int .u8 99, str ([120] : Str)]) rfl und67 ti66 rfl rfl rfl rfl rfl (fun s1133 => ?_)
  refine at_rowv 0 rfl (fun ho1134 => ?_)
  replace ho1134 := row_one (by obtain ⟨a, c, h⟩ := ho1134; exact ⟨a, _, c, h⟩)
  refine at_lt (lt_buildc (cs := [str ([50, 52, 53] : Str), .int .u8 49, .int .u8 32, s1133]) [(0, [str ([50, 52, 53] : Str)]), (1, [.int .u8 49, .int .u8 32]), (2, [s1133])] rfl ti69 pl69 ⟨rfl, rfl, ⟨rfl, rfl, ⟨rfl, cells_one ho1134, trivial⟩⟩⟩ rfl) rfl ?_
  refine at_hv rfl ?_
  refine hv_bslice (cs := [str ([50, 52, 53] : Str), .int .u8 49, .int .u8 32, s1133]) rfl und23 ti69 rfl rfl rfl rfl rfl (fun s1135 => ?_)
  refine at_rowv 0 rfl (fun ho1136 => ?_)
  replace ho1136 := row_one (by obtain ⟨a, c, h⟩ := ho1136; exact ⟨a, _, c, h⟩)
  refine at_lt (lt_buildc (cs := [.int .i64 3, s1135]) [(0, [.int .i64 3]), (1, [s1135])] rfl ti25 pl25 ⟨rfl, rfl, ⟨rfl, cells_one ho1136, trivial⟩⟩ rfl) rfl ?_
  refine at_hv rfl ?_
  refine hv_alloc (cs := [.int .i64 0, (.slice none 0 0)]) ti25 rfl rfl (fun b1137 => ?_)
  refine at_hv rfl ?_
  refine hv_store_box 0 (cs' := [.int .i64 3, s1135]) rfl rfl ti25 rfl rfl rfl rfl (allc rfl (allc ho1136 rfl)) ?_
  refine at_nil ?_
  refine at_then ?_
  refine at_seq ?_
  refine at_region ?_
  refine at_lt (lt_move rfl) rfl ?_
  refine at_lt (lt_load_box 0 rfl ti25 rfl rfl rfl rfl rfl) rfl ?_
  replace hr := obind hr
  obtain ⟨x1138, h1139, hr⟩ := hr
  refine at_int .i64 3 (by simp only [lo, hi]; omega) ?_
  refine at_rownil ty69 ?_
  refine at_str ([50, 52, 53] : Str) (by decide) ?_
  refine at_rownil ty66 ?_
  refine at_str ([114, 101, 115, 116] : Str) (by decide) ?_
  refine at_derive [0] (ty66.fact (⟨98, ([114, 101, 115, 116] : Str)⟩ : D_api_Sub) [.int .u8 98, str ([114, 101, 115, 116] : Str)]) rfl (fun F w h => mk66 (x := (⟨98, ([114, 101, 115, 116] : Str)⟩ : D_api_Sub)) h) ?_
  refine at_rowsnoc 2 0 rfl rfl ?_
  refine at_str ([120] : Str) (by decide) ?_
  refine at_derive [0] (ty66.fact (⟨99, ([120] : Str)⟩ : D_api_Sub) [.int .u8 99, str ([120] : Str)]) rfl (fun F w h => mk66 (x := (⟨99, ([120] : Str)⟩ : D_api_Sub)) h) ?_
  refine at_rowsnoc 2 0 rfl rfl ?_
  refine at_release 1 0 rfl rfl rfl (by simp only [List.nil_append, List.cons_append, List.length_cons, List.length_nil, ty66_bytes] <;> omega) ?_
  refine at_derive [8, 0] (ty69.fact (⟨([50, 52, 53] : Str), 49, 32, [(⟨98, ([114, 101, 115, 116] : Str)⟩ : D_api_Sub), (⟨99, ([120] : Str)⟩ : D_api_Sub)]⟩ : D_api_Field) [str ([50, 52, 53] : Str), .int .u8 49, .int .u8 32, s1133]) rfl (fun F w h => mk69 (x := (⟨([50, 52, 53] : Str), 49, 32, [(⟨98, ([114, 101, 115, 116] : Str)⟩ : D_api_Sub), (⟨99, ([120] : Str)⟩ : D_api_Sub)]⟩ : D_api_Field)) h) ?_
  refine at_rowsnoc 10 0 rfl rfl ?_
  refine at_release 0 0 rfl rfl rfl (by simp only [List.nil_append, List.cons_append, List.length_cons, List.length_nil, ty69_bytes] <;> omega) ?_
  refine at_derive [13, 0] (ty25.fact (⟨3, [(⟨([50, 52, 53] : Str), 49, 32, [(⟨98, ([114, 101, 115, 116] : Str)⟩ : D_api_Sub), (⟨99, ([120] : Str)⟩ : D_api_Sub)]⟩ : D_api_Field)]⟩ : D_api_Record) [.int .i64 3, s1135]) rfl (fun F w h => mk25 (x := (⟨3, [(⟨([50, 52, 53] : Str), 49, 32, [(⟨98, ([114, 101, 115, 116] : Str)⟩ : D_api_Sub), (⟨99, ([120] : Str)⟩ : D_api_Sub)]⟩ : D_api_Field)]⟩ : D_api_Record)) h) ?_
  refine at_hv rfl ?_
  refine hv_call0 [15, 0] (f14_spec h1139) rfl rfl rfl rfl ?_
  rintro _ _ ⟨s1140, rfl, rfl⟩
  refine at_open (A := Unit) 0 rfl (fun _ => True) (fun _ => [((Ty.int .i64).fact x1138.1.ID [.int .i64 x1138.1.ID]), ((Ty.slice ty69).fact x1138.1.Fields [s1140])]) (fun F w h => ⟨(), trivial, ex25 h⟩) (fun _ _ => ?_)
  refine at_inv 0 rfl (fun l1141 => ?_)
  replace l1141 : (-9223372036854775808) ≤ x1138.1.ID ∧ x1138.1.ID ≤ 9223372036854775807 := l1141
  refine at_inv 3 rfl (fun l1142 => ?_)
  replace l1142 : (-9223372036854775808) ≤ x1138.2 ∧ x1138.2 ≤ 9223372036854775807 := l1142
  refine at_lt (lt_move rfl) rfl ?_
  refine at_lt (lt_extract rfl rfl) rfl ?_
  refine at_lt (lt_extract rfl rfl) rfl ?_
  refine at_hv rfl ?_
  refine hv_alloc (cs := [.int .i64 0, (.slice none 0 0)]) ti25 rfl rfl (fun b1143 => ?_)
  refine at_one 1 rfl (fun ho1144 => ?_)
  refine at_hv rfl ?_
  refine hv_store_box 0 (cs' := [.int .i64 x1138.1.ID, s1140]) rfl rfl ti25 rfl rfl rfl rfl (allc rfl (allc ho1144 rfl)) ?_
  refine at_lt (lt_assign rfl) rfl ?_
  refine at_nil ?_
  refine at_then ?_
  refine at_seq ?_
  refine at_region ?_
  replace hr := obind hr
  obtain ⟨x1145, h1146, hr⟩ := hr
  refine at_str ([49, 48, 48, 32, 62, 32, 55, 48, 48, 32, 97, 62, 97, 10, 55, 48, 48, 32, 62, 32, 55, 48, 48, 32, 97, 62, 97, 10] : Str) (by decide) ?_
  refine at_hv rfl ?_
  refine hv_call0 [0] (f19_spec h1146) rfl rfl rfl rfl ?_
  rintro _ _ ⟨s1147, rfl, rfl⟩
  refine at_inv 1 rfl (fun l1148 => ?_)
  replace l1148 : (-9223372036854775808) ≤ x1145.2.1 ∧ x1145.2.1 ≤ 9223372036854775807 := l1148
  refine at_inv 2 rfl (fun l1149 => ?_)
  replace l1149 : (-9223372036854775808) ≤ x1145.2.2 ∧ x1145.2.2 ≤ 9223372036854775807 := l1149
  refine at_lt (lt_move rfl) rfl ?_
  refine at_lt (lt_extract rfl rfl) rfl ?_
  refine at_lt (lt_extract rfl rfl) rfl ?_
  refine at_lt (lt_extract rfl rfl) rfl ?_
  refine at_lt (lt_assign rfl) rfl ?_
  refine at_lt (lt_assign rfl) rfl ?_
  refine at_lt (lt_assign rfl) rfl ?_
  refine at_nil ?_
  refine at_then ?_
  refine at_seq ?_
  refine at_region ?_
  refine at_lt (lt_move rfl) rfl ?_
  refine at_lt (lt_eql rfl rfl) rfl ?_
  refine at_lt (lt_move rfl) rfl ?_
  by_cases h1150 : x1128.2.2 = 0
  · replace hr := ipos h1150 hr
    refine at_on rfl rfl (decide_eq_true (by first | exact h1150 | omega)) ?_
    refine at_lt (lt_move rfl) rfl ?_
    refine at_on rfl rfl (decide_eq_true (by first | exact h1150 | omega)) ?_
    refine at_lt (lt_eql rfl rfl) rfl ?_
    refine at_lt (lt_pick true rfl (decide_eq_true (by first | exact h1150 | omega)) rfl) rfl ?_
    refine at_lt (lt_move rfl) rfl ?_
    by_cases h1151 : x1128.2.1 = 0
    · replace hr := ipos h1151 hr
      refine at_on rfl rfl (decide_eq_true (by first | exact h1151 | omega)) ?_
      refine at_lt (lt_move rfl) rfl ?_
      refine at_on rfl rfl (decide_eq_true (by first | exact h1151 | omega)) ?_
      refine at_lt (lt_eql rfl rfl) rfl ?_
      refine at_lt (lt_pick true rfl (decide_eq_true (by first | exact h1151 | omega)) rfl) rfl ?_
      refine at_lt (lt_move rfl) rfl ?_
      by_cases h1152 : x1138.2 = 0
      · replace hr := ipos h1152 hr
        refine at_on rfl rfl (decide_eq_true (by first | exact h1152 | omega)) ?_
        refine at_lt (lt_move rfl) rfl ?_
        refine at_on rfl rfl (decide_eq_true (by first | exact h1152 | omega)) ?_
        refine at_lt (lt_eql rfl rfl) rfl ?_
        refine at_lt (lt_pick true rfl (decide_eq_true (by first | exact h1152 | omega)) rfl) rfl ?_
        refine at_lt (lt_move rfl) rfl ?_
        by_cases h1153 : x1145.2.2 = 0
        · replace hr := ipos h1153 hr
          refine at_on rfl rfl (decide_eq_true (by first | exact h1153 | omega)) ?_
          refine at_lt (lt_fieldAddr 1 rfl fld25_1 rfl) rfl ?_
          refine at_on rfl rfl (decide_eq_true (by first | exact h1153 | omega)) ?_
          refine at_lt (lt_load_box 0 rfl ti23 rfl rfl rfl rfl rfl) rfl ?_
          refine at_inv 5 rfl (fun i1154 => ?_)
          have l1155 := slice_len i1154
          refine at_on rfl rfl (decide_eq_true (by first | exact h1153 | omega)) ?_
          refine at_lt (lt_flen 5 rfl rfl und23) rfl ?_
          refine at_on rfl rfl (decide_eq_true (by first | exact h1153 | omega)) ?_
          refine at_lt (lt_eql rfl rfl) rfl ?_
          refine at_lt (lt_pick true rfl (decide_eq_true (by first | exact h1153 | omega)) rfl) rfl ?_
          refine at_lt (lt_move rfl) rfl ?_
          by_cases h1156 : x1138.1.Fields.length = 1
          · replace hr := ipos h1156 hr
            refine at_on rfl rfl (decide_eq_true (by omega)) ?_
            refine at_lt (lt_fieldAddr 1 rfl fld25_1 rfl) rfl ?_
            refine at_on rfl rfl (decide_eq_true (by omega)) ?_
            refine at_lt (lt_load_box 0 rfl ti23 rfl rfl rfl rfl rfl) rfl ?_
            replace hr := obind hr
            obtain ⟨x1157, h1158, hr⟩ := hr
            have := (List.getElem?_eq_some_iff.1 h1158).1
            refine at_elem 5 rfl (nat_at' (i := 0) h1158) (fun p1160 ec pa1161 => ?_)
            refine at_open (A := Value) 0 rfl _ _ (fun F w h => op69 h) ?_
            rintro s1159 rfl
            refine at_on rfl rfl (decide_eq_true (by omega)) ?_
            refine at_lt (lt_idx rfl rfl pa1161 und23 ti69) rfl ?_
            refine at_on rfl rfl (decide_eq_true (by omega)) ?_
            refine at_lt (lt_fieldAddr 0 rfl fld69_0 rfl) rfl ?_
            refine at_on rfl rfl (decide_eq_true (by omega)) ?_
            refine at_lt (lt_load_peek 3 rfl ti9 rfl rfl rfl rfl rfl) rfl ?_
            refine at_on rfl rfl (decide_eq_true (by omega)) ?_
            refine at_lt (lt_seql rfl rfl) rfl ?_
            refine at_lt (lt_pick true rfl (decide_eq_true (by omega)) rfl) rfl ?_
            refine at_lt (lt_move rfl) rfl ?_
            by_cases h1162 : x1157.Tag = ([50, 48, 48] : Str)
            · replace hr := ipos h1162 hr
              refine at_on rfl rfl (decide_eq_true h1162) ?_
              refine at_lt (lt_fieldAddr 1 rfl fld25_1 rfl) rfl ?_
              refine at_on rfl rfl (decide_eq_true h1162) ?_
              refine at_lt (lt_load_box 0 rfl ti23 rfl rfl rfl rfl rfl) rfl ?_
              replace hr := obind hr
              obtain ⟨x1163, h1164, hr⟩ := hr
              have := (List.getElem?_eq_some_iff.1 h1164).1
              refine at_elem 9 rfl (nat_at' (i := 0) h1164) (fun p1166 ec pa1167 => ?_)
              refine at_open (A := Value) 0 rfl _ _ (fun F w h => op69 h) ?_
              rintro s1165 rfl
              refine at_on rfl rfl (decide_eq_true h1162) ?_
              refine at_lt (lt_idx rfl rfl pa1167 und23 ti69) rfl ?_
              refine at_on rfl rfl (decide_eq_true h1162) ?_
              refine at_lt (lt_fieldAddr 3 rfl fld69_2 rfl) rfl ?_
              refine at_on rfl rfl (decide_eq_true h1162) ?_
              refine at_lt (lt_load_peek 3 rfl ti67 rfl rfl rfl rfl rfl) rfl ?_
              refine at_inv 1 rfl (fun i1168 => ?_)
              have l1169 := slice_len i1168
              refine at_on rfl rfl (decide_eq_true h1162) ?_
              refine at_lt (lt_flen 1 rfl rfl und67) rfl ?_
              refine at_on rfl rfl (decide_eq_true h1162) ?_
              refine at_lt (lt_eql rfl rfl) rfl ?_
              refine at_lt (lt_pick true rfl (decide_eq_true h1162) rfl) rfl ?_
              refine at_lt (lt_move rfl) rfl ?_
              by_cases h1170 : x1163.Subs.length = 1
              · replace hr := ipos h1170 hr
                refine at_on rfl rfl (decide_eq_true (by omega)) ?_
                refine at_lt (lt_fieldAddr 1 rfl fld25_1 rfl) rfl ?_
                refine at_on rfl rfl (decide_eq_true (by omega)) ?_
                refine at_lt (lt_load_box 0 rfl ti23 rfl rfl rfl rfl rfl) rfl ?_
                replace hr := obind hr
                obtain ⟨x1171, h1172, hr⟩ := hr
                have := (List.getElem?_eq_some_iff.1 h1172).1
                refine at_elem 13 rfl (nat_at' (i := 0) h1172) (fun p1174 ec pa1175 => ?_)
                refine at_open (A := Value) 0 rfl _ _ (fun F w h => op69 h) ?_
                rintro s1173 rfl
                refine at_on rfl rfl (decide_eq_true (by omega)) ?_
                refine at_lt (lt_idx rfl rfl pa1175 und23 ti69) rfl ?_
                refine at_on rfl rfl (decide_eq_true (by omega)) ?_
                refine at_lt (lt_fieldAddr 3 rfl fld69_2 rfl) rfl ?_
                refine at_on rfl rfl (decide_eq_true (by omega)) ?_
                refine at_lt (lt_load_peek 3 rfl ti67 rfl rfl rfl rfl rfl) rfl ?_
                replace hr := obind hr
                obtain ⟨x1176, h1177, hr⟩ := hr
                have := (List.getElem?_eq_some_iff.1 h1177).1
                refine at_elem 1 rfl (nat_at' (i := 0) h1177) (fun p1178 ec pa1179 => ?_)
                refine at_open (A := Unit) 0 rfl _ _ (fun F w h => op66 h) ?_
                rintro _ rfl
                refine at_on rfl rfl (decide_eq_true (by omega)) ?_
                refine at_lt (lt_idx rfl rfl pa1179 und67 ti66) rfl ?_
                refine at_on rfl rfl (decide_eq_true (by omega)) ?_
                refine at_lt (lt_load_peek 2 rfl ti66 rfl rfl rfl rfl rfl) rfl ?_
                refine at_on rfl rfl (decide_eq_true (by omega)) ?_
                refine at_lt (lt_build (cs := [.int .u8 101, str ([114, 101, 115, 116] : Str)]) rfl ti66 pl66 rfl) rfl ?_
                refine at_on rfl rfl (decide_eq_true (by omega)) ?_
                refine at_lt (lt_steq rfl rfl eg66 eqt66) rfl ?_
                refine at_lt (lt_pick true rfl (decide_eq_true (by omega)) rfl) rfl ?_
                refine at_lt (lt_move rfl) rfl ?_
                by_cases h1180 : (decide (((x1176.Code.toNat : Int) : Int) = 101) && decide (x1176.Value = ([114, 101, 115, 116] : Str))) = true
                · replace hr := ipos h1180 hr
                  refine at_on rfl rfl h1180 ?_
                  refine at_lt (lt_move rfl) rfl ?_
                  replace hr := obind hr
                  obtain ⟨x1181, h1182, hr⟩ := hr
                  refine at_on rfl rfl h1180 ?_
                  refine at_hv rfl ?_
                  refine hv_call0 [38] (f17_spec h1182) rfl rfl rfl rfl ?_
                  rintro _ _ ⟨rfl, rfl⟩
                  refine at_lt (lt_pick true rfl h1180 rfl) rfl ?_
                  refine at_lt (lt_move rfl) rfl ?_
                  by_cases h1183 : x1181 = true
                  · replace hr := ipos h1183 hr
                    refine at_on rfl rfl h1183 ?_
                    refine at_lt (lt_move rfl) rfl ?_
                    replace hr := obind hr
                    obtain ⟨x1184, h1185, hr⟩ := hr
                    refine at_on rfl rfl h1183 ?_
                    refine at_hv rfl ?_
                    refine hv_call0 [15] (f17_spec h1185) rfl rfl rfl rfl ?_
                    rintro _ _ ⟨rfl, rfl⟩
                    refine at_on rfl rfl h1183 ?_
                    refine at_lt (lt_not rfl) rfl ?_
                    refine at_lt (lt_pick true rfl h1183 rfl) rfl ?_
                    refine at_lt (lt_assign rfl) rfl ?_
                    refine at_nil ?_
                    refine at_then ?_
                    refine at_ret ?_
                    have hq := oinj hr
                    clear hr
                    subst hq
                    exact at_return (.bool (!x1184)) [] hS Tryz.results10 (.cons (.tmp rfl) .nil) rfl rfl ⟨rfl, rfl⟩
                  · replace hr := ineg h1183 hr
                    refine at_off rfl rfl (bf h1183) rfl ?_
                    refine at_off rfl rfl (bf h1183) rfl ?_
                    refine at_off rfl rfl (bf h1183) rfl ?_
                    refine at_lt (lt_pick false rfl (bf h1183) rfl) rfl ?_
                    refine at_lt (lt_assign rfl) rfl ?_
                    refine at_nil ?_
                    refine at_then ?_
                    refine at_ret ?_
                    have hq := oinj hr
                    clear hr
                    subst hq
                    exact at_return (.bool false) [] hS Tryz.results10 (.cons (.tmp rfl) .nil) rfl rfl ⟨rfl, rfl⟩
                · replace hr := ineg h1180 hr
                  refine at_off rfl rfl (bf h1180) rfl ?_
                  refine at_off rfl rfl (bf h1180) rfl ?_
                  refine at_lt (lt_pick false rfl (bf h1180) rfl) rfl ?_
                  refine at_lt (lt_move rfl) rfl ?_
                  refine at_off rfl rfl rfl rfl ?_
                  refine at_off rfl rfl rfl rfl ?_
                  refine at_off rfl rfl rfl rfl ?_
                  refine at_lt (lt_pick false rfl rfl rfl) rfl ?_
                  refine at_lt (lt_assign rfl) rfl ?_
                  refine at_nil ?_
                  refine at_then ?_
                  refine at_ret ?_
                  have hq := oinj hr
                  clear hr
                  subst hq
                  exact at_return (.bool false) [] hS Tryz.results10 (.cons (.tmp rfl) .nil) rfl rfl ⟨rfl, rfl⟩
              · replace hr := ineg h1170 hr
                refine at_off rfl rfl (decide_eq_false (by omega)) rfl ?_
                refine at_off rfl rfl (decide_eq_false (by omega)) rfl ?_
                refine at_off rfl rfl (decide_eq_false (by omega)) rfl ?_
                refine at_off rfl rfl (decide_eq_false (by omega)) rfl ?_
                refine at_off rfl rfl (decide_eq_false (by omega)) rfl ?_
                refine at_off rfl rfl (decide_eq_false (by omega)) rfl ?_
                refine at_off rfl rfl (decide_eq_false (by omega)) rfl ?_
                refine at_off rfl rfl (decide_eq_false (by omega)) rfl ?_
                refine at_off rfl rfl (decide_eq_false (by omega)) rfl ?_
                refine at_lt (lt_pick false rfl (decide_eq_false (by omega)) rfl) rfl ?_
                refine at_lt (lt_move rfl) rfl ?_
                refine at_off rfl rfl rfl rfl ?_
                refine at_off rfl rfl rfl rfl ?_
                refine at_lt (lt_pick false rfl rfl rfl) rfl ?_
                refine at_lt (lt_move rfl) rfl ?_
                refine at_off rfl rfl rfl rfl ?_
                refine at_off rfl rfl rfl rfl ?_
                refine at_off rfl rfl rfl rfl ?_
                refine at_lt (lt_pick false rfl rfl rfl) rfl ?_
                refine at_lt (lt_assign rfl) rfl ?_
                refine at_nil ?_
                refine at_then ?_
                refine at_ret ?_
                have hq := oinj hr
                clear hr
                subst hq
                exact at_return (.bool false) [] hS Tryz.results10 (.cons (.tmp rfl) .nil) rfl rfl ⟨rfl, rfl⟩
            · replace hr := ineg h1162 hr
              refine at_off rfl rfl (decide_eq_false h1162) rfl ?_
              refine at_off rfl rfl (decide_eq_false h1162) rfl ?_
              refine at_off rfl rfl (decide_eq_false h1162) rfl ?_
              refine at_off rfl rfl (decide_eq_false h1162) rfl ?_
              refine at_off rfl rfl (decide_eq_false h1162) rfl ?_
              refine at_off rfl rfl (decide_eq_false h1162) rfl ?_
              refine at_off rfl rfl (decide_eq_false h1162) rfl ?_
              refine at_lt (lt_pick false rfl (decide_eq_false h1162) rfl) rfl ?_
              refine at_lt (lt_move rfl) rfl ?_
              refine at_off rfl rfl rfl rfl ?_
              refine at_off rfl rfl rfl rfl ?_
              refine at_off rfl rfl rfl rfl ?_
              refine at_off rfl rfl rfl rfl ?_
              refine at_off rfl rfl rfl rfl ?_
              refine at_off rfl rfl rfl rfl ?_
              refine at_off rfl rfl rfl rfl ?_
              refine at_off rfl rfl rfl rfl ?_
              refine at_off rfl rfl rfl rfl ?_
              refine at_lt (lt_pick false rfl rfl rfl) rfl ?_
              refine at_lt (lt_move rfl) rfl ?_
              refine at_off rfl rfl rfl rfl ?_
              refine at_off rfl rfl rfl rfl ?_
              refine at_lt (lt_pick false rfl rfl rfl) rfl ?_
              refine at_lt (lt_move rfl) rfl ?_
              refine at_off rfl rfl rfl rfl ?_
              refine at_off rfl rfl rfl rfl ?_
              refine at_off rfl rfl rfl rfl ?_
              refine at_lt (lt_pick false rfl rfl rfl) rfl ?_
              refine at_lt (lt_assign rfl) rfl ?_
              refine at_nil ?_
              refine at_then ?_
              refine at_ret ?_
              have hq := oinj hr
              clear hr
              subst hq
              exact at_return (.bool false) [] hS Tryz.results10 (.cons (.tmp rfl) .nil) rfl rfl ⟨rfl, rfl⟩
          · replace hr := ineg h1156 hr
            refine at_off rfl rfl (decide_eq_false (by omega)) rfl ?_
            refine at_off rfl rfl (decide_eq_false (by omega)) rfl ?_
            refine at_off rfl rfl (decide_eq_false (by omega)) rfl ?_
            refine at_off rfl rfl (decide_eq_false (by omega)) rfl ?_
            refine at_off rfl rfl (decide_eq_false (by omega)) rfl ?_
            refine at_off rfl rfl (decide_eq_false (by omega)) rfl ?_
            refine at_lt (lt_pick false rfl (decide_eq_false (by omega)) rfl) rfl ?_
            refine at_lt (lt_move rfl) rfl ?_
            refine at_off rfl rfl rfl rfl ?_
            refine at_off rfl rfl rfl rfl ?_
            refine at_off rfl rfl rfl rfl ?_
            refine at_off rfl rfl rfl rfl ?_
            refine at_off rfl rfl rfl rfl ?_
            refine at_off rfl rfl rfl rfl ?_
            refine at_off rfl rfl rfl rfl ?_
            refine at_lt (lt_pick false rfl rfl rfl) rfl ?_
            refine at_lt (lt_move rfl) rfl ?_
            refine at_off rfl rfl rfl rfl ?_
            refine at_off rfl rfl rfl rfl ?_
            refine at_off rfl rfl rfl rfl ?_
            refine at_off rfl rfl rfl rfl ?_
            refine at_off rfl rfl rfl rfl ?_
            refine at_off rfl rfl rfl rfl ?_
            refine at_off rfl rfl rfl rfl ?_
            refine at_off rfl rfl rfl rfl ?_
            refine at_off rfl rfl rfl rfl ?_
            refine at_lt (lt_pick false rfl rfl rfl) rfl ?_
            refine at_lt (lt_move rfl) rfl ?_
            refine at_off rfl rfl rfl rfl ?_
            refine at_off rfl rfl rfl rfl ?_
            refine at_lt (lt_pick false rfl rfl rfl) rfl ?_
            refine at_lt (lt_move rfl) rfl ?_
            refine at_off rfl rfl rfl rfl ?_
            refine at_off rfl rfl rfl rfl ?_
            refine at_off rfl rfl rfl rfl ?_
            refine at_lt (lt_pick false rfl rfl rfl) rfl ?_
            refine at_lt (lt_assign rfl) rfl ?_
            refine at_nil ?_
            refine at_then ?_
            refine at_ret ?_
            have hq := oinj hr
            clear hr
            subst hq
            exact at_return (.bool false) [] hS Tryz.results10 (.cons (.tmp rfl) .nil) rfl rfl ⟨rfl, rfl⟩
        · replace hr := ineg h1153 hr
          refine at_off rfl rfl (decide_eq_false (by first | exact h1153 | omega)) rfl ?_
          refine at_off rfl rfl (decide_eq_false (by first | exact h1153 | omega)) rfl ?_
          refine at_off rfl rfl (decide_eq_false (by first | exact h1153 | omega)) rfl ?_
          refine at_off rfl rfl (decide_eq_false (by first | exact h1153 | omega)) rfl ?_
          refine at_lt (lt_pick false rfl (decide_eq_false (by first | exact h1153 | omega)) rfl) rfl ?_
          refine at_lt (lt_move rfl) rfl ?_
          refine at_off rfl rfl rfl rfl ?_
          refine at_off rfl rfl rfl rfl ?_
          refine at_off rfl rfl rfl rfl ?_
          refine at_off rfl rfl rfl rfl ?_
          refine at_off rfl rfl rfl rfl ?_
          refine at_off rfl rfl rfl rfl ?_
          refine at_lt (lt_pick false rfl rfl rfl) rfl ?_
          refine at_lt (lt_move rfl) rfl ?_
          refine at_off rfl rfl rfl rfl ?_
          refine at_off rfl rfl rfl rfl ?_
          refine at_off rfl rfl rfl rfl ?_
          refine at_off rfl rfl rfl rfl ?_
          refine at_off rfl rfl rfl rfl ?_
          refine at_off rfl rfl rfl rfl ?_
          refine at_off rfl rfl rfl rfl ?_
          refine at_lt (lt_pick false rfl rfl rfl) rfl ?_
          refine at_lt (lt_move rfl) rfl ?_
          refine at_off rfl rfl rfl rfl ?_
          refine at_off rfl rfl rfl rfl ?_
          refine at_off rfl rfl rfl rfl ?_
          refine at_off rfl rfl rfl rfl ?_
          refine at_off rfl rfl rfl rfl ?_
          refine at_off rfl rfl rfl rfl ?_
          refine at_off rfl rfl rfl rfl ?_
          refine at_off rfl rfl rfl rfl ?_
          refine at_off rfl rfl rfl rfl ?_
          refine at_lt (lt_pick false rfl rfl rfl) rfl ?_
          refine at_lt (lt_move rfl) rfl ?_
          refine at_off rfl rfl rfl rfl ?_
          refine at_off rfl rfl rfl rfl ?_
          refine at_lt (lt_pick false rfl rfl rfl) rfl ?_
          refine at_lt (lt_move rfl) rfl ?_
          refine at_off rfl rfl rfl rfl ?_
          refine at_off rfl rfl rfl rfl ?_
          refine at_off rfl rfl rfl rfl ?_
          refine at_lt (lt_pick false rfl rfl rfl) rfl ?_
          refine at_lt (lt_assign rfl) rfl ?_
          refine at_nil ?_
          refine at_then ?_
          refine at_ret ?_
          have hq := oinj hr
          clear hr
          subst hq
          exact at_return (.bool false) [] hS Tryz.results10 (.cons (.tmp rfl) .nil) rfl rfl ⟨rfl, rfl⟩
      · replace hr := ineg h1152 hr
        refine at_off rfl rfl (decide_eq_false (by first | exact h1152 | omega)) rfl ?_
        refine at_off rfl rfl (decide_eq_false (by first | exact h1152 | omega)) rfl ?_
        refine at_lt (lt_pick false rfl (decide_eq_false (by first | exact h1152 | omega)) rfl) rfl ?_
        refine at_lt (lt_move rfl) rfl ?_
        refine at_off rfl rfl rfl rfl ?_
        refine at_off rfl rfl rfl rfl ?_
        refine at_off rfl rfl rfl rfl ?_
        refine at_off rfl rfl rfl rfl ?_
        refine at_lt (lt_pick false rfl rfl rfl) rfl ?_
        refine at_lt (lt_move rfl) rfl ?_
        refine at_off rfl rfl rfl rfl ?_
        refine at_off rfl rfl rfl rfl ?_
        refine at_off rfl rfl rfl rfl ?_
        refine at_off rfl rfl rfl rfl ?_
        refine at_off rfl rfl rfl rfl ?_
        refine at_off rfl rfl rfl rfl ?_
        refine at_lt (lt_pick false rfl rfl rfl) rfl ?_
        refine at_lt (lt_move rfl) rfl ?_
        refine at_off rfl rfl rfl rfl ?_
        refine at_off rfl rfl rfl rfl ?_
        refine at_off rfl rfl rfl rfl ?_
        refine at_off rfl rfl rfl rfl ?_
        refine at_off rfl rfl rfl rfl ?_
        refine at_off rfl rfl rfl rfl ?_
        refine at_off rfl rfl rfl rfl ?_
        refine at_lt (lt_pick false rfl rfl rfl) rfl ?_
        refine at_lt (lt_move rfl) rfl ?_
        refine at_off rfl rfl rfl rfl ?_
        refine at_off rfl rfl rfl rfl ?_
        refine at_off rfl rfl rfl rfl ?_
        refine at_off rfl rfl rfl rfl ?_
        refine at_off rfl rfl rfl rfl ?_
        refine at_off rfl rfl rfl rfl ?_
        refine at_off rfl rfl rfl rfl ?_
        refine at_off rfl rfl rfl rfl ?_
        refine at_off rfl rfl rfl rfl ?_
        refine at_lt (lt_pick false rfl rfl rfl) rfl ?_
        refine at_lt (lt_move rfl) rfl ?_
        refine at_off rfl rfl rfl rfl ?_
        refine at_off rfl rfl rfl rfl ?_
        refine at_lt (lt_pick false rfl rfl rfl) rfl ?_
        refine at_lt (lt_move rfl) rfl ?_
        refine at_off rfl rfl rfl rfl ?_
        refine at_off rfl rfl rfl rfl ?_
        refine at_off rfl rfl rfl rfl ?_
        refine at_lt (lt_pick false rfl rfl rfl) rfl ?_
        refine at_lt (lt_assign rfl) rfl ?_
        refine at_nil ?_
        refine at_then ?_
        refine at_ret ?_
        have hq := oinj hr
        clear hr
        subst hq
        exact at_return (.bool false) [] hS Tryz.results10 (.cons (.tmp rfl) .nil) rfl rfl ⟨rfl, rfl⟩
    · replace hr := ineg h1151 hr
      refine at_off rfl rfl (decide_eq_false (by first | exact h1151 | omega)) rfl ?_
      refine at_off rfl rfl (decide_eq_false (by first | exact h1151 | omega)) rfl ?_
      refine at_lt (lt_pick false rfl (decide_eq_false (by first | exact h1151 | omega)) rfl) rfl ?_
      refine at_lt (lt_move rfl) rfl ?_
      refine at_off rfl rfl rfl rfl ?_
      refine at_off rfl rfl rfl rfl ?_
      refine at_lt (lt_pick false rfl rfl rfl) rfl ?_
      refine at_lt (lt_move rfl) rfl ?_
      refine at_off rfl rfl rfl rfl ?_
      refine at_off rfl rfl rfl rfl ?_
      refine at_off rfl rfl rfl rfl ?_
      refine at_off rfl rfl rfl rfl ?_
      refine at_lt (lt_pick false rfl rfl rfl) rfl ?_
      refine at_lt (lt_move rfl) rfl ?_
      refine at_off rfl rfl rfl rfl ?_
      refine at_off rfl rfl rfl rfl ?_
      refine at_off rfl rfl rfl rfl ?_
      refine at_off rfl rfl rfl rfl ?_
      refine at_off rfl rfl rfl rfl ?_
      refine at_off rfl rfl rfl rfl ?_
      refine at_lt (lt_pick false rfl rfl rfl) rfl ?_
      refine at_lt (lt_move rfl) rfl ?_
      refine at_off rfl rfl rfl rfl ?_
      refine at_off rfl rfl rfl rfl ?_
      refine at_off rfl rfl rfl rfl ?_
      refine at_off rfl rfl rfl rfl ?_
      refine at_off rfl rfl rfl rfl ?_
      refine at_off rfl rfl rfl rfl ?_
      refine at_off rfl rfl rfl rfl ?_
      refine at_lt (lt_pick false rfl rfl rfl) rfl ?_
      refine at_lt (lt_move rfl) rfl ?_
      refine at_off rfl rfl rfl rfl ?_
      refine at_off rfl rfl rfl rfl ?_
      refine at_off rfl rfl rfl rfl ?_
      refine at_off rfl rfl rfl rfl ?_
      refine at_off rfl rfl rfl rfl ?_
      refine at_off rfl rfl rfl rfl ?_
      refine at_off rfl rfl rfl rfl ?_
      refine at_off rfl rfl rfl rfl ?_
      refine at_off rfl rfl rfl rfl ?_
      refine at_lt (lt_pick false rfl rfl rfl) rfl ?_
      refine at_lt (lt_move rfl) rfl ?_
      refine at_off rfl rfl rfl rfl ?_
      refine at_off rfl rfl rfl rfl ?_
      refine at_lt (lt_pick false rfl rfl rfl) rfl ?_
      refine at_lt (lt_move rfl) rfl ?_
      refine at_off rfl rfl rfl rfl ?_
      refine at_off rfl rfl rfl rfl ?_
      refine at_off rfl rfl rfl rfl ?_
      refine at_lt (lt_pick false rfl rfl rfl) rfl ?_
      refine at_lt (lt_assign rfl) rfl ?_
      refine at_nil ?_
      refine at_then ?_
      refine at_ret ?_
      have hq := oinj hr
      clear hr
      subst hq
      exact at_return (.bool false) [] hS Tryz.results10 (.cons (.tmp rfl) .nil) rfl rfl ⟨rfl, rfl⟩
  · replace hr := ineg h1150 hr
    refine at_off rfl rfl (decide_eq_false (by first | exact h1150 | omega)) rfl ?_
    refine at_off rfl rfl (decide_eq_false (by first | exact h1150 | omega)) rfl ?_
    refine at_lt (lt_pick false rfl (decide_eq_false (by first | exact h1150 | omega)) rfl) rfl ?_
    refine at_lt (lt_move rfl) rfl ?_
    refine at_off rfl rfl rfl rfl ?_
    refine at_off rfl rfl rfl rfl ?_
    refine at_lt (lt_pick false rfl rfl rfl) rfl ?_
    refine at_lt (lt_move rfl) rfl ?_
    refine at_off rfl rfl rfl rfl ?_
    refine at_off rfl rfl rfl rfl ?_
    refine at_lt (lt_pick false rfl rfl rfl) rfl ?_
    refine at_lt (lt_move rfl) rfl ?_
    refine at_off rfl rfl rfl rfl ?_
    refine at_off rfl rfl rfl rfl ?_
    refine at_off rfl rfl rfl rfl ?_
    refine at_off rfl rfl rfl rfl ?_
    refine at_lt (lt_pick false rfl rfl rfl) rfl ?_
    refine at_lt (lt_move rfl) rfl ?_
    refine at_off rfl rfl rfl rfl ?_
    refine at_off rfl rfl rfl rfl ?_
    refine at_off rfl rfl rfl rfl ?_
    refine at_off rfl rfl rfl rfl ?_
    refine at_off rfl rfl rfl rfl ?_
    refine at_off rfl rfl rfl rfl ?_
    refine at_lt (lt_pick false rfl rfl rfl) rfl ?_
    refine at_lt (lt_move rfl) rfl ?_
    refine at_off rfl rfl rfl rfl ?_
    refine at_off rfl rfl rfl rfl ?_
    refine at_off rfl rfl rfl rfl ?_
    refine at_off rfl rfl rfl rfl ?_
    refine at_off rfl rfl rfl rfl ?_
    refine at_off rfl rfl rfl rfl ?_
    refine at_off rfl rfl rfl rfl ?_
    refine at_lt (lt_pick false rfl rfl rfl) rfl ?_
    refine at_lt (lt_move rfl) rfl ?_
    refine at_off rfl rfl rfl rfl ?_
    refine at_off rfl rfl rfl rfl ?_
    refine at_off rfl rfl rfl rfl ?_
    refine at_off rfl rfl rfl rfl ?_
    refine at_off rfl rfl rfl rfl ?_
    refine at_off rfl rfl rfl rfl ?_
    refine at_off rfl rfl rfl rfl ?_
    refine at_off rfl rfl rfl rfl ?_
    refine at_off rfl rfl rfl rfl ?_
    refine at_lt (lt_pick false rfl rfl rfl) rfl ?_
    refine at_lt (lt_move rfl) rfl ?_
    refine at_off rfl rfl rfl rfl ?_
    refine at_off rfl rfl rfl rfl ?_
    refine at_lt (lt_pick false rfl rfl rfl) rfl ?_
    refine at_lt (lt_move rfl) rfl ?_
    refine at_off rfl rfl rfl rfl ?_
    refine at_off rfl rfl rfl rfl ?_
    refine at_off rfl rfl rfl rfl ?_
    refine at_lt (lt_pick false rfl rfl rfl) rfl ?_
    refine at_lt (lt_assign rfl) rfl ?_
    refine at_nil ?_
    refine at_then ?_
    refine at_ret ?_
    have hq := oinj hr
    clear hr
    subst hq
    exact at_return (.bool false) [] hS Tryz.results10 (.cons (.tmp rfl) .nil) rfl rfl ⟨rfl, rfl⟩
/-! 11 bookplate/bookplateref16.Few -/
def m11_l1 (a0 : (List D_ref16_Entry)) : Nat → Nat → Option (Fl Bool Unit)
  | 0, _ => none
  | k + 1, x1187 =>
    if x1187 < a0.length then
      if x1187 < 10 then
        (a0[x1187]?).bind fun x1195 =>
        if 10 < x1195.From.length then
          some (Fl.ret false)
        else
          (a0[x1187]?).bind fun x1202 =>
          if 10 < x1202.To.length then
            some (Fl.ret false)
          else
            (a0[x1187]?).bind fun x1209 =>
            if 10 < x1209.Codes.length then
              (a0[x1187]?).bind fun x1217 =>
              if x1217.Codes.length = 36 then
                m11_l1 a0 k (x1187 + 1)
              else
                (a0[x1187]?).bind fun x1225 =>
                if x1225.Codes.length = 37 then
                  m11_l1 a0 k (x1187 + 1)
                else
                  some (Fl.ret false)
            else
              m11_l1 a0 k (x1187 + 1)
      else
        some (Fl.go ())
    else
      some (Fl.go ())
def m11 (a0 : (List D_ref16_Entry)) : Option Bool :=
  (m11_l1 a0 (a0.length + 1) 0).bind fun r => match r with
  | .ret x => some x
  | .go _ =>
    if a0.length ≤ 8 then
      some true
    else
      if a0.length = 60 then
        some true
      else
        some (decide ((a0.length : Int) = 61))
def post11 (r : Bool) (v : Value) (fs : List Fact) : Prop := v = .bool r ∧ fs = []
theorem en11 : Enters Tryz.prog 11 := ⟨_, Tryz.func11, by kernel_rfl, rfl⟩
theorem f11_spec {a0 : (List D_ref16_Entry)} {w1186 : Value} {r : Bool} (hr : m11 a0 = some r) : Spec Tryz.prog 11 [w1186] [((Ty.slice ty50).fact a0 [w1186])] (post11 r) := by
  refine spec_start (N := 70) Tryz.func11 (by kernel_rfl) rfl rfl rfl ?_
  intro g hS
  unfold m11 at hr
  refine at_seq ?_
  refine at_region ?_
  refine at_lt (lt_assign rfl) rfl ?_
  refine at_nil ?_
  refine at_then ?_
  refine at_seq ?_
  refine at_seq ?_
  refine at_region ?_
  refine at_lt (lt_assign rfl) rfl ?_
  refine at_nil ?_
  refine at_then ?_
  refine at_int .i64 0 (by simp only [lo, hi]; omega) ?_
  replace hr := obind hr
  obtain ⟨r1188, hl1189, hk1190⟩ := hr
  refine at_cutP (V := (Unit) × (Unit)) (fun v => r1188 = Fl.go v.1) (fun v => (⟨[(0, w1186)], [], [], [((Ty.slice ty50).fact a0 [w1186])]⟩ : St)) ?_ ?_
  · refine at_block ?_
    refine at_loopW (σ := Nat) (V := Unit) (r := r1188) (fun n s => m11_l1 a0 n s) (fun s e => (⟨[(0, w1186), (3, .int .i64 (s : Int))], [], [], [((Ty.int .i64).fact (s : Int) [.int .i64 (s : Int)]), ((Ty.slice ty50).fact a0 [w1186])]⟩ : St)) (fun _ => rfl) _ 0 () hl1189 ⟨⟨rfl, ⟨rfl, trivial⟩⟩, ⟨[], rfl⟩, ⟨[], rfl⟩, ⟨[0, 1], rfl⟩⟩ ?_
    clear hl1189
    intro n x1187 hr e
    skip
    skip
    change m11_l1 a0 (n + 1) x1187 = some r1188 at hr
    change At _ _ (⟨[(0, w1186), (3, .int .i64 (x1187 : Int))], [], [], [((Ty.int .i64).fact (x1187 : Int) [.int .i64 (x1187 : Int)]), ((Ty.slice ty50).fact a0 [w1186])]⟩ : St) _
    rw [m11_l1] at hr
    refine at_seq ?_
    refine at_seq ?_
    refine at_region ?_
    refine at_lt (lt_move rfl) rfl ?_
    refine at_lt (lt_move rfl) rfl ?_
    refine at_inv 1 rfl (fun i1191 => ?_)
    have l1192 := slice_len i1191
    refine at_lt (lt_flen 1 rfl rfl und22) rfl ?_
    refine at_lt (lt_lss rfl rfl) rfl ?_
    refine at_lt (lt_move rfl) rfl ?_
    by_cases h1193 : x1187 < a0.length
    · replace hr := ipos h1193 hr
      refine at_on rfl rfl (decide_eq_true (by omega)) ?_
      refine at_lt (lt_move rfl) rfl ?_
      refine at_on rfl rfl (decide_eq_true (by omega)) ?_
      refine at_lt (lt_lss rfl rfl) rfl ?_
      refine at_lt (lt_pick true rfl (decide_eq_true (by omega)) rfl) rfl ?_
      refine at_nil ?_
      refine at_then ?_
      by_cases h1194 : x1187 < 10
      · replace hr := ipos h1194 hr
        refine at_true rfl (decide_eq_true (by omega)) ?_
        refine at_skip ?_
        refine at_then ?_
        refine at_seq ?_
        refine at_block ?_
        refine at_seq ?_
        refine at_region ?_
        refine at_lt (lt_move rfl) rfl ?_
        refine at_lt (lt_move rfl) rfl ?_
        replace hr := obind hr
        obtain ⟨x1195, h1196, hr⟩ := hr
        have := (List.getElem?_eq_some_iff.1 h1196).1
        refine at_elem 1 rfl (nat_at' h1196) (fun p1198 ec pa1199 => ?_)
        refine at_open (A := Value) 0 rfl _ _ (fun F w h => op50 h) ?_
        rintro s1197 rfl
        refine at_lt (lt_idx rfl rfl pa1199 und22 ti50) rfl ?_
        refine at_lt (lt_fieldAddr 0 rfl fld50_0 rfl) rfl ?_
        refine at_lt (lt_load_peek 4 rfl ti9 rfl rfl rfl rfl rfl) rfl ?_
        refine at_inv 0 rfl (fun l1200 => ?_)
        replace l1200 : x1195.From.length ≤ 9223372036854775807 := l1200
        refine at_lt (lt_slen rfl und9) rfl ?_
        refine at_lt (lt_gtr rfl rfl) rfl ?_
        refine at_lt (lt_move rfl) rfl ?_
        by_cases h1201 : 10 < x1195.From.length
        · replace hr := ipos h1201 hr
          refine at_off rfl rfl (decide_eq_true (by omega)) rfl ?_
          refine at_off rfl rfl (decide_eq_true (by omega)) rfl ?_
          refine at_off rfl rfl (decide_eq_true (by omega)) rfl ?_
          refine at_off rfl rfl (decide_eq_true (by omega)) rfl ?_
          refine at_off rfl rfl (decide_eq_true (by omega)) rfl ?_
          refine at_off rfl rfl (decide_eq_true (by omega)) rfl ?_
          refine at_off rfl rfl (decide_eq_true (by omega)) rfl ?_
          refine at_lt (lt_pick true rfl (decide_eq_true (by omega)) rfl) rfl ?_
          refine at_lt (lt_move rfl) rfl ?_
          refine at_off rfl rfl rfl rfl ?_
          refine at_off rfl rfl rfl rfl ?_
          refine at_off rfl rfl rfl rfl ?_
          refine at_off rfl rfl rfl rfl ?_
          refine at_off rfl rfl rfl rfl ?_
          refine at_off rfl rfl rfl rfl ?_
          refine at_off rfl rfl rfl rfl ?_
          refine at_off rfl rfl rfl rfl ?_
          refine at_offu rfl rfl rfl ?_
          refine at_offu rfl rfl rfl ?_
          refine at_offu rfl rfl rfl ?_
          refine at_offu rfl rfl rfl ?_
          refine at_offu rfl rfl rfl ?_
          refine at_offu rfl rfl rfl ?_
          refine at_offu rfl rfl rfl ?_
          refine at_off rfl rfl rfl rfl ?_
          refine at_off rfl rfl rfl rfl ?_
          refine at_offu rfl rfl rfl ?_
          refine at_offu rfl rfl rfl ?_
          refine at_offu rfl rfl rfl ?_
          refine at_offu rfl rfl rfl ?_
          refine at_offu rfl rfl rfl ?_
          refine at_offu rfl rfl rfl ?_
          refine at_offu rfl rfl rfl ?_
          refine at_off rfl rfl rfl rfl ?_
          refine at_lt (lt_pick true rfl rfl rfl) rfl ?_
          refine at_nil ?_
          refine at_then ?_
          refine at_true rfl rfl ?_
          refine at_seq ?_
          refine at_region ?_
          refine at_lt (lt_assign rfl) rfl ?_
          refine at_nil ?_
          refine at_then ?_
          refine at_ret ?_
          have hq := oinj hr
          clear hr
          subst hq
          have hq := oinj hk1190
          clear hk1190
          subst hq
          refine at_in_ret ?_
          refine at_then_ret ?_
          refine at_then_ret ?_
          refine at_in_ret ?_
          refine at_then_ret ?_
          refine at_then_ret ?_
          exact at_return (.bool false) [] hS Tryz.results11 (.cons (.tmp rfl) .nil) rfl rfl ⟨rfl, rfl⟩
        · replace hr := ineg h1201 hr
          refine at_on rfl rfl (decide_eq_false (by omega)) ?_
          refine at_lt (lt_move rfl) rfl ?_
          refine at_on rfl rfl (decide_eq_false (by omega)) ?_
          refine at_lt (lt_move rfl) rfl ?_
          replace hr := obind hr
          obtain ⟨x1202, h1203, hr⟩ := hr
          have := (List.getElem?_eq_some_iff.1 h1203).1
          refine at_elem 6 rfl (nat_at' h1203) (fun p1205 ec pa1206 => ?_)
          refine at_open (A := Value) 0 rfl _ _ (fun F w h => op50 h) ?_
          rintro s1204 rfl
          refine at_on rfl rfl (decide_eq_false (by omega)) ?_
          refine at_lt (lt_idx rfl rfl pa1206 und22 ti50) rfl ?_
          refine at_on rfl rfl (decide_eq_false (by omega)) ?_
          refine at_lt (lt_fieldAddr 1 rfl fld50_1 rfl) rfl ?_
          refine at_on rfl rfl (decide_eq_false (by omega)) ?_
          refine at_lt (lt_load_peek 4 rfl ti9 rfl rfl rfl rfl rfl) rfl ?_
          refine at_inv 1 rfl (fun l1207 => ?_)
          replace l1207 : x1202.To.length ≤ 9223372036854775807 := l1207
          refine at_on rfl rfl (decide_eq_false (by omega)) ?_
          refine at_lt (lt_slen rfl und9) rfl ?_
          refine at_on rfl rfl (decide_eq_false (by omega)) ?_
          refine at_lt (lt_gtr rfl rfl) rfl ?_
          refine at_lt (lt_pick false rfl (decide_eq_false (by omega)) rfl) rfl ?_
          refine at_lt (lt_move rfl) rfl ?_
          by_cases h1208 : 10 < x1202.To.length
          · replace hr := ipos h1208 hr
            refine at_off rfl rfl (decide_eq_true (by omega)) rfl ?_
            refine at_off rfl rfl (decide_eq_true (by omega)) rfl ?_
            refine at_off rfl rfl (decide_eq_true (by omega)) rfl ?_
            refine at_off rfl rfl (decide_eq_true (by omega)) rfl ?_
            refine at_off rfl rfl (decide_eq_true (by omega)) rfl ?_
            refine at_off rfl rfl (decide_eq_true (by omega)) rfl ?_
            refine at_off rfl rfl (decide_eq_true (by omega)) rfl ?_
            refine at_off rfl rfl (decide_eq_true (by omega)) rfl ?_
            refine at_offu rfl rfl rfl ?_
            refine at_offu rfl rfl rfl ?_
            refine at_offu rfl rfl rfl ?_
            refine at_offu rfl rfl rfl ?_
            refine at_offu rfl rfl rfl ?_
            refine at_offu rfl rfl rfl ?_
            refine at_offu rfl rfl rfl ?_
            refine at_off rfl rfl (decide_eq_true (by omega)) rfl ?_
            refine at_off rfl rfl (decide_eq_true (by omega)) rfl ?_
            refine at_offu rfl rfl rfl ?_
            refine at_offu rfl rfl rfl ?_
            refine at_offu rfl rfl rfl ?_
            refine at_offu rfl rfl rfl ?_
            refine at_offu rfl rfl rfl ?_
            refine at_offu rfl rfl rfl ?_
            refine at_offu rfl rfl rfl ?_
            refine at_off rfl rfl (decide_eq_true (by omega)) rfl ?_
            refine at_lt (lt_pick true rfl (decide_eq_true (by omega)) rfl) rfl ?_
            refine at_nil ?_
            refine at_then ?_
            refine at_true rfl rfl ?_
            refine at_seq ?_
            refine at_region ?_
            refine at_lt (lt_assign rfl) rfl ?_
            refine at_nil ?_
            refine at_then ?_
            refine at_ret ?_
            have hq := oinj hr
            clear hr
            subst hq
            have hq := oinj hk1190
            clear hk1190
            subst hq
            refine at_in_ret ?_
            refine at_then_ret ?_
            refine at_then_ret ?_
            refine at_in_ret ?_
            refine at_then_ret ?_
            refine at_then_ret ?_
            exact at_return (.bool false) [] hS Tryz.results11 (.cons (.tmp rfl) .nil) rfl rfl ⟨rfl, rfl⟩
          · replace hr := ineg h1208 hr
            refine at_on rfl rfl (decide_eq_false (by omega)) ?_
            refine at_lt (lt_move rfl) rfl ?_
            refine at_on rfl rfl (decide_eq_false (by omega)) ?_
            refine at_lt (lt_move rfl) rfl ?_
            replace hr := obind hr
            obtain ⟨x1209, h1210, hr⟩ := hr
            have := (List.getElem?_eq_some_iff.1 h1210).1
            refine at_elem 11 rfl (nat_at' h1210) (fun p1212 ec pa1213 => ?_)
            refine at_open (A := Value) 0 rfl _ _ (fun F w h => op50 h) ?_
            rintro s1211 rfl
            refine at_on rfl rfl (decide_eq_false (by omega)) ?_
            refine at_lt (lt_idx rfl rfl pa1213 und22 ti50) rfl ?_
            refine at_on rfl rfl (decide_eq_false (by omega)) ?_
            refine at_lt (lt_fieldAddr 2 rfl fld50_2 rfl) rfl ?_
            refine at_on rfl rfl (decide_eq_false (by omega)) ?_
            refine at_lt (lt_load_peek 4 rfl ti48 rfl rfl rfl rfl rfl) rfl ?_
            refine at_inv 2 rfl (fun i1214 => ?_)
            have l1215 := slice_len i1214
            refine at_on rfl rfl (decide_eq_false (by omega)) ?_
            refine at_lt (lt_flen 2 rfl rfl und48) rfl ?_
            refine at_on rfl rfl (decide_eq_false (by omega)) ?_
            refine at_lt (lt_gtr rfl rfl) rfl ?_
            refine at_on rfl rfl (decide_eq_false (by omega)) ?_
            refine at_lt (lt_move rfl) rfl ?_
            by_cases h1216 : 10 < x1209.Codes.length
            · replace hr := ipos h1216 hr
              refine at_on rfl rfl (decide_eq_true (by omega)) ?_
              refine at_lt (lt_move rfl) rfl ?_
              refine at_on rfl rfl (decide_eq_true (by omega)) ?_
              refine at_lt (lt_move rfl) rfl ?_
              replace hr := obind hr
              obtain ⟨x1217, h1218, hr⟩ := hr
              have := (List.getElem?_eq_some_iff.1 h1218).1
              refine at_elem 16 rfl (nat_at' h1218) (fun p1220 ec pa1221 => ?_)
              refine at_open (A := Value) 0 rfl _ _ (fun F w h => op50 h) ?_
              rintro s1219 rfl
              refine at_on rfl rfl (decide_eq_true (by omega)) ?_
              refine at_lt (lt_idx rfl rfl pa1221 und22 ti50) rfl ?_
              refine at_on rfl rfl (decide_eq_true (by omega)) ?_
              refine at_lt (lt_fieldAddr 2 rfl fld50_2 rfl) rfl ?_
              refine at_on rfl rfl (decide_eq_true (by omega)) ?_
              refine at_lt (lt_load_peek 4 rfl ti48 rfl rfl rfl rfl rfl) rfl ?_
              refine at_inv 2 rfl (fun i1222 => ?_)
              have l1223 := slice_len i1222
              refine at_on rfl rfl (decide_eq_true (by omega)) ?_
              refine at_lt (lt_flen 2 rfl rfl und48) rfl ?_
              refine at_on rfl rfl (decide_eq_true (by omega)) ?_
              refine at_lt (lt_neq rfl rfl) rfl ?_
              refine at_on rfl rfl (decide_eq_false (by omega)) ?_
              refine at_lt (lt_pick true rfl (decide_eq_true (by omega)) rfl) rfl ?_
              refine at_on rfl rfl (decide_eq_false (by omega)) ?_
              refine at_lt (lt_move rfl) rfl ?_
              by_cases h1224 : x1217.Codes.length = 36
              · replace hr := ipos h1224 hr
                refine at_off rfl rfl (nt (decide_eq_true (by omega))) rfl ?_
                refine at_off rfl rfl (nt (decide_eq_true (by omega))) rfl ?_
                refine at_off rfl rfl (nt (decide_eq_true (by omega))) rfl ?_
                refine at_off rfl rfl (nt (decide_eq_true (by omega))) rfl ?_
                refine at_off rfl rfl (nt (decide_eq_true (by omega))) rfl ?_
                refine at_off rfl rfl (nt (decide_eq_true (by omega))) rfl ?_
                refine at_off rfl rfl (nt (decide_eq_true (by omega))) rfl ?_
                refine at_on rfl rfl (decide_eq_false (by omega)) ?_
                refine at_lt (lt_pick false rfl (nt (decide_eq_true (by omega))) rfl) rfl ?_
                refine at_lt (lt_pick false rfl (decide_eq_false (by omega)) rfl) rfl ?_
                refine at_nil ?_
                refine at_then ?_
                refine at_false rfl rfl ?_
                refine at_skip ?_
                refine at_in ?_
                refine at_then ?_
                refine at_region ?_
                refine at_lt (lt_move rfl) rfl ?_
                refine at_lt (lt_add rfl rfl (by simp only [lo, hi]; omega)) rfl ?_
                refine at_lt (lt_assign rfl) rfl ?_
                refine at_nil ?_
                refine at_int .i64 (x1187 + 1 : Int) (by simp only [lo, hi]; omega) ?_
                exact at_again (σ := Nat) (V := Unit) (lp := fun n s => m11_l1 a0 n s) (S := fun s e => (⟨[(0, w1186), (3, .int .i64 (s : Int))], [], [], [((Ty.int .i64).fact (s : Int) [.int .i64 (s : Int)]), ((Ty.slice ty50).fact a0 [w1186])]⟩ : St)) (x1187 + 1) () hr ⟨⟨rfl, ⟨rfl, trivial⟩⟩, ⟨[], rfl⟩, ⟨[], rfl⟩, ⟨[0, 22], rfl⟩⟩
              · replace hr := ineg h1224 hr
                refine at_on rfl rfl (nf (decide_eq_false (by omega))) ?_
                refine at_lt (lt_move rfl) rfl ?_
                refine at_on rfl rfl (nf (decide_eq_false (by omega))) ?_
                refine at_lt (lt_move rfl) rfl ?_
                replace hr := obind hr
                obtain ⟨x1225, h1226, hr⟩ := hr
                have := (List.getElem?_eq_some_iff.1 h1226).1
                refine at_elem 21 rfl (nat_at' h1226) (fun p1228 ec pa1229 => ?_)
                refine at_open (A := Value) 0 rfl _ _ (fun F w h => op50 h) ?_
                rintro s1227 rfl
                refine at_on rfl rfl (nf (decide_eq_false (by omega))) ?_
                refine at_lt (lt_idx rfl rfl pa1229 und22 ti50) rfl ?_
                refine at_on rfl rfl (nf (decide_eq_false (by omega))) ?_
                refine at_lt (lt_fieldAddr 2 rfl fld50_2 rfl) rfl ?_
                refine at_on rfl rfl (nf (decide_eq_false (by omega))) ?_
                refine at_lt (lt_load_peek 4 rfl ti48 rfl rfl rfl rfl rfl) rfl ?_
                refine at_inv 2 rfl (fun i1230 => ?_)
                have l1231 := slice_len i1230
                refine at_on rfl rfl (nf (decide_eq_false (by omega))) ?_
                refine at_lt (lt_flen 2 rfl rfl und48) rfl ?_
                refine at_on rfl rfl (nf (decide_eq_false (by omega))) ?_
                refine at_lt (lt_neq rfl rfl) rfl ?_
                refine at_on rfl rfl (decide_eq_false (by omega)) ?_
                refine at_lt (lt_pick true rfl (nf (decide_eq_false (by omega))) rfl) rfl ?_
                refine at_lt (lt_pick false rfl (decide_eq_false (by omega)) rfl) rfl ?_
                refine at_nil ?_
                refine at_then ?_
                by_cases h1232 : x1225.Codes.length = 37
                · replace hr := ipos h1232 hr
                  refine at_false rfl (nt (decide_eq_true (by omega))) ?_
                  refine at_skip ?_
                  refine at_in ?_
                  refine at_then ?_
                  refine at_region ?_
                  refine at_lt (lt_move rfl) rfl ?_
                  refine at_lt (lt_add rfl rfl (by simp only [lo, hi]; omega)) rfl ?_
                  refine at_lt (lt_assign rfl) rfl ?_
                  refine at_nil ?_
                  refine at_int .i64 (x1187 + 1 : Int) (by simp only [lo, hi]; omega) ?_
                  exact at_again (σ := Nat) (V := Unit) (lp := fun n s => m11_l1 a0 n s) (S := fun s e => (⟨[(0, w1186), (3, .int .i64 (s : Int))], [], [], [((Ty.int .i64).fact (s : Int) [.int .i64 (s : Int)]), ((Ty.slice ty50).fact a0 [w1186])]⟩ : St)) (x1187 + 1) () hr ⟨⟨rfl, ⟨rfl, trivial⟩⟩, ⟨[], rfl⟩, ⟨[], rfl⟩, ⟨[0, 27], rfl⟩⟩
                · replace hr := ineg h1232 hr
                  refine at_true rfl (nf (decide_eq_false (by omega))) ?_
                  refine at_seq ?_
                  refine at_region ?_
                  refine at_lt (lt_assign rfl) rfl ?_
                  refine at_nil ?_
                  refine at_then ?_
                  refine at_ret ?_
                  have hq := oinj hr
                  clear hr
                  subst hq
                  have hq := oinj hk1190
                  clear hk1190
                  subst hq
                  refine at_in_ret ?_
                  refine at_then_ret ?_
                  refine at_then_ret ?_
                  refine at_in_ret ?_
                  refine at_then_ret ?_
                  refine at_then_ret ?_
                  exact at_return (.bool false) [] hS Tryz.results11 (.cons (.tmp rfl) .nil) rfl rfl ⟨rfl, rfl⟩
            · replace hr := ineg h1216 hr
              refine at_off rfl rfl (decide_eq_false (by omega)) rfl ?_
              refine at_off rfl rfl (decide_eq_false (by omega)) rfl ?_
              refine at_off rfl rfl (decide_eq_false (by omega)) rfl ?_
              refine at_off rfl rfl (decide_eq_false (by omega)) rfl ?_
              refine at_off rfl rfl (decide_eq_false (by omega)) rfl ?_
              refine at_off rfl rfl (decide_eq_false (by omega)) rfl ?_
              refine at_off rfl rfl (decide_eq_false (by omega)) rfl ?_
              refine at_on rfl rfl (decide_eq_false (by omega)) ?_
              refine at_lt (lt_pick false rfl (decide_eq_false (by omega)) rfl) rfl ?_
              refine at_on rfl rfl (decide_eq_false (by omega)) ?_
              refine at_lt (lt_move rfl) rfl ?_
              refine at_off rfl rfl rfl rfl ?_
              refine at_off rfl rfl rfl rfl ?_
              refine at_off rfl rfl rfl rfl ?_
              refine at_off rfl rfl rfl rfl ?_
              refine at_off rfl rfl rfl rfl ?_
              refine at_off rfl rfl rfl rfl ?_
              refine at_off rfl rfl rfl rfl ?_
              refine at_on rfl rfl (decide_eq_false (by omega)) ?_
              refine at_lt (lt_pick false rfl rfl rfl) rfl ?_
              refine at_lt (lt_pick false rfl (decide_eq_false (by omega)) rfl) rfl ?_
              refine at_nil ?_
              refine at_then ?_
              refine at_false rfl rfl ?_
              refine at_skip ?_
              refine at_in ?_
              refine at_then ?_
              refine at_region ?_
              refine at_lt (lt_move rfl) rfl ?_
              refine at_lt (lt_add rfl rfl (by simp only [lo, hi]; omega)) rfl ?_
              refine at_lt (lt_assign rfl) rfl ?_
              refine at_nil ?_
              refine at_int .i64 (x1187 + 1 : Int) (by simp only [lo, hi]; omega) ?_
              exact at_again (σ := Nat) (V := Unit) (lp := fun n s => m11_l1 a0 n s) (S := fun s e => (⟨[(0, w1186), (3, .int .i64 (s : Int))], [], [], [((Ty.int .i64).fact (s : Int) [.int .i64 (s : Int)]), ((Ty.slice ty50).fact a0 [w1186])]⟩ : St)) (x1187 + 1) () hr ⟨⟨rfl, ⟨rfl, trivial⟩⟩, ⟨[], rfl⟩, ⟨[], rfl⟩, ⟨[0, 17], rfl⟩⟩
      · replace hr := ineg h1194 hr
        refine at_false rfl (decide_eq_false (by omega)) ?_
        refine at_exit ?_
        refine at_then_exit ?_
        refine at_then_exit ?_
        refine at_in_exit ?_
        have hq := oinj hr
        clear hr
        subst hq
        exact at_leafP ((), ()) rfl ⟨⟨rfl, trivial⟩, ⟨[], rfl⟩, ⟨[], rfl⟩, ⟨[1], rfl⟩⟩
    · replace hr := ineg h1193 hr
      refine at_off rfl rfl (decide_eq_false (by omega)) rfl ?_
      refine at_off rfl rfl (decide_eq_false (by omega)) rfl ?_
      refine at_lt (lt_pick false rfl (decide_eq_false (by omega)) rfl) rfl ?_
      refine at_nil ?_
      refine at_then ?_
      refine at_false rfl rfl ?_
      refine at_exit ?_
      refine at_then_exit ?_
      refine at_then_exit ?_
      refine at_in_exit ?_
      have hq := oinj hr
      clear hr
      subst hq
      exact at_leafP ((), ()) rfl ⟨⟨rfl, trivial⟩, ⟨[], rfl⟩, ⟨[], rfl⟩, ⟨[1], rfl⟩⟩
  · rintro ⟨_, _⟩ hp
    replace hr := hk1190
    subst hp
    clear hl1189
    change At _ _ (⟨[(0, w1186)], [], [], [((Ty.slice ty50).fact a0 [w1186])]⟩ : St) _
    refine at_then ?_
    refine at_seq ?_
    refine at_region ?_
    refine at_lt (lt_move rfl) rfl ?_
    refine at_inv 0 rfl (fun i1233 => ?_)
    have l1234 := slice_len i1233
    refine at_lt (lt_flen 0 rfl rfl und22) rfl ?_
    refine at_lt (lt_leq rfl rfl) rfl ?_
    refine at_lt (lt_move rfl) rfl ?_
    by_cases h1235 : a0.length ≤ 8
    · replace hr := ipos h1235 hr
      refine at_off rfl rfl (decide_eq_true (by omega)) rfl ?_
      refine at_off rfl rfl (decide_eq_true (by omega)) rfl ?_
      refine at_off rfl rfl (decide_eq_true (by omega)) rfl ?_
      refine at_lt (lt_pick true rfl (decide_eq_true (by omega)) rfl) rfl ?_
      refine at_lt (lt_move rfl) rfl ?_
      refine at_off rfl rfl rfl rfl ?_
      refine at_off rfl rfl rfl rfl ?_
      refine at_off rfl rfl rfl rfl ?_
      refine at_lt (lt_pick true rfl rfl rfl) rfl ?_
      refine at_lt (lt_assign rfl) rfl ?_
      refine at_nil ?_
      refine at_then ?_
      refine at_ret ?_
      have hq := oinj hr
      clear hr
      subst hq
      exact at_return (.bool true) [] hS Tryz.results11 (.cons (.tmp rfl) .nil) rfl rfl ⟨rfl, rfl⟩
    · replace hr := ineg h1235 hr
      refine at_on rfl rfl (decide_eq_false (by omega)) ?_
      refine at_lt (lt_move rfl) rfl ?_
      refine at_on rfl rfl (decide_eq_false (by omega)) ?_
      refine at_lt (lt_flen 0 rfl rfl und22) rfl ?_
      refine at_on rfl rfl (decide_eq_false (by omega)) ?_
      refine at_lt (lt_eql rfl rfl) rfl ?_
      refine at_lt (lt_pick false rfl (decide_eq_false (by omega)) rfl) rfl ?_
      refine at_lt (lt_move rfl) rfl ?_
      by_cases h1236 : a0.length = 60
      · replace hr := ipos h1236 hr
        refine at_off rfl rfl (decide_eq_true (by omega)) rfl ?_
        refine at_off rfl rfl (decide_eq_true (by omega)) rfl ?_
        refine at_off rfl rfl (decide_eq_true (by omega)) rfl ?_
        refine at_lt (lt_pick true rfl (decide_eq_true (by omega)) rfl) rfl ?_
        refine at_lt (lt_assign rfl) rfl ?_
        refine at_nil ?_
        refine at_then ?_
        refine at_ret ?_
        have hq := oinj hr
        clear hr
        subst hq
        exact at_return (.bool true) [] hS Tryz.results11 (.cons (.tmp rfl) .nil) rfl rfl ⟨rfl, rfl⟩
      · replace hr := ineg h1236 hr
        refine at_on rfl rfl (decide_eq_false (by omega)) ?_
        refine at_lt (lt_move rfl) rfl ?_
        refine at_on rfl rfl (decide_eq_false (by omega)) ?_
        refine at_lt (lt_flen 0 rfl rfl und22) rfl ?_
        refine at_on rfl rfl (decide_eq_false (by omega)) ?_
        refine at_lt (lt_eql rfl rfl) rfl ?_
        refine at_lt (lt_pick false rfl (decide_eq_false (by omega)) rfl) rfl ?_
        refine at_lt (lt_assign rfl) rfl ?_
        refine at_nil ?_
        refine at_then ?_
        refine at_ret ?_
        have hq := oinj hr
        clear hr
        subst hq
        exact at_return (.bool (decide ((a0.length : Int) = 61))) [] hS Tryz.results11 (.cons (.tmp rfl) .nil) rfl rfl ⟨rfl, rfl⟩
/-! 15 bookplate/bookplatelaw16.Own -/
def m15_l2 (a0 : (List D_ref16_Entry)) (x1239 : Nat) : Nat → Nat → (List D_crosswalk_Pair) → Option (List D_crosswalk_Pair)
  | 0, _, _ => none
  | k + 1, x1264, x1265 =>
    (a0[x1239]?).bind fun x1275 =>
    if x1264 < x1275.Codes.length then
      (a0[x1239]?).bind fun x1283 =>
      (x1283.Codes[x1264]?).bind fun x1288 =>
      if x1265.length + 1 ≤ 70368744177664 then
        m15_l2 a0 x1239 k (x1264 + 1) (x1265 ++ [(⟨x1288.From, x1288.To⟩ : D_crosswalk_Pair)])
      else none
    else
      some x1265
def m15_l1 (a0 : (List D_ref16_Entry)) : Nat → (List D_crosswalk_Entry) → Nat → Option (List D_crosswalk_Entry)
  | 0, _, _ => none
  | k + 1, x1238, x1239 =>
    if x1239 < a0.length then
      (a0[x1239]?).bind fun x1252 =>
      (a0[x1239]?).bind fun x1257 =>
      (m15_l2 a0 x1239 9223372036854775808 0 ([] : (List D_crosswalk_Pair))).bind fun x1269 =>
      if x1238.length + 1 ≤ 2513169434916 then
        m15_l1 a0 k (x1238 ++ [(⟨x1252.From, x1257.To, x1269⟩ : D_crosswalk_Entry)]) (x1239 + 1)
      else none
    else
      some x1238
def m15 (a0 : (List D_ref16_Entry)) : Option (List D_crosswalk_Entry) :=
  (m15_l1 a0 (a0.length + 1) ([] : (List D_crosswalk_Entry)) 0).bind fun x1243 =>
  some x1243
def post15 (r : (List D_crosswalk_Entry)) (v : Value) (fs : List Fact) : Prop := ∃ s1308 : Value, v = s1308 ∧ fs = [((Ty.slice ty76).fact r [s1308])]
theorem en15 : Enters Tryz.prog 15 := ⟨_, Tryz.func15, by kernel_rfl, rfl⟩
theorem f15_spec {a0 : (List D_ref16_Entry)} {w1237 : Value} {r : (List D_crosswalk_Entry)} (hr : m15 a0 = some r) : Spec Tryz.prog 15 [w1237] [((Ty.slice ty50).fact a0 [w1237])] (post15 r) := by
  refine spec_start (N := 52) Tryz.func15 (by kernel_rfl) rfl rfl rfl ?_
  intro g hS
  unfold m15 at hr
  refine at_seq ?_
  refine at_region ?_
  refine at_lt (lt_assign rfl) rfl ?_
  refine at_nil ?_
  refine at_then ?_
  refine at_seq ?_
  refine at_region ?_
  refine at_lt (lt_assign rfl) rfl ?_
  refine at_nil ?_
  refine at_then ?_
  refine at_seq ?_
  refine at_seq ?_
  refine at_region ?_
  refine at_lt (lt_assign rfl) rfl ?_
  refine at_nil ?_
  refine at_then ?_
  refine at_rownew none 76 3 ?_
  refine at_rownil ty76 ?_
  refine at_mkpure (q := (([] : (List D_crosswalk_Entry)).length * ty76.bytes ≤ 140737488355328)) (by simp only [List.nil_append, List.cons_append, List.length_cons, List.length_nil, ty76_bytes] <;> omega) ?_
  refine at_int .i64 0 (by simp only [lo, hi]; omega) ?_
  replace hr := obind hr
  obtain ⟨x1243, hl1247, hr⟩ := hr
  refine at_cut (V := Value × Nat × (List Value)) (fun e => (⟨[(3, e.1)], [], [⟨e.1, 76, 3, e.2.1, e.2.2⟩], [(ty76.row x1243 e.2.2), (pureF (x1243.length * ty76.bytes ≤ 140737488355328))]⟩ : St)) ?_ ?_
  · refine at_block ?_
    refine at_loopW (σ := ((List D_crosswalk_Entry) × Nat)) (V := Value × Nat × (List Value)) (r := x1243) (fun n s => m15_l1 a0 n s.1 s.2) (fun s e => (⟨[(0, w1237), (3, e.1), (4, .int .i64 (s.2 : Int))], [], [⟨e.1, 76, 3, e.2.1, e.2.2⟩], [(ty76.row s.1 e.2.2), (pureF (s.1.length * ty76.bytes ≤ 140737488355328)), ((Ty.int .i64).fact (s.2 : Int) [.int .i64 (s.2 : Int)]), ((Ty.slice ty50).fact a0 [w1237])]⟩ : St)) (fun _ => rfl) _ (([] : (List D_crosswalk_Entry)), 0) ((.slice none 0 0), 0, []) hl1247 ⟨⟨rfl, ⟨rfl, ⟨rfl, trivial⟩⟩⟩, ⟨[], rfl⟩, ⟨[true], rfl⟩, ⟨[2, 1, 0, 3], rfl⟩⟩ ?_
    clear hr hl1247
    intro n s hr e
    obtain ⟨x1238, x1239⟩ := s
    obtain ⟨v1240, n1241, i1242⟩ := e
    change m15_l1 a0 (n + 1) x1238 x1239 = some x1243 at hr
    change At _ _ (⟨[(0, w1237), (3, v1240), (4, .int .i64 (x1239 : Int))], [], [⟨v1240, 76, 3, n1241, i1242⟩], [(ty76.row x1238 i1242), (pureF (x1238.length * ty76.bytes ≤ 140737488355328)), ((Ty.int .i64).fact (x1239 : Int) [.int .i64 (x1239 : Int)]), ((Ty.slice ty50).fact a0 [w1237])]⟩ : St) _
    rw [m15_l1] at hr
    refine at_seq ?_
    refine at_seq ?_
    refine at_region ?_
    refine at_lt (lt_move rfl) rfl ?_
    refine at_lt (lt_move rfl) rfl ?_
    refine at_inv 3 rfl (fun i1249 => ?_)
    have l1250 := slice_len i1249
    refine at_lt (lt_flen 3 rfl rfl und22) rfl ?_
    refine at_lt (lt_lss rfl rfl) rfl ?_
    refine at_nil ?_
    refine at_then ?_
    by_cases h1251 : x1239 < a0.length
    · replace hr := ipos h1251 hr
      refine at_true rfl (decide_eq_true (by omega)) ?_
      refine at_skip ?_
      refine at_then ?_
      refine at_seq ?_
      refine at_block ?_
      refine at_seq ?_
      replace hr := obind hr
      obtain ⟨x1252, h1253, hr⟩ := hr
      have := (List.getElem?_eq_some_iff.1 h1253).1
      refine at_elem 3 rfl (nat_at' h1253) (fun p1255 ec pa1256 => ?_)
      refine at_open (A := Value) 0 rfl _ _ (fun F w h => op50 h) ?_
      rintro s1254 rfl
      replace hr := obind hr
      obtain ⟨x1257, h1258, hr⟩ := hr
      have := (List.getElem?_eq_some_iff.1 h1258).1
      refine at_elem 8 rfl (nat_at' h1258) (fun p1260 ec pa1261 => ?_)
      refine at_open (A := Value) 0 rfl _ _ (fun F w h => op50 h) ?_
      rintro s1259 rfl
      refine aa_start 13 (by kernel_rfl) ?_
      refine aa_pure (bs' := [true, false, false, false, false, false, false, false, false, false, false, false, false]) 0 rfl (by kernel_rfl) rfl rfl (lt_move rfl) rfl (ts_in 0 0 rfl rfl) ?_
      refine aa_pure (bs' := [true, true, false, false, false, false, false, false, false, false, false, false, false]) 1 rfl (by kernel_rfl) rfl rfl (lt_move rfl) rfl (ts_in 0 0 rfl rfl) ?_
      refine aa_pure (bs' := [true, true, true, false, false, false, false, false, false, false, false, false, false]) 2 rfl (by kernel_rfl) rfl rfl (lt_idx rfl rfl pa1256 und22 ti50) rfl (ts_in 0 0 rfl rfl) ?_
      refine aa_pure (bs' := [true, true, true, true, false, false, false, false, false, false, false, false, false]) 3 rfl (by kernel_rfl) rfl rfl (lt_fieldAddr 0 rfl fld50_0 rfl) rfl (ts_in 0 0 rfl rfl) ?_
      refine aa_load (bs' := [true, true, true, true, true, false, false, false, false, false, false, false, false]) 4 rfl (by kernel_rfl) rfl rfl (lt_load_peek 9 rfl ti9 rfl rfl rfl rfl rfl) rfl (ts_in 0 0 rfl rfl) ?_
      refine aa_pure (bs' := [true, true, true, true, true, true, false, false, false, false, false, false, false]) 5 rfl (by kernel_rfl) rfl rfl (lt_move rfl) rfl (ts_in 0 0 rfl rfl) ?_
      refine aa_pure (bs' := [true, true, true, true, true, true, true, false, false, false, false, false, false]) 6 rfl (by kernel_rfl) rfl rfl (lt_move rfl) rfl (ts_in 0 0 rfl rfl) ?_
      refine aa_pure (bs' := [true, true, true, true, true, true, true, true, false, false, false, false, false]) 7 rfl (by kernel_rfl) rfl rfl (lt_idx rfl rfl pa1261 und22 ti50) rfl (ts_in 0 0 rfl rfl) ?_
      refine aa_pure (bs' := [true, true, true, true, true, true, true, true, true, false, false, false, false]) 8 rfl (by kernel_rfl) rfl rfl (lt_fieldAddr 1 rfl fld50_1 rfl) rfl (ts_in 0 0 rfl rfl) ?_
      refine aa_load (bs' := [true, true, true, true, true, true, true, true, true, true, false, false, false]) 9 rfl (by kernel_rfl) rfl rfl (lt_load_peek 4 rfl ti9 rfl rfl rfl rfl rfl) rfl (ts_in 0 0 rfl rfl) ?_
      refine aa_pure (bs' := [true, true, true, true, true, true, true, true, true, true, true, false, false]) 10 rfl (by kernel_rfl) rfl rfl (lt_build (cs := [str x1252.From, str x1257.To, (.slice none 0 0)]) rfl ti76 pl76 rfl) rfl (ts_in 0 0 rfl rfl) ?_
      refine aa_all (rs := [11]) (by kernel_rfl) rfl (ts_in 0 0 rfl rfl) (List.forall_mem_singleton.2 ?_)
      refine aa_op rfl rfl ?_
      refine hv_alloc (cs := [str ([] : Str), str ([] : Str), (.slice none 0 0)]) ti76 rfl rfl (fun b1263 => ?_)
      refine aa_all (rs := [12]) (by kernel_rfl) rfl (ts_in 1 0 rfl rfl) (List.forall_mem_singleton.2 ?_)
      refine aa_op rfl rfl ?_
      refine hv_store_box 0 (cs' := [str x1252.From, str x1257.To, (.slice none 0 0)]) rfl rfl ti76 rfl rfl rfl rfl rfl ?_
      refine aa_done (by kernel_rfl) (ts_in 1 0 rfl rfl) ?_
      refine at_then ?_
      refine at_seq ?_
      refine at_seq ?_
      refine at_region ?_
      refine at_lt (lt_assign rfl) rfl ?_
      refine at_nil ?_
      refine at_then ?_
      refine at_int .i64 0 (by simp only [lo, hi]; omega) ?_
      refine at_rownew none 82 2 ?_
      refine at_rownil ty82 ?_
      refine at_mkpure (q := (([] : (List D_crosswalk_Pair)).length * ty82.bytes ≤ 140737488355328)) (by simp only [List.nil_append, List.cons_append, List.length_cons, List.length_nil, ty82_bytes] <;> omega) ?_
      replace hr := obind hr
      obtain ⟨x1269, hl1273, hr⟩ := hr
      refine at_cut (V := Value × Nat × (List Value)) (fun e => (⟨[(0, w1237), (3, v1240), (4, .int .i64 (x1239 : Int)), (5, .pointer (some (Addr.add ⟨b1263, 0, none⟩ 0)))], [⟨b1263, [str x1252.From, str x1257.To, e.1], 76⟩], [⟨e.1, 82, 2, e.2.1, e.2.2⟩, ⟨v1240, 76, 3, n1241, i1242⟩], [(ty82.row x1269 e.2.2), (pureF (x1269.length * ty82.bytes ≤ 140737488355328)), ((Ty.slice ty50).fact a0 [w1237]), (ty76.row x1238 i1242), (pureF (x1238.length * ty76.bytes ≤ 140737488355328)), ((Ty.int .i64).fact (x1239 : Int) [.int .i64 (x1239 : Int)]), (Ty.str.fact x1252.From [str x1252.From]), (Ty.str.fact x1257.To [str x1257.To])]⟩ : St)) ?_ ?_
      · refine at_block ?_
        refine at_loopW (σ := (Nat × (List D_crosswalk_Pair))) (V := Value × Nat × (List Value)) (r := x1269) (fun n s => m15_l2 a0 x1239 n s.1 s.2) (fun s e => (⟨[(0, w1237), (3, v1240), (4, .int .i64 (x1239 : Int)), (5, .pointer (some (Addr.add ⟨b1263, 0, none⟩ 0))), (6, .int .i64 (s.1 : Int))], [⟨b1263, [str x1252.From, str x1257.To, e.1], 76⟩], [⟨e.1, 82, 2, e.2.1, e.2.2⟩, ⟨v1240, 76, 3, n1241, i1242⟩], [((Ty.int .i64).fact (s.1 : Int) [.int .i64 (s.1 : Int)]), (ty82.row s.2 e.2.2), (pureF (s.2.length * ty82.bytes ≤ 140737488355328)), ((Ty.slice ty50).fact a0 [w1237]), (ty76.row x1238 i1242), (pureF (x1238.length * ty76.bytes ≤ 140737488355328)), ((Ty.int .i64).fact (x1239 : Int) [.int .i64 (x1239 : Int)]), (Ty.str.fact x1252.From [str x1252.From]), (Ty.str.fact x1257.To [str x1257.To])]⟩ : St)) (fun _ => rfl) _ (0, ([] : (List D_crosswalk_Pair))) ((.slice none 0 0), 0, []) hl1273 ⟨⟨rfl, ⟨rfl, ⟨rfl, ⟨rfl, ⟨rfl, trivial⟩⟩⟩⟩⟩, ⟨[true], rfl⟩, ⟨[true, true], rfl⟩, ⟨[2, 1, 0, 16, 13, 14, 15, 8, 4], rfl⟩⟩ ?_
        clear hr hl1273
        intro n s hr e
        obtain ⟨x1264, x1265⟩ := s
        obtain ⟨v1266, n1267, i1268⟩ := e
        change m15_l2 a0 x1239 (n + 1) x1264 x1265 = some x1269 at hr
        change At _ _ (⟨[(0, w1237), (3, v1240), (4, .int .i64 (x1239 : Int)), (5, .pointer (some (Addr.add ⟨b1263, 0, none⟩ 0))), (6, .int .i64 (x1264 : Int))], [⟨b1263, [str x1252.From, str x1257.To, v1266], 76⟩], [⟨v1266, 82, 2, n1267, i1268⟩, ⟨v1240, 76, 3, n1241, i1242⟩], [((Ty.int .i64).fact (x1264 : Int) [.int .i64 (x1264 : Int)]), (ty82.row x1265 i1268), (pureF (x1265.length * ty82.bytes ≤ 140737488355328)), ((Ty.slice ty50).fact a0 [w1237]), (ty76.row x1238 i1242), (pureF (x1238.length * ty76.bytes ≤ 140737488355328)), ((Ty.int .i64).fact (x1239 : Int) [.int .i64 (x1239 : Int)]), (Ty.str.fact x1252.From [str x1252.From]), (Ty.str.fact x1257.To [str x1257.To])]⟩ : St) _
        rw [m15_l2] at hr
        refine at_seq ?_
        refine at_seq ?_
        refine at_region ?_
        refine at_lt (lt_move rfl) rfl ?_
        refine at_lt (lt_move rfl) rfl ?_
        refine at_lt (lt_move rfl) rfl ?_
        replace hr := obind hr
        obtain ⟨x1275, h1276, hr⟩ := hr
        have := (List.getElem?_eq_some_iff.1 h1276).1
        refine at_elem 3 rfl (nat_at' h1276) (fun p1278 ec pa1279 => ?_)
        refine at_open (A := Value) 0 rfl _ _ (fun F w h => op50 h) ?_
        rintro s1277 rfl
        refine at_lt (lt_idx rfl rfl pa1279 und22 ti50) rfl ?_
        refine at_lt (lt_fieldAddr 2 rfl fld50_2 rfl) rfl ?_
        refine at_lt (lt_load_peek 4 rfl ti48 rfl rfl rfl rfl rfl) rfl ?_
        refine at_inv 2 rfl (fun i1280 => ?_)
        have l1281 := slice_len i1280
        refine at_lt (lt_flen 2 rfl rfl und48) rfl ?_
        refine at_lt (lt_lss rfl rfl) rfl ?_
        refine at_nil ?_
        refine at_then ?_
        by_cases h1282 : x1264 < x1275.Codes.length
        · replace hr := ipos h1282 hr
          refine at_true rfl (decide_eq_true (by omega)) ?_
          refine at_skip ?_
          refine at_then ?_
          refine at_seq ?_
          refine at_block ?_
          replace hr := obind hr
          obtain ⟨x1283, h1284, hr⟩ := hr
          have := (List.getElem?_eq_some_iff.1 h1284).1
          refine at_elem 8 rfl (nat_at' h1284) (fun p1286 ec pa1287 => ?_)
          refine at_open (A := Value) 0 rfl _ _ (fun F w h => op50 h) ?_
          rintro s1285 rfl
          replace hr := obind hr
          obtain ⟨x1288, h1289, hr⟩ := hr
          have := (List.getElem?_eq_some_iff.1 h1289).1
          refine at_elem 2 rfl (nat_at' h1289) (fun p1290 ec pa1291 => ?_)
          refine at_open (A := Unit) 0 rfl _ _ (fun F w h => op83 h) ?_
          rintro _ rfl
          replace hr := imust hr
          obtain ⟨h1293, hr⟩ := hr
          refine aa_start 13 (by kernel_rfl) ?_
          refine aa_pure (bs' := [true, false, false, false, false, false, false, false, false, false, false, false, false, false]) 0 rfl (by kernel_rfl) rfl rfl (lt_fieldAddr 2 rfl fld76_2 rfl) rfl (ts_in 0 0 rfl rfl) ?_
          refine aa_load (bs' := [true, true, false, false, false, false, false, false, false, false, false, false, false, false]) 1 rfl (by kernel_rfl) rfl rfl (lt_load_box 0 rfl ti74 rfl rfl rfl rfl rfl) rfl (ts_in 0 0 rfl rfl) ?_
          refine aa_pure (bs' := [true, true, true, false, false, false, false, false, false, false, false, false, false, false]) 2 rfl (by kernel_rfl) rfl rfl (lt_move rfl) rfl (ts_in 0 0 rfl rfl) ?_
          refine aa_pure (bs' := [true, true, true, true, false, false, false, false, false, false, false, false, false, false]) 3 rfl (by kernel_rfl) rfl rfl (lt_move rfl) rfl (ts_in 0 0 rfl rfl) ?_
          refine aa_pure (bs' := [true, true, true, true, true, false, false, false, false, false, false, false, false, false]) 4 rfl (by kernel_rfl) rfl rfl (lt_idx rfl rfl pa1287 und22 ti50) rfl (ts_in 0 0 rfl rfl) ?_
          refine aa_pure (bs' := [true, true, true, true, true, true, false, false, false, false, false, false, false, false]) 5 rfl (by kernel_rfl) rfl rfl (lt_fieldAddr 2 rfl fld50_2 rfl) rfl (ts_in 0 0 rfl rfl) ?_
          refine aa_load (bs' := [true, true, true, true, true, true, true, false, false, false, false, false, false, false]) 6 rfl (by kernel_rfl) rfl rfl (lt_load_peek 6 rfl ti48 rfl rfl rfl rfl rfl) rfl (ts_in 0 0 rfl rfl) ?_
          refine aa_pure (bs' := [true, true, true, true, true, true, true, true, false, false, false, false, false, false]) 7 rfl (by kernel_rfl) rfl rfl (lt_move rfl) rfl (ts_in 0 0 rfl rfl) ?_
          refine aa_pure (bs' := [true, true, true, true, true, true, true, true, true, false, false, false, false, false]) 8 rfl (by kernel_rfl) rfl rfl (lt_idx rfl rfl pa1291 und48 ti83) rfl (ts_in 0 0 rfl rfl) ?_
          refine aa_load (bs' := [true, true, true, true, true, true, true, true, true, true, false, false, false, false]) 9 rfl (by kernel_rfl) rfl rfl (lt_load_peek 1 rfl ti83 rfl rfl rfl rfl rfl) rfl (ts_in 0 0 rfl rfl) ?_
          refine aa_all (rs := [10]) (by kernel_rfl) rfl (ts_in 0 0 rfl rfl) (List.forall_mem_singleton.2 ?_)
          refine aa_op rfl rfl ?_
          refine hv_bslice (cs := [.int .u8 (x1288.From.toNat : Int), .int .u8 (x1288.To.toNat : Int)]) rfl und74 ti82 rfl rfl rfl rfl rfl (fun s1297 => ?_)
          refine aa_all (rs := [11]) (by kernel_rfl) rfl (ts_in 0 0 rfl rfl) (List.forall_mem_singleton.2 ?_)
          refine at_derive [] (ty82.fact (⟨x1288.From, x1288.To⟩ : D_crosswalk_Pair) [.int .u8 (x1288.From.toNat : Int), .int .u8 (x1288.To.toNat : Int)]) rfl (fun F w h => mk82 (x := (⟨x1288.From, x1288.To⟩ : D_crosswalk_Pair)) h) ?_
          refine at_rown 1 14 rfl rfl rfl (fun hn1299 => ?_)
          refine aa_op rfl rfl ?_
          refine hv_append 1 0 rfl rfl rfl rfl und74 ti82 rfl rfl rfl (by omega) (by omega) rfl (fun s1298 => ?_)
          refine at_rowsnoc 14 0 rfl rfl ?_
          refine aa_pure (bs' := [true, true, true, true, true, true, true, true, true, true, true, true, true, false]) 12 rfl (by kernel_rfl) rfl rfl (lt_fieldAddr 2 rfl fld76_2 rfl) rfl (ts_in 0 2 rfl rfl) ?_
          refine aa_all (rs := [13]) (by kernel_rfl) rfl (ts_in 0 2 rfl rfl) (List.forall_mem_singleton.2 ?_)
          refine at_rowv 1 rfl (fun ho1300 => ?_)
          replace ho1300 := row_one (by obtain ⟨a, c, h⟩ := ho1300; exact ⟨a, _, c, h⟩)
          refine aa_op rfl rfl ?_
          refine hv_store1 0 (cs' := [str x1252.From, str x1257.To, s1298]) rfl rfl ti74 rfl rfl rfl rfl ho1300 ?_
          refine aa_done (by kernel_rfl) (ts_out rfl) ?_
          refine at_in ?_
          refine at_then ?_
          refine at_region ?_
          refine at_lt (lt_move rfl) rfl ?_
          refine at_lt (lt_add rfl rfl (by simp only [lo, hi]; omega)) rfl ?_
          refine at_lt (lt_assign rfl) rfl ?_
          refine at_nil ?_
          refine at_int .i64 (x1264 + 1 : Int) (by simp only [lo, hi]; omega) ?_
          refine at_mkpure (q := ((x1265 ++ [(⟨x1288.From, x1288.To⟩ : D_crosswalk_Pair)]).length * ty82.bytes ≤ 140737488355328)) (by simp only [List.length_append, List.length_cons, List.length_nil, ty82_bytes] <;> omega) ?_
          exact at_again (σ := (Nat × (List D_crosswalk_Pair))) (V := Value × Nat × (List Value)) (lp := fun n s => m15_l2 a0 x1239 n s.1 s.2) (S := fun s e => (⟨[(0, w1237), (3, v1240), (4, .int .i64 (x1239 : Int)), (5, .pointer (some (Addr.add ⟨b1263, 0, none⟩ 0))), (6, .int .i64 (s.1 : Int))], [⟨b1263, [str x1252.From, str x1257.To, e.1], 76⟩], [⟨e.1, 82, 2, e.2.1, e.2.2⟩, ⟨v1240, 76, 3, n1241, i1242⟩], [((Ty.int .i64).fact (s.1 : Int) [.int .i64 (s.1 : Int)]), (ty82.row s.2 e.2.2), (pureF (s.2.length * ty82.bytes ≤ 140737488355328)), ((Ty.slice ty50).fact a0 [w1237]), (ty76.row x1238 i1242), (pureF (x1238.length * ty76.bytes ≤ 140737488355328)), ((Ty.int .i64).fact (x1239 : Int) [.int .i64 (x1239 : Int)]), (Ty.str.fact x1252.From [str x1252.From]), (Ty.str.fact x1257.To [str x1257.To])]⟩ : St)) (x1264 + 1, x1265 ++ [(⟨x1288.From, x1288.To⟩ : D_crosswalk_Pair)]) (s1298, n1267 + 1, i1268 ++ [.int .u8 (x1288.From.toNat : Int), .int .u8 (x1288.To.toNat : Int)]) hr ⟨⟨rfl, ⟨rfl, ⟨rfl, ⟨rfl, ⟨rfl, trivial⟩⟩⟩⟩⟩, ⟨[true], rfl⟩, ⟨[false, true, true], rfl⟩, ⟨[1, 2, 0, 19, 20, 21, 22, 23, 24], rfl⟩⟩
        · replace hr := ineg h1282 hr
          refine at_false rfl (decide_eq_false (by omega)) ?_
          refine at_exit ?_
          refine at_then_exit ?_
          refine at_then_exit ?_
          refine at_in_exit ?_
          have hq := oinj hr
          clear hr
          subst hq
          exact at_leaf (v1266, n1267, i1268) ⟨⟨rfl, ⟨rfl, ⟨rfl, ⟨rfl, trivial⟩⟩⟩⟩, ⟨[true], rfl⟩, ⟨[true, true], rfl⟩, ⟨[6, 7, 8, 9, 10, 11, 12, 13], rfl⟩⟩
      · clear hl1273
        intro e
        obtain ⟨v1270, n1271, i1272⟩ := e
        change At _ _ (⟨[(0, w1237), (3, v1240), (4, .int .i64 (x1239 : Int)), (5, .pointer (some (Addr.add ⟨b1263, 0, none⟩ 0)))], [⟨b1263, [str x1252.From, str x1257.To, v1270], 76⟩], [⟨v1270, 82, 2, n1271, i1272⟩, ⟨v1240, 76, 3, n1241, i1242⟩], [(ty82.row x1269 i1272), (pureF (x1269.length * ty82.bytes ≤ 140737488355328)), ((Ty.slice ty50).fact a0 [w1237]), (ty76.row x1238 i1242), (pureF (x1238.length * ty76.bytes ≤ 140737488355328)), ((Ty.int .i64).fact (x1239 : Int) [.int .i64 (x1239 : Int)]), (Ty.str.fact x1252.From [str x1252.From]), (Ty.str.fact x1257.To [str x1257.To])]⟩ : St) _
        refine at_then ?_
        refine at_region ?_
        refine at_lt (lt_move rfl) rfl ?_
        refine at_lt (lt_load_box 0 rfl ti76 rfl rfl rfl rfl rfl) rfl ?_
        refine at_hv rfl ?_
        refine hv_bslice (cs := [str x1252.From, str x1257.To, v1270]) rfl und34 ti76 rfl rfl rfl rfl rfl (fun s1301 => ?_)
        replace hr := imust hr
        obtain ⟨h1302, hr⟩ := hr
        refine at_pure 1 rfl (fun hb1304 => ?_)
        refine at_release 1 0 rfl rfl rfl hb1304 ?_
        refine at_derive [7, 8, 0] (ty76.fact (⟨x1252.From, x1257.To, x1269⟩ : D_crosswalk_Entry) [str x1252.From, str x1257.To, v1270]) rfl (fun F w h => mk76 (x := (⟨x1252.From, x1257.To, x1269⟩ : D_crosswalk_Entry)) h) ?_
        refine at_rown 1 5 rfl rfl rfl (fun hn1305 => ?_)
        refine at_one 1 rfl (fun ho1306 => ?_)
        refine at_hv rfl ?_
        refine hv_append 1 0 rfl rfl rfl rfl und34 ti76 rfl rfl (allc rfl (allc rfl (allc ho1306 rfl))) (by omega) (by omega) rfl (fun s1303 => ?_)
        refine at_rowsnoc 5 0 rfl rfl ?_
        refine at_lt (lt_assign rfl) rfl ?_
        refine at_nil ?_
        refine at_in ?_
        refine at_then ?_
        refine at_region ?_
        refine at_lt (lt_move rfl) rfl ?_
        refine at_lt (lt_add rfl rfl (by simp only [lo, hi]; omega)) rfl ?_
        refine at_lt (lt_assign rfl) rfl ?_
        refine at_nil ?_
        refine at_mkpure (q := ((x1238 ++ [(⟨x1252.From, x1257.To, x1269⟩ : D_crosswalk_Entry)]).length * ty76.bytes ≤ 140737488355328)) (by simp only [List.length_append, List.length_cons, List.length_nil, ty76_bytes] <;> omega) ?_
        refine at_int .i64 (x1239 + 1 : Int) (by simp only [lo, hi]; omega) ?_
        exact at_again (σ := ((List D_crosswalk_Entry) × Nat)) (V := Value × Nat × (List Value)) (lp := fun n s => m15_l1 a0 n s.1 s.2) (S := fun s e => (⟨[(0, w1237), (3, e.1), (4, .int .i64 (s.2 : Int))], [], [⟨e.1, 76, 3, e.2.1, e.2.2⟩], [(ty76.row s.1 e.2.2), (pureF (s.1.length * ty76.bytes ≤ 140737488355328)), ((Ty.int .i64).fact (s.2 : Int) [.int .i64 (s.2 : Int)]), ((Ty.slice ty50).fact a0 [w1237])]⟩ : St)) (x1238 ++ [(⟨x1252.From, x1257.To, x1269⟩ : D_crosswalk_Entry)], x1239 + 1) (s1303, n1241 + 1, i1242 ++ [str x1252.From, str x1257.To, v1270]) hr ⟨⟨rfl, ⟨rfl, ⟨rfl, trivial⟩⟩⟩, ⟨[false], rfl⟩, ⟨[false, true], rfl⟩, ⟨[2, 1, 0, 7], rfl⟩⟩
    · replace hr := ineg h1251 hr
      refine at_false rfl (decide_eq_false (by omega)) ?_
      refine at_exit ?_
      refine at_then_exit ?_
      refine at_then_exit ?_
      refine at_in_exit ?_
      have hq := oinj hr
      clear hr
      subst hq
      exact at_leaf (v1240, n1241, i1242) ⟨⟨rfl, trivial⟩, ⟨[], rfl⟩, ⟨[true], rfl⟩, ⟨[0, 1], rfl⟩⟩
  · clear hl1247
    intro e
    obtain ⟨v1244, n1245, i1246⟩ := e
    change At _ _ (⟨[(3, v1244)], [], [⟨v1244, 76, 3, n1245, i1246⟩], [(ty76.row x1243 i1246), (pureF (x1243.length * ty76.bytes ≤ 140737488355328))]⟩ : St) _
    refine at_then ?_
    refine at_seq ?_
    refine at_region ?_
    refine at_lt (lt_move rfl) rfl ?_
    refine at_lt (lt_assign rfl) rfl ?_
    refine at_nil ?_
    refine at_then ?_
    refine at_ret ?_
    have hq := oinj hr
    clear hr
    subst hq
    refine at_pure 1 rfl (fun hb1307 => ?_)
    refine at_release 0 0 rfl rfl rfl hb1307 ?_
    exact at_return (v1244) [0] hS Tryz.results15 (.cons (.tmp rfl) .nil) rfl rfl ⟨v1244, rfl, rfl⟩
/-! 115 bookplate/bookplateref12.isDigit -/
def m115 (a0 : UInt8) : Option Bool :=
  if 48 ≤ a0.toNat then
    some (decide ((a0.toNat : Int) ≤ 57))
  else
    some false
def post115 (r : Bool) (v : Value) (fs : List Fact) : Prop := v = .bool r ∧ fs = []
theorem en115 : Enters Tryz.prog 115 := ⟨_, Tryz.func115, by kernel_rfl, rfl⟩
theorem f115_spec {a0 : UInt8} {r : Bool} (hr : m115 a0 = some r) : Spec Tryz.prog 115 [.int .u8 (a0.toNat : Int)] [] (post115 r) := by
  refine spec_start (N := 9) Tryz.func115 (by kernel_rfl) rfl rfl rfl ?_
  intro g hS
  unfold m115 at hr
  refine at_seq ?_
  refine at_region ?_
  refine at_lt (lt_assign rfl) rfl ?_
  refine at_nil ?_
  refine at_then ?_
  refine at_seq ?_
  refine at_region ?_
  refine at_lt (lt_move rfl) rfl ?_
  refine at_lt (lt_geq rfl rfl) rfl ?_
  refine at_lt (lt_move rfl) rfl ?_
  by_cases h1309 : 48 ≤ a0.toNat
  · replace hr := ipos h1309 hr
    refine at_on rfl rfl (decide_eq_true (by omega)) ?_
    refine at_lt (lt_move rfl) rfl ?_
    refine at_on rfl rfl (decide_eq_true (by omega)) ?_
    refine at_lt (lt_leq rfl rfl) rfl ?_
    refine at_lt (lt_pick true rfl (decide_eq_true (by omega)) rfl) rfl ?_
    refine at_lt (lt_assign rfl) rfl ?_
    refine at_nil ?_
    refine at_then ?_
    refine at_ret ?_
    have hq := oinj hr
    clear hr
    subst hq
    exact at_return (.bool (decide ((a0.toNat : Int) ≤ 57))) [] hS Tryz.results115 (.cons (.tmp rfl) .nil) rfl rfl ⟨rfl, rfl⟩
  · replace hr := ineg h1309 hr
    refine at_off rfl rfl (decide_eq_false (by omega)) rfl ?_
    refine at_off rfl rfl (decide_eq_false (by omega)) rfl ?_
    refine at_lt (lt_pick false rfl (decide_eq_false (by omega)) rfl) rfl ?_
    refine at_lt (lt_assign rfl) rfl ?_
    refine at_nil ?_
    refine at_then ?_
    refine at_ret ?_
    have hq := oinj hr
    clear hr
    subst hq
    exact at_return (.bool false) [] hS Tryz.results115 (.cons (.tmp rfl) .nil) rfl rfl ⟨rfl, rfl⟩
/-! 87 bookplate/bookplateref12.ValidTag -/
def m87 (a0 : Str) : Option Bool :=
  if a0.length = 3 then
    (a0[0]?).bind fun c1312 =>
    (m115 c1312).bind fun x1314 =>
    if x1314 = true then
      (a0[1]?).bind fun c1317 =>
      (m115 c1317).bind fun x1319 =>
      if x1319 = true then
        (a0[2]?).bind fun c1322 =>
        (m115 c1322).bind fun x1324 =>
        if x1324 = true then
          some (!decide (a0 = ([48, 48, 48] : Str)))
        else
          some false
      else
        some false
    else
      some false
  else
    some false
def post87 (r : Bool) (v : Value) (fs : List Fact) : Prop := v = .bool r ∧ fs = []
theorem en87 : Enters Tryz.prog 87 := ⟨_, Tryz.func87, by kernel_rfl, rfl⟩
theorem f87_spec {a0 : Str} {r : Bool} (hr : m87 a0 = some r) : Spec Tryz.prog 87 [str a0] [(Ty.str.fact a0 [str a0])] (post87 r) := by
  refine spec_start (N := 25) Tryz.func87 (by kernel_rfl) rfl rfl rfl ?_
  intro g hS
  unfold m87 at hr
  refine at_seq ?_
  refine at_region ?_
  refine at_lt (lt_assign rfl) rfl ?_
  refine at_nil ?_
  refine at_then ?_
  refine at_seq ?_
  refine at_region ?_
  refine at_lt (lt_move rfl) rfl ?_
  refine at_inv 0 rfl (fun l1310 => ?_)
  replace l1310 : a0.length ≤ 9223372036854775807 := l1310
  refine at_lt (lt_slen rfl und9) rfl ?_
  refine at_lt (lt_eql rfl rfl) rfl ?_
  refine at_lt (lt_move rfl) rfl ?_
  by_cases h1311 : a0.length = 3
  · replace hr := ipos h1311 hr
    refine at_on rfl rfl (decide_eq_true (by omega)) ?_
    refine at_lt (lt_move rfl) rfl ?_
    replace hr := obind hr
    obtain ⟨c1312, h1313, hr⟩ := hr
    have := (List.getElem?_eq_some_iff.1 h1313).1
    have := c1312.toNat_lt
    refine at_on rfl rfl (decide_eq_true (by omega)) ?_
    refine at_lt (lt_sidx rfl rfl und9 (by omega) h1313) rfl ?_
    replace hr := obind hr
    obtain ⟨x1314, h1315, hr⟩ := hr
    refine at_on rfl rfl (decide_eq_true (by omega)) ?_
    refine at_hv rfl ?_
    refine hv_call0 [] (f115_spec h1315) rfl rfl rfl rfl ?_
    rintro _ _ ⟨rfl, rfl⟩
    refine at_lt (lt_pick true rfl (decide_eq_true (by omega)) rfl) rfl ?_
    refine at_lt (lt_move rfl) rfl ?_
    by_cases h1316 : x1314 = true
    · replace hr := ipos h1316 hr
      refine at_on rfl rfl h1316 ?_
      refine at_lt (lt_move rfl) rfl ?_
      replace hr := obind hr
      obtain ⟨c1317, h1318, hr⟩ := hr
      have := (List.getElem?_eq_some_iff.1 h1318).1
      have := c1317.toNat_lt
      refine at_on rfl rfl h1316 ?_
      refine at_lt (lt_sidx rfl rfl und9 (by omega) h1318) rfl ?_
      replace hr := obind hr
      obtain ⟨x1319, h1320, hr⟩ := hr
      refine at_on rfl rfl h1316 ?_
      refine at_hv rfl ?_
      refine hv_call0 [] (f115_spec h1320) rfl rfl rfl rfl ?_
      rintro _ _ ⟨rfl, rfl⟩
      refine at_lt (lt_pick true rfl h1316 rfl) rfl ?_
      refine at_lt (lt_move rfl) rfl ?_
      by_cases h1321 : x1319 = true
      · replace hr := ipos h1321 hr
        refine at_on rfl rfl h1321 ?_
        refine at_lt (lt_move rfl) rfl ?_
        replace hr := obind hr
        obtain ⟨c1322, h1323, hr⟩ := hr
        have := (List.getElem?_eq_some_iff.1 h1323).1
        have := c1322.toNat_lt
        refine at_on rfl rfl h1321 ?_
        refine at_lt (lt_sidx rfl rfl und9 (by omega) h1323) rfl ?_
        replace hr := obind hr
        obtain ⟨x1324, h1325, hr⟩ := hr
        refine at_on rfl rfl h1321 ?_
        refine at_hv rfl ?_
        refine hv_call0 [] (f115_spec h1325) rfl rfl rfl rfl ?_
        rintro _ _ ⟨rfl, rfl⟩
        refine at_lt (lt_pick true rfl h1321 rfl) rfl ?_
        refine at_lt (lt_move rfl) rfl ?_
        by_cases h1326 : x1324 = true
        · replace hr := ipos h1326 hr
          refine at_on rfl rfl h1326 ?_
          refine at_lt (lt_move rfl) rfl ?_
          refine at_on rfl rfl h1326 ?_
          refine at_lt (lt_sneq rfl rfl) rfl ?_
          refine at_lt (lt_pick true rfl h1326 rfl) rfl ?_
          refine at_lt (lt_assign rfl) rfl ?_
          refine at_nil ?_
          refine at_then ?_
          refine at_ret ?_
          have hq := oinj hr
          clear hr
          subst hq
          exact at_return (.bool (!decide (a0 = ([48, 48, 48] : Str)))) [] hS Tryz.results87 (.cons (.tmp rfl) .nil) rfl rfl ⟨rfl, rfl⟩
        · replace hr := ineg h1326 hr
          refine at_off rfl rfl (bf h1326) rfl ?_
          refine at_off rfl rfl (bf h1326) rfl ?_
          refine at_lt (lt_pick false rfl (bf h1326) rfl) rfl ?_
          refine at_lt (lt_assign rfl) rfl ?_
          refine at_nil ?_
          refine at_then ?_
          refine at_ret ?_
          have hq := oinj hr
          clear hr
          subst hq
          exact at_return (.bool false) [] hS Tryz.results87 (.cons (.tmp rfl) .nil) rfl rfl ⟨rfl, rfl⟩
      · replace hr := ineg h1321 hr
        refine at_off rfl rfl (bf h1321) rfl ?_
        refine at_off rfl rfl (bf h1321) rfl ?_
        refine at_off rfl rfl (bf h1321) rfl ?_
        refine at_lt (lt_pick false rfl (bf h1321) rfl) rfl ?_
        refine at_lt (lt_move rfl) rfl ?_
        refine at_off rfl rfl rfl rfl ?_
        refine at_off rfl rfl rfl rfl ?_
        refine at_lt (lt_pick false rfl rfl rfl) rfl ?_
        refine at_lt (lt_assign rfl) rfl ?_
        refine at_nil ?_
        refine at_then ?_
        refine at_ret ?_
        have hq := oinj hr
        clear hr
        subst hq
        exact at_return (.bool false) [] hS Tryz.results87 (.cons (.tmp rfl) .nil) rfl rfl ⟨rfl, rfl⟩
    · replace hr := ineg h1316 hr
      refine at_off rfl rfl (bf h1316) rfl ?_
      refine at_off rfl rfl (bf h1316) rfl ?_
      refine at_off rfl rfl (bf h1316) rfl ?_
      refine at_lt (lt_pick false rfl (bf h1316) rfl) rfl ?_
      refine at_lt (lt_move rfl) rfl ?_
      refine at_off rfl rfl rfl rfl ?_
      refine at_off rfl rfl rfl rfl ?_
      refine at_off rfl rfl rfl rfl ?_
      refine at_lt (lt_pick false rfl rfl rfl) rfl ?_
      refine at_lt (lt_move rfl) rfl ?_
      refine at_off rfl rfl rfl rfl ?_
      refine at_off rfl rfl rfl rfl ?_
      refine at_lt (lt_pick false rfl rfl rfl) rfl ?_
      refine at_lt (lt_assign rfl) rfl ?_
      refine at_nil ?_
      refine at_then ?_
      refine at_ret ?_
      have hq := oinj hr
      clear hr
      subst hq
      exact at_return (.bool false) [] hS Tryz.results87 (.cons (.tmp rfl) .nil) rfl rfl ⟨rfl, rfl⟩
  · replace hr := ineg h1311 hr
    refine at_off rfl rfl (decide_eq_false (by omega)) rfl ?_
    refine at_off rfl rfl (decide_eq_false (by omega)) rfl ?_
    refine at_off rfl rfl (decide_eq_false (by omega)) rfl ?_
    refine at_lt (lt_pick false rfl (decide_eq_false (by omega)) rfl) rfl ?_
    refine at_lt (lt_move rfl) rfl ?_
    refine at_off rfl rfl rfl rfl ?_
    refine at_off rfl rfl rfl rfl ?_
    refine at_off rfl rfl rfl rfl ?_
    refine at_lt (lt_pick false rfl rfl rfl) rfl ?_
    refine at_lt (lt_move rfl) rfl ?_
    refine at_off rfl rfl rfl rfl ?_
    refine at_off rfl rfl rfl rfl ?_
    refine at_off rfl rfl rfl rfl ?_
    refine at_lt (lt_pick false rfl rfl rfl) rfl ?_
    refine at_lt (lt_move rfl) rfl ?_
    refine at_off rfl rfl rfl rfl ?_
    refine at_off rfl rfl rfl rfl ?_
    refine at_lt (lt_pick false rfl rfl rfl) rfl ?_
    refine at_lt (lt_assign rfl) rfl ?_
    refine at_nil ?_
    refine at_then ?_
    refine at_ret ?_
    have hq := oinj hr
    clear hr
    subst hq
    exact at_return (.bool false) [] hS Tryz.results87 (.cons (.tmp rfl) .nil) rfl rfl ⟨rfl, rfl⟩
/-! 89 bookplate/bookplateref12.isCode -/
def m89 (a0 : UInt8) : Option Bool :=
  (m115 a0).bind fun x1327 =>
  if x1327 = true then
    some true
  else
    if 97 ≤ a0.toNat then
      some (decide ((a0.toNat : Int) ≤ 122))
    else
      some false
def post89 (r : Bool) (v : Value) (fs : List Fact) : Prop := v = .bool r ∧ fs = []
theorem en89 : Enters Tryz.prog 89 := ⟨_, Tryz.func89, by kernel_rfl, rfl⟩
theorem f89_spec {a0 : UInt8} {r : Bool} (hr : m89 a0 = some r) : Spec Tryz.prog 89 [.int .u8 (a0.toNat : Int)] [] (post89 r) := by
  refine spec_start (N := 13) Tryz.func89 (by kernel_rfl) rfl rfl rfl ?_
  intro g hS
  unfold m89 at hr
  refine at_seq ?_
  refine at_region ?_
  refine at_lt (lt_assign rfl) rfl ?_
  refine at_nil ?_
  refine at_then ?_
  refine at_seq ?_
  refine at_region ?_
  refine at_lt (lt_move rfl) rfl ?_
  replace hr := obind hr
  obtain ⟨x1327, h1328, hr⟩ := hr
  refine at_hv rfl ?_
  refine hv_call0 [] (f115_spec h1328) rfl rfl rfl rfl ?_
  rintro _ _ ⟨rfl, rfl⟩
  refine at_lt (lt_move rfl) rfl ?_
  by_cases h1329 : x1327 = true
  · replace hr := ipos h1329 hr
    refine at_off rfl rfl h1329 rfl ?_
    refine at_off rfl rfl h1329 rfl ?_
    refine at_off rfl rfl h1329 rfl ?_
    refine at_offu rfl rfl rfl ?_
    refine at_offu rfl rfl rfl ?_
    refine at_off rfl rfl h1329 rfl ?_
    refine at_lt (lt_pick true rfl h1329 rfl) rfl ?_
    refine at_lt (lt_assign rfl) rfl ?_
    refine at_nil ?_
    refine at_then ?_
    refine at_ret ?_
    have hq := oinj hr
    clear hr
    subst hq
    exact at_return (.bool true) [] hS Tryz.results89 (.cons (.tmp rfl) .nil) rfl rfl ⟨rfl, rfl⟩
  · replace hr := ineg h1329 hr
    refine at_on rfl rfl (bf h1329) ?_
    refine at_lt (lt_move rfl) rfl ?_
    refine at_on rfl rfl (bf h1329) ?_
    refine at_lt (lt_geq rfl rfl) rfl ?_
    refine at_on rfl rfl (bf h1329) ?_
    refine at_lt (lt_move rfl) rfl ?_
    by_cases h1330 : 97 ≤ a0.toNat
    · replace hr := ipos h1330 hr
      refine at_on rfl rfl (decide_eq_true (by omega)) ?_
      refine at_lt (lt_move rfl) rfl ?_
      refine at_on rfl rfl (decide_eq_true (by omega)) ?_
      refine at_lt (lt_leq rfl rfl) rfl ?_
      refine at_on rfl rfl (bf h1329) ?_
      refine at_lt (lt_pick true rfl (decide_eq_true (by omega)) rfl) rfl ?_
      refine at_lt (lt_pick false rfl (bf h1329) rfl) rfl ?_
      refine at_lt (lt_assign rfl) rfl ?_
      refine at_nil ?_
      refine at_then ?_
      refine at_ret ?_
      have hq := oinj hr
      clear hr
      subst hq
      exact at_return (.bool (decide ((a0.toNat : Int) ≤ 122))) [] hS Tryz.results89 (.cons (.tmp rfl) .nil) rfl rfl ⟨rfl, rfl⟩
    · replace hr := ineg h1330 hr
      refine at_off rfl rfl (decide_eq_false (by omega)) rfl ?_
      refine at_off rfl rfl (decide_eq_false (by omega)) rfl ?_
      refine at_on rfl rfl (bf h1329) ?_
      refine at_lt (lt_pick false rfl (decide_eq_false (by omega)) rfl) rfl ?_
      refine at_lt (lt_pick false rfl (bf h1329) rfl) rfl ?_
      refine at_lt (lt_assign rfl) rfl ?_
      refine at_nil ?_
      refine at_then ?_
      refine at_ret ?_
      have hq := oinj hr
      clear hr
      subst hq
      exact at_return (.bool false) [] hS Tryz.results89 (.cons (.tmp rfl) .nil) rfl rfl ⟨rfl, rfl⟩
/-! 88 bookplate/bookplateref12.ValidCode -/
def m88 (a0 : UInt8) : Option Bool :=
  (m89 a0).bind fun x1331 =>
  some x1331
def post88 (r : Bool) (v : Value) (fs : List Fact) : Prop := v = .bool r ∧ fs = []
theorem en88 : Enters Tryz.prog 88 := ⟨_, Tryz.func88, by kernel_rfl, rfl⟩
theorem f88_spec {a0 : UInt8} {r : Bool} (hr : m88 a0 = some r) : Spec Tryz.prog 88 [.int .u8 (a0.toNat : Int)] [] (post88 r) := by
  refine spec_start (N := 5) Tryz.func88 (by kernel_rfl) rfl rfl rfl ?_
  intro g hS
  unfold m88 at hr
  refine at_seq ?_
  refine at_region ?_
  refine at_lt (lt_assign rfl) rfl ?_
  refine at_nil ?_
  refine at_then ?_
  refine at_seq ?_
  refine at_region ?_
  refine at_lt (lt_move rfl) rfl ?_
  replace hr := obind hr
  obtain ⟨x1331, h1332, hr⟩ := hr
  refine at_hv rfl ?_
  refine hv_call0 [] (f89_spec h1332) rfl rfl rfl rfl ?_
  rintro _ _ ⟨rfl, rfl⟩
  refine at_lt (lt_assign rfl) rfl ?_
  refine at_nil ?_
  refine at_then ?_
  refine at_ret ?_
  have hq := oinj hr
  clear hr
  subst hq
  exact at_return (.bool x1331) [] hS Tryz.results88 (.cons (.tmp rfl) .nil) rfl rfl ⟨rfl, rfl⟩
/-! 55 bookplate/bookplateref16.entry -/
def m55_l1 (a0 : D_ref16_Entry) : Nat → Nat → Option (Fl Bool Unit)
  | 0, _ => none
  | k + 1, x1345 =>
    if x1345 < a0.Codes.length then
      (a0.Codes[x1345]?).bind fun x1350 =>
      (m88 x1350.From).bind fun x1355 =>
      if x1355 = true then
        (m88 x1350.To).bind fun x1358 =>
        if x1358 = true then
          if 0 < x1345 then
            (at? a0.Codes ((x1345 : Int) - 1)).bind fun x1362 =>
            if x1350.From.toNat ≤ x1362.From.toNat then
              some (Fl.ret false)
            else
              m55_l1 a0 k (x1345 + 1)
          else
            m55_l1 a0 k (x1345 + 1)
        else
          some (Fl.ret false)
      else
        some (Fl.ret false)
    else
      some (Fl.go ())
def m55 (a0 : D_ref16_Entry) : Option Bool :=
  (m87 a0.From).bind fun x1335 =>
  if x1335 = true then
    (m87 a0.To).bind fun x1338 =>
    if x1338 = true then
      if a0.Codes.length < 1 then
        some false
      else
        if 36 < a0.Codes.length then
          some false
        else
          (m55_l1 a0 (a0.Codes.length + 1) 0).bind fun r => match r with
          | .ret x => some x
          | .go _ =>
            some true
    else
      some false
  else
    some false
def post55 (r : Bool) (v : Value) (fs : List Fact) : Prop := v = .bool r ∧ fs = []
theorem en55 : Enters Tryz.prog 55 := ⟨_, Tryz.func55, by kernel_rfl, rfl⟩
theorem f55_spec {a0 : D_ref16_Entry} {s1333 : Value} {r : Bool} (hr : m55 a0 = some r) : Spec Tryz.prog 55 [.agg #[str a0.From, str a0.To, s1333]] [(ty50.fact a0 [str a0.From, str a0.To, s1333])] (post55 r) := by
  refine spec_start (N := 65) Tryz.func55 (by kernel_rfl) rfl rfl rfl ?_
  intro g hS
  unfold m55 at hr
  refine at_open (A := Unit) 0 rfl (fun _ => True) (fun _ => [(Ty.str.fact a0.From [str a0.From]), (Ty.str.fact a0.To [str a0.To]), ((Ty.slice ty83).fact a0.Codes [s1333])]) (fun F w h => ⟨(), trivial, ex50 h⟩) (fun _ _ => ?_)
  refine at_seq ?_
  refine at_region ?_
  refine at_hv rfl ?_
  refine hv_box (cs := [str a0.From, str a0.To, s1333]) rfl rfl rfl (fun b1334 => ?_)
  refine at_lt (lt_assign rfl) rfl ?_
  refine at_nil ?_
  refine at_then ?_
  refine at_seq ?_
  refine at_seq ?_
  refine at_region ?_
  refine at_lt (lt_fieldAddr 0 rfl fld50_0 rfl) rfl ?_
  refine at_lt (lt_load_box 0 rfl ti9 rfl rfl rfl rfl rfl) rfl ?_
  replace hr := obind hr
  obtain ⟨x1335, h1336, hr⟩ := hr
  refine at_hv rfl ?_
  refine hv_call0 [0] (f87_spec h1336) rfl rfl rfl rfl ?_
  rintro _ _ ⟨rfl, rfl⟩
  refine at_lt (lt_not rfl) rfl ?_
  refine at_lt (lt_move rfl) rfl ?_
  by_cases h1337 : x1335 = true
  · replace hr := ipos h1337 hr
    refine at_on rfl rfl (nt h1337) ?_
    refine at_lt (lt_fieldAddr 1 rfl fld50_1 rfl) rfl ?_
    refine at_on rfl rfl (nt h1337) ?_
    refine at_lt (lt_load_box 0 rfl ti9 rfl rfl rfl rfl rfl) rfl ?_
    replace hr := obind hr
    obtain ⟨x1338, h1339, hr⟩ := hr
    refine at_on rfl rfl (nt h1337) ?_
    refine at_hv rfl ?_
    refine hv_call0 [1] (f87_spec h1339) rfl rfl rfl rfl ?_
    rintro _ _ ⟨rfl, rfl⟩
    refine at_on rfl rfl (nt h1337) ?_
    refine at_lt (lt_not rfl) rfl ?_
    refine at_lt (lt_pick false rfl (nt h1337) rfl) rfl ?_
    refine at_lt (lt_move rfl) rfl ?_
    by_cases h1340 : x1338 = true
    · replace hr := ipos h1340 hr
      refine at_on rfl rfl (nt h1340) ?_
      refine at_lt (lt_fieldAddr 2 rfl fld50_2 rfl) rfl ?_
      refine at_on rfl rfl (nt h1340) ?_
      refine at_lt (lt_load_box 0 rfl ti48 rfl rfl rfl rfl rfl) rfl ?_
      refine at_inv 2 rfl (fun i1341 => ?_)
      have l1342 := slice_len i1341
      refine at_on rfl rfl (nt h1340) ?_
      refine at_lt (lt_flen 2 rfl rfl und48) rfl ?_
      refine at_on rfl rfl (nt h1340) ?_
      refine at_lt (lt_lss rfl rfl) rfl ?_
      refine at_lt (lt_pick false rfl (nt h1340) rfl) rfl ?_
      refine at_lt (lt_move rfl) rfl ?_
      by_cases h1343 : a0.Codes.length < 1
      · replace hr := ipos h1343 hr
        refine at_off rfl rfl (decide_eq_true (by omega)) rfl ?_
        refine at_off rfl rfl (decide_eq_true (by omega)) rfl ?_
        refine at_off rfl rfl (decide_eq_true (by omega)) rfl ?_
        refine at_off rfl rfl (decide_eq_true (by omega)) rfl ?_
        refine at_lt (lt_pick true rfl (decide_eq_true (by omega)) rfl) rfl ?_
        refine at_nil ?_
        refine at_then ?_
        refine at_true rfl rfl ?_
        refine at_seq ?_
        refine at_region ?_
        refine at_lt (lt_assign rfl) rfl ?_
        refine at_nil ?_
        refine at_then ?_
        refine at_ret ?_
        have hq := oinj hr
        clear hr
        subst hq
        refine at_then_ret ?_
        exact at_return (.bool false) [] hS Tryz.results55 (.cons (.tmp rfl) .nil) rfl rfl ⟨rfl, rfl⟩
      · replace hr := ineg h1343 hr
        refine at_on rfl rfl (decide_eq_false (by omega)) ?_
        refine at_lt (lt_fieldAddr 2 rfl fld50_2 rfl) rfl ?_
        refine at_on rfl rfl (decide_eq_false (by omega)) ?_
        refine at_lt (lt_load_box 0 rfl ti48 rfl rfl rfl rfl rfl) rfl ?_
        refine at_on rfl rfl (decide_eq_false (by omega)) ?_
        refine at_lt (lt_flen 2 rfl rfl und48) rfl ?_
        refine at_on rfl rfl (decide_eq_false (by omega)) ?_
        refine at_lt (lt_gtr rfl rfl) rfl ?_
        refine at_lt (lt_pick false rfl (decide_eq_false (by omega)) rfl) rfl ?_
        refine at_nil ?_
        refine at_then ?_
        by_cases h1344 : 36 < a0.Codes.length
        · replace hr := ipos h1344 hr
          refine at_true rfl (decide_eq_true (by omega)) ?_
          refine at_seq ?_
          refine at_region ?_
          refine at_lt (lt_assign rfl) rfl ?_
          refine at_nil ?_
          refine at_then ?_
          refine at_ret ?_
          have hq := oinj hr
          clear hr
          subst hq
          refine at_then_ret ?_
          exact at_return (.bool false) [] hS Tryz.results55 (.cons (.tmp rfl) .nil) rfl rfl ⟨rfl, rfl⟩
        · replace hr := ineg h1344 hr
          refine at_false rfl (decide_eq_false (by omega)) ?_
          refine at_skip ?_
          refine at_then ?_
          refine at_seq ?_
          refine at_seq ?_
          refine at_region ?_
          refine at_lt (lt_assign rfl) rfl ?_
          refine at_nil ?_
          refine at_then ?_
          refine at_int .i64 0 (by simp only [lo, hi]; omega) ?_
          replace hr := obind hr
          obtain ⟨r1346, hl1347, hk1348⟩ := hr
          refine at_cutP (V := (Unit) × (Unit)) (fun v => r1346 = Fl.go v.1) (fun v => (⟨[], [], [], []⟩ : St)) ?_ ?_
          · refine at_block ?_
            refine at_loopW (σ := Nat) (V := Unit) (r := r1346) (fun n s => m55_l1 a0 n s) (fun s e => (⟨[(1, .pointer (some (Addr.add ⟨b1334, 0, none⟩ 0))), (3, .int .i64 (s : Int))], [⟨b1334, [str a0.From, str a0.To, s1333], 50⟩], [], [((Ty.int .i64).fact (s : Int) [.int .i64 (s : Int)]), (Ty.str.fact a0.From [str a0.From]), (Ty.str.fact a0.To [str a0.To]), ((Ty.slice ty83).fact a0.Codes [s1333])]⟩ : St)) (fun _ => rfl) _ 0 () hl1347 ⟨⟨rfl, ⟨rfl, trivial⟩⟩, ⟨[true], rfl⟩, ⟨[], rfl⟩, ⟨[0, 1, 2, 3], rfl⟩⟩ ?_
            clear hl1347
            intro n x1345 hr e
            skip
            skip
            change m55_l1 a0 (n + 1) x1345 = some r1346 at hr
            change At _ _ (⟨[(1, .pointer (some (Addr.add ⟨b1334, 0, none⟩ 0))), (3, .int .i64 (x1345 : Int))], [⟨b1334, [str a0.From, str a0.To, s1333], 50⟩], [], [((Ty.int .i64).fact (x1345 : Int) [.int .i64 (x1345 : Int)]), (Ty.str.fact a0.From [str a0.From]), (Ty.str.fact a0.To [str a0.To]), ((Ty.slice ty83).fact a0.Codes [s1333])]⟩ : St) _
            rw [m55_l1] at hr
            refine at_seq ?_
            refine at_seq ?_
            refine at_region ?_
            refine at_lt (lt_move rfl) rfl ?_
            refine at_lt (lt_fieldAddr 2 rfl fld50_2 rfl) rfl ?_
            refine at_lt (lt_load_box 0 rfl ti48 rfl rfl rfl rfl rfl) rfl ?_
            refine at_lt (lt_flen 3 rfl rfl und48) rfl ?_
            refine at_lt (lt_lss rfl rfl) rfl ?_
            refine at_nil ?_
            refine at_then ?_
            by_cases h1349 : x1345 < a0.Codes.length
            · replace hr := ipos h1349 hr
              refine at_true rfl (decide_eq_true (by omega)) ?_
              refine at_skip ?_
              refine at_then ?_
              refine at_seq ?_
              refine at_block ?_
              refine at_seq ?_
              refine at_region ?_
              refine at_lt (lt_fieldAddr 2 rfl fld50_2 rfl) rfl ?_
              refine at_lt (lt_load_box 0 rfl ti48 rfl rfl rfl rfl rfl) rfl ?_
              refine at_lt (lt_move rfl) rfl ?_
              replace hr := obind hr
              obtain ⟨x1350, h1351, hr⟩ := hr
              have := (List.getElem?_eq_some_iff.1 h1351).1
              refine at_elem 3 rfl (nat_at' h1351) (fun p1352 ec pa1353 => ?_)
              refine at_open (A := Unit) 0 rfl _ _ (fun F w h => op83 h) ?_
              rintro _ rfl
              refine at_lt (lt_idx rfl rfl pa1353 und48 ti83) rfl ?_
              refine at_lt (lt_load_peek 1 rfl ti83 rfl rfl rfl rfl rfl) rfl ?_
              refine at_hv rfl ?_
              refine hv_alloc (cs := [.int .u8 0, .int .u8 0]) ti83 rfl rfl (fun b1354 => ?_)
              refine at_hv rfl ?_
              refine hv_store_box 0 (cs' := [.int .u8 (x1350.From.toNat : Int), .int .u8 (x1350.To.toNat : Int)]) rfl rfl ti83 rfl rfl rfl rfl rfl ?_
              refine at_nil ?_
              refine at_then ?_
              refine at_seq ?_
              replace hr := obind hr
              obtain ⟨x1355, h1356, hr⟩ := hr
              by_cases h1357 : x1355 = true
              · replace hr := ipos h1357 hr
                replace hr := obind hr
                obtain ⟨x1358, h1359, hr⟩ := hr
                by_cases h1360 : x1358 = true
                · replace hr := ipos h1360 hr
                  by_cases h1361 : 0 < x1345
                  · replace hr := ipos h1361 hr
                    replace hr := obind hr
                    obtain ⟨x1362, h1363, hr⟩ := hr
                    have := at?_lt h1363
                    refine at_elem 5 rfl h1363 (fun p1364 ec pa1365 => ?_)
                    refine at_open (A := Unit) 0 rfl _ _ (fun F w h => op83 h) ?_
                    rintro _ rfl
                    refine aa_start 26 (by kernel_rfl) ?_
                    refine aa_pure (bs' := [true, false, false, false, false, false, false, false, false, false, false, false, false, false, false, false, false, false, false, false, false, false, false, false, false, false]) 0 rfl (by kernel_rfl) rfl rfl (lt_fieldAddr 0 rfl fld83_0 rfl) rfl (ts_in 0 0 rfl rfl) ?_
                    refine aa_load (bs' := [true, true, false, false, false, false, false, false, false, false, false, false, false, false, false, false, false, false, false, false, false, false, false, false, false, false]) 1 rfl (by kernel_rfl) rfl rfl (lt_load_box 0 rfl ti5 rfl rfl rfl rfl rfl) rfl (ts_in 0 0 rfl rfl) ?_
                    refine aa_all (rs := [2]) (by kernel_rfl) rfl (ts_in 0 0 rfl rfl) (List.forall_mem_singleton.2 ?_)
                    refine aa_op rfl rfl ?_
                    refine hv_call0 [] (f88_spec h1356) rfl rfl rfl rfl ?_
                    rintro _ _ ⟨rfl, rfl⟩
                    refine aa_pure (bs' := [true, true, true, true, false, false, false, false, false, false, false, false, false, false, false, false, false, false, false, false, false, false, false, false, false, false]) 3 rfl (by kernel_rfl) rfl rfl (lt_not rfl) rfl (ts_in 0 0 rfl rfl) ?_
                    refine aa_pure (bs' := [true, true, true, true, true, false, false, false, false, false, false, false, false, false, false, false, false, false, false, false, false, false, false, false, false, false]) 4 rfl (by kernel_rfl) rfl rfl (lt_move rfl) rfl (ts_in 0 0 rfl rfl) ?_
                    refine aa_pure (bs' := [true, true, true, true, true, true, false, false, false, false, false, false, false, false, false, false, false, false, false, false, false, false, false, false, false, false]) 5 rfl (by kernel_rfl) rfl ⟨43, rfl, .inl ⟨_, rfl, gdq (v := false) (nt h1357) rfl⟩⟩ (lt_fieldAddr 1 rfl fld83_1 rfl) rfl (ts_in 0 0 rfl rfl) ?_
                    refine aa_load (bs' := [true, true, true, true, true, true, true, false, false, false, false, false, false, false, false, false, false, false, false, false, false, false, false, false, false, false]) 6 rfl (by kernel_rfl) rfl ⟨43, rfl, .inl ⟨_, rfl, gdq (v := false) (nt h1357) rfl⟩⟩ (lt_load_box 0 rfl ti5 rfl rfl rfl rfl rfl) rfl (ts_in 0 0 rfl rfl) ?_
                    refine aa_all (rs := [7]) (by kernel_rfl) rfl (ts_in 0 0 rfl rfl) (List.forall_mem_singleton.2 ?_)
                    refine aa_op rfl ⟨43, rfl, .inl ⟨_, rfl, gdq (v := false) (nt h1357) rfl⟩⟩ ?_
                    refine hv_call0 [] (f88_spec h1359) rfl rfl rfl rfl ?_
                    rintro _ _ ⟨rfl, rfl⟩
                    refine aa_pure (bs' := [true, true, true, true, true, true, true, true, true, false, false, false, false, false, false, false, false, false, false, false, false, false, false, false, false, false]) 8 rfl (by kernel_rfl) rfl ⟨43, rfl, .inl ⟨_, rfl, gdq (v := false) (nt h1357) rfl⟩⟩ (lt_not rfl) rfl (ts_in 0 0 rfl rfl) ?_
                    refine aa_pure (bs' := [true, true, true, true, true, true, true, true, true, true, false, false, false, false, false, false, false, false, false, false, false, false, false, false, false, false]) 9 rfl (by kernel_rfl) rfl rfl (lt_pick false rfl (nt h1357) rfl) rfl (ts_in 0 0 rfl rfl) ?_
                    refine aa_pure (bs' := [true, true, true, true, true, true, true, true, true, true, true, false, false, false, false, false, false, false, false, false, false, false, false, false, false, false]) 10 rfl (by kernel_rfl) rfl rfl (lt_move rfl) rfl (ts_in 0 0 rfl rfl) ?_
                    refine aa_pure (bs' := [true, true, true, true, true, true, true, true, true, true, true, true, false, false, false, false, false, false, false, false, false, false, false, false, false, false]) 11 rfl (by kernel_rfl) rfl ⟨49, rfl, .inl ⟨_, rfl, gdq (v := false) (nt h1360) rfl⟩⟩ (lt_move rfl) rfl (ts_in 0 0 rfl rfl) ?_
                    refine aa_pure (bs' := [true, true, true, true, true, true, true, true, true, true, true, true, true, false, false, false, false, false, false, false, false, false, false, false, false, false]) 12 rfl (by kernel_rfl) rfl ⟨49, rfl, .inl ⟨_, rfl, gdq (v := false) (nt h1360) rfl⟩⟩ (lt_gtr rfl rfl) rfl (ts_in 0 0 rfl rfl) ?_
                    refine aa_pure (bs' := [true, true, true, true, true, true, true, true, true, true, true, true, true, true, false, false, false, false, false, false, false, false, false, false, false, false]) 13 rfl (by kernel_rfl) rfl ⟨49, rfl, .inl ⟨_, rfl, gdq (v := false) (nt h1360) rfl⟩⟩ (lt_move rfl) rfl (ts_in 0 0 rfl rfl) ?_
                    refine aa_pure (bs' := [true, true, true, true, true, true, true, true, true, true, true, true, true, true, true, false, false, false, false, false, false, false, false, false, false, false]) 14 rfl (by kernel_rfl) rfl ⟨52, rfl, .inl ⟨_, rfl, gdq (v := true) (decide_eq_true (by omega)) rfl⟩⟩ (lt_fieldAddr 0 rfl fld83_0 rfl) rfl (ts_in 0 0 rfl rfl) ?_
                    refine aa_load (bs' := [true, true, true, true, true, true, true, true, true, true, true, true, true, true, true, true, false, false, false, false, false, false, false, false, false, false]) 15 rfl (by kernel_rfl) rfl ⟨52, rfl, .inl ⟨_, rfl, gdq (v := true) (decide_eq_true (by omega)) rfl⟩⟩ (lt_load_box 0 rfl ti5 rfl rfl rfl rfl rfl) rfl (ts_in 0 0 rfl rfl) ?_
                    refine aa_pure (bs' := [true, true, true, true, true, true, true, true, true, true, true, true, true, true, true, true, true, false, false, false, false, false, false, false, false, false]) 16 rfl (by kernel_rfl) rfl ⟨52, rfl, .inl ⟨_, rfl, gdq (v := true) (decide_eq_true (by omega)) rfl⟩⟩ (lt_fieldAddr 2 rfl fld50_2 rfl) rfl (ts_in 0 0 rfl rfl) ?_
                    refine aa_load (bs' := [true, true, true, true, true, true, true, true, true, true, true, true, true, true, true, true, true, true, false, false, false, false, false, false, false, false]) 17 rfl (by kernel_rfl) rfl ⟨52, rfl, .inl ⟨_, rfl, gdq (v := true) (decide_eq_true (by omega)) rfl⟩⟩ (lt_load_box 1 rfl ti48 rfl rfl rfl rfl rfl) rfl (ts_in 0 0 rfl rfl) ?_
                    refine aa_pure (bs' := [true, true, true, true, true, true, true, true, true, true, true, true, true, true, true, true, true, true, true, false, false, false, false, false, false, false]) 18 rfl (by kernel_rfl) rfl ⟨52, rfl, .inl ⟨_, rfl, gdq (v := true) (decide_eq_true (by omega)) rfl⟩⟩ (lt_move rfl) rfl (ts_in 0 0 rfl rfl) ?_
                    refine aa_pure (bs' := [true, true, true, true, true, true, true, true, true, true, true, true, true, true, true, true, true, true, true, true, false, false, false, false, false, false]) 19 rfl (by kernel_rfl) rfl ⟨52, rfl, .inl ⟨_, rfl, gdq (v := true) (decide_eq_true (by omega)) rfl⟩⟩ (lt_sub rfl rfl (by simp only [lo, hi]; omega)) rfl (ts_in 0 0 rfl rfl) ?_
                    refine aa_pure (bs' := [true, true, true, true, true, true, true, true, true, true, true, true, true, true, true, true, true, true, true, true, true, false, false, false, false, false]) 20 rfl (by kernel_rfl) rfl ⟨52, rfl, .inl ⟨_, rfl, gdq (v := true) (decide_eq_true (by omega)) rfl⟩⟩ (lt_idx rfl rfl pa1365 und48 ti83) rfl (ts_in 0 0 rfl rfl) ?_
                    refine aa_pure (bs' := [true, true, true, true, true, true, true, true, true, true, true, true, true, true, true, true, true, true, true, true, true, true, false, false, false, false]) 21 rfl (by kernel_rfl) rfl ⟨52, rfl, .inl ⟨_, rfl, gdq (v := true) (decide_eq_true (by omega)) rfl⟩⟩ (lt_fieldAddr 0 rfl fld83_0 rfl) rfl (ts_in 0 0 rfl rfl) ?_
                    refine aa_load (bs' := [true, true, true, true, true, true, true, true, true, true, true, true, true, true, true, true, true, true, true, true, true, true, true, false, false, false]) 22 rfl (by kernel_rfl) rfl ⟨52, rfl, .inl ⟨_, rfl, gdq (v := true) (decide_eq_true (by omega)) rfl⟩⟩ (lt_load_peek 1 rfl ti5 rfl rfl rfl rfl rfl) rfl (ts_in 0 0 rfl rfl) ?_
                    refine aa_pure (bs' := [true, true, true, true, true, true, true, true, true, true, true, true, true, true, true, true, true, true, true, true, true, true, true, true, false, false]) 23 rfl (by kernel_rfl) rfl ⟨52, rfl, .inl ⟨_, rfl, gdq (v := true) (decide_eq_true (by omega)) rfl⟩⟩ (lt_leq rfl rfl) rfl (ts_in 0 0 rfl rfl) ?_
                    refine aa_pure (bs' := [true, true, true, true, true, true, true, true, true, true, true, true, true, true, true, true, true, true, true, true, true, true, true, true, true, false]) 24 rfl (by kernel_rfl) rfl ⟨49, rfl, .inl ⟨_, rfl, gdq (v := false) (nt h1360) rfl⟩⟩ (lt_pick true rfl (decide_eq_true (by omega)) rfl) rfl (ts_in 0 0 rfl rfl) ?_
                    refine aa_pure (bs' := [true, true, true, true, true, true, true, true, true, true, true, true, true, true, true, true, true, true, true, true, true, true, true, true, true, true]) 25 rfl (by kernel_rfl) rfl rfl (lt_pick false rfl (nt h1360) rfl) rfl (ts_in 0 0 rfl rfl) ?_
                    refine aa_done (by kernel_rfl) (ts_in 0 0 rfl rfl) ?_
                    refine at_then ?_
                    by_cases h1366 : x1350.From.toNat ≤ x1362.From.toNat
                    · replace hr := ipos h1366 hr
                      refine at_true rfl (decide_eq_true (by omega)) ?_
                      refine at_seq ?_
                      refine at_region ?_
                      refine at_lt (lt_assign rfl) rfl ?_
                      refine at_nil ?_
                      refine at_then ?_
                      refine at_ret ?_
                      have hq := oinj hr
                      clear hr
                      subst hq
                      have hq := oinj hk1348
                      clear hk1348
                      subst hq
                      refine at_in_ret ?_
                      refine at_then_ret ?_
                      refine at_then_ret ?_
                      refine at_in_ret ?_
                      refine at_then_ret ?_
                      refine at_then_ret ?_
                      exact at_return (.bool false) [] hS Tryz.results55 (.cons (.tmp rfl) .nil) rfl rfl ⟨rfl, rfl⟩
                    · replace hr := ineg h1366 hr
                      refine at_false rfl (decide_eq_false (by omega)) ?_
                      refine at_skip ?_
                      refine at_in ?_
                      refine at_then ?_
                      refine at_region ?_
                      refine at_lt (lt_move rfl) rfl ?_
                      refine at_lt (lt_add rfl rfl (by simp only [lo, hi]; omega)) rfl ?_
                      refine at_lt (lt_assign rfl) rfl ?_
                      refine at_nil ?_
                      refine at_int .i64 (x1345 + 1 : Int) (by simp only [lo, hi]; omega) ?_
                      exact at_again (σ := Nat) (V := Unit) (lp := fun n s => m55_l1 a0 n s) (S := fun s e => (⟨[(1, .pointer (some (Addr.add ⟨b1334, 0, none⟩ 0))), (3, .int .i64 (s : Int))], [⟨b1334, [str a0.From, str a0.To, s1333], 50⟩], [], [((Ty.int .i64).fact (s : Int) [.int .i64 (s : Int)]), (Ty.str.fact a0.From [str a0.From]), (Ty.str.fact a0.To [str a0.To]), ((Ty.slice ty83).fact a0.Codes [s1333])]⟩ : St)) (x1345 + 1) () hr ⟨⟨rfl, ⟨rfl, trivial⟩⟩, ⟨[false, true], rfl⟩, ⟨[], rfl⟩, ⟨[0, 6, 7, 8], rfl⟩⟩
                  · replace hr := ineg h1361 hr
                    refine aa_start 26 (by kernel_rfl) ?_
                    refine aa_pure (bs' := [true, false, false, false, false, false, false, false, false, false, false, false, false, false, false, false, false, false, false, false, false, false, false, false, false, false]) 0 rfl (by kernel_rfl) rfl rfl (lt_fieldAddr 0 rfl fld83_0 rfl) rfl (ts_in 0 0 rfl rfl) ?_
                    refine aa_load (bs' := [true, true, false, false, false, false, false, false, false, false, false, false, false, false, false, false, false, false, false, false, false, false, false, false, false, false]) 1 rfl (by kernel_rfl) rfl rfl (lt_load_box 0 rfl ti5 rfl rfl rfl rfl rfl) rfl (ts_in 0 0 rfl rfl) ?_
                    refine aa_all (rs := [2]) (by kernel_rfl) rfl (ts_in 0 0 rfl rfl) (List.forall_mem_singleton.2 ?_)
                    refine aa_op rfl rfl ?_
                    refine hv_call0 [] (f88_spec h1356) rfl rfl rfl rfl ?_
                    rintro _ _ ⟨rfl, rfl⟩
                    refine aa_pure (bs' := [true, true, true, true, false, false, false, false, false, false, false, false, false, false, false, false, false, false, false, false, false, false, false, false, false, false]) 3 rfl (by kernel_rfl) rfl rfl (lt_not rfl) rfl (ts_in 0 0 rfl rfl) ?_
                    refine aa_pure (bs' := [true, true, true, true, true, false, false, false, false, false, false, false, false, false, false, false, false, false, false, false, false, false, false, false, false, false]) 4 rfl (by kernel_rfl) rfl rfl (lt_move rfl) rfl (ts_in 0 0 rfl rfl) ?_
                    refine aa_pure (bs' := [true, true, true, true, true, true, false, false, false, false, false, false, false, false, false, false, false, false, false, false, false, false, false, false, false, false]) 5 rfl (by kernel_rfl) rfl ⟨43, rfl, .inl ⟨_, rfl, gdq (v := false) (nt h1357) rfl⟩⟩ (lt_fieldAddr 1 rfl fld83_1 rfl) rfl (ts_in 0 0 rfl rfl) ?_
                    refine aa_load (bs' := [true, true, true, true, true, true, true, false, false, false, false, false, false, false, false, false, false, false, false, false, false, false, false, false, false, false]) 6 rfl (by kernel_rfl) rfl ⟨43, rfl, .inl ⟨_, rfl, gdq (v := false) (nt h1357) rfl⟩⟩ (lt_load_box 0 rfl ti5 rfl rfl rfl rfl rfl) rfl (ts_in 0 0 rfl rfl) ?_
                    refine aa_all (rs := [7]) (by kernel_rfl) rfl (ts_in 0 0 rfl rfl) (List.forall_mem_singleton.2 ?_)
                    refine aa_op rfl ⟨43, rfl, .inl ⟨_, rfl, gdq (v := false) (nt h1357) rfl⟩⟩ ?_
                    refine hv_call0 [] (f88_spec h1359) rfl rfl rfl rfl ?_
                    rintro _ _ ⟨rfl, rfl⟩
                    refine aa_pure (bs' := [true, true, true, true, true, true, true, true, true, false, false, false, false, false, false, false, false, false, false, false, false, false, false, false, false, false]) 8 rfl (by kernel_rfl) rfl ⟨43, rfl, .inl ⟨_, rfl, gdq (v := false) (nt h1357) rfl⟩⟩ (lt_not rfl) rfl (ts_in 0 0 rfl rfl) ?_
                    refine aa_pure (bs' := [true, true, true, true, true, true, true, true, true, true, false, false, false, false, false, false, false, false, false, false, false, false, false, false, false, false]) 9 rfl (by kernel_rfl) rfl rfl (lt_pick false rfl (nt h1357) rfl) rfl (ts_in 0 0 rfl rfl) ?_
                    refine aa_pure (bs' := [true, true, true, true, true, true, true, true, true, true, true, false, false, false, false, false, false, false, false, false, false, false, false, false, false, false]) 10 rfl (by kernel_rfl) rfl rfl (lt_move rfl) rfl (ts_in 0 0 rfl rfl) ?_
                    refine aa_pure (bs' := [true, true, true, true, true, true, true, true, true, true, true, true, false, false, false, false, false, false, false, false, false, false, false, false, false, false]) 11 rfl (by kernel_rfl) rfl ⟨49, rfl, .inl ⟨_, rfl, gdq (v := false) (nt h1360) rfl⟩⟩ (lt_move rfl) rfl (ts_in 0 0 rfl rfl) ?_
                    refine aa_pure (bs' := [true, true, true, true, true, true, true, true, true, true, true, true, true, false, false, false, false, false, false, false, false, false, false, false, false, false]) 12 rfl (by kernel_rfl) rfl ⟨49, rfl, .inl ⟨_, rfl, gdq (v := false) (nt h1360) rfl⟩⟩ (lt_gtr rfl rfl) rfl (ts_in 0 0 rfl rfl) ?_
                    refine aa_pure (bs' := [true, true, true, true, true, true, true, true, true, true, true, true, true, true, false, false, false, false, false, false, false, false, false, false, false, false]) 13 rfl (by kernel_rfl) rfl ⟨49, rfl, .inl ⟨_, rfl, gdq (v := false) (nt h1360) rfl⟩⟩ (lt_move rfl) rfl (ts_in 0 0 rfl rfl) ?_
                    refine aa_off (bs' := [true, true, true, true, true, true, true, true, true, true, true, true, true, true, true, false, false, false, false, false, false, false, false, false, false, false]) 14 rfl (by kernel_rfl) rfl ⟨52, rfl, .inl ⟨_, rfl, gdq (v := false) (decide_eq_false (by omega)) rfl⟩⟩ rfl (ts_in 0 0 rfl rfl) ?_
                    refine aa_off (bs' := [true, true, true, true, true, true, true, true, true, true, true, true, true, true, true, true, false, false, false, false, false, false, false, false, false, false]) 15 rfl (by kernel_rfl) rfl ⟨52, rfl, .inl ⟨_, rfl, gdq (v := false) (decide_eq_false (by omega)) rfl⟩⟩ rfl (ts_in 0 0 rfl rfl) ?_
                    refine aa_off (bs' := [true, true, true, true, true, true, true, true, true, true, true, true, true, true, true, true, true, false, false, false, false, false, false, false, false, false]) 16 rfl (by kernel_rfl) rfl ⟨52, rfl, .inl ⟨_, rfl, gdq (v := false) (decide_eq_false (by omega)) rfl⟩⟩ rfl (ts_in 0 0 rfl rfl) ?_
                    refine aa_off (bs' := [true, true, true, true, true, true, true, true, true, true, true, true, true, true, true, true, true, true, false, false, false, false, false, false, false, false]) 17 rfl (by kernel_rfl) rfl ⟨52, rfl, .inl ⟨_, rfl, gdq (v := false) (decide_eq_false (by omega)) rfl⟩⟩ rfl (ts_in 0 0 rfl rfl) ?_
                    refine aa_off (bs' := [true, true, true, true, true, true, true, true, true, true, true, true, true, true, true, true, true, true, true, false, false, false, false, false, false, false]) 18 rfl (by kernel_rfl) rfl ⟨52, rfl, .inl ⟨_, rfl, gdq (v := false) (decide_eq_false (by omega)) rfl⟩⟩ rfl (ts_in 0 0 rfl rfl) ?_
                    refine aa_off (bs' := [true, true, true, true, true, true, true, true, true, true, true, true, true, true, true, true, true, true, true, true, false, false, false, false, false, false]) 19 rfl (by kernel_rfl) rfl ⟨52, rfl, .inl ⟨_, rfl, gdq (v := false) (decide_eq_false (by omega)) rfl⟩⟩ rfl (ts_in 0 0 rfl rfl) ?_
                    refine aa_off (bs' := [true, true, true, true, true, true, true, true, true, true, true, true, true, true, true, true, true, true, true, true, true, false, false, false, false, false]) 20 rfl (by kernel_rfl) rfl ⟨52, rfl, .inl ⟨_, rfl, gdq (v := false) (decide_eq_false (by omega)) rfl⟩⟩ rfl (ts_in 0 0 rfl rfl) ?_
                    refine aa_off (bs' := [true, true, true, true, true, true, true, true, true, true, true, true, true, true, true, true, true, true, true, true, true, true, false, false, false, false]) 21 rfl (by kernel_rfl) rfl ⟨52, rfl, .inl ⟨_, rfl, gdq (v := false) (decide_eq_false (by omega)) rfl⟩⟩ rfl (ts_in 0 0 rfl rfl) ?_
                    refine aa_off (bs' := [true, true, true, true, true, true, true, true, true, true, true, true, true, true, true, true, true, true, true, true, true, true, true, false, false, false]) 22 rfl (by kernel_rfl) rfl ⟨52, rfl, .inl ⟨_, rfl, gdq (v := false) (decide_eq_false (by omega)) rfl⟩⟩ rfl (ts_in 0 0 rfl rfl) ?_
                    refine aa_off (bs' := [true, true, true, true, true, true, true, true, true, true, true, true, true, true, true, true, true, true, true, true, true, true, true, true, false, false]) 23 rfl (by kernel_rfl) rfl ⟨52, rfl, .inl ⟨_, rfl, gdq (v := false) (decide_eq_false (by omega)) rfl⟩⟩ rfl (ts_in 0 0 rfl rfl) ?_
                    refine aa_pure (bs' := [true, true, true, true, true, true, true, true, true, true, true, true, true, true, true, true, true, true, true, true, true, true, true, true, true, false]) 24 rfl (by kernel_rfl) rfl ⟨49, rfl, .inl ⟨_, rfl, gdq (v := false) (nt h1360) rfl⟩⟩ (lt_pick false rfl (decide_eq_false (by omega)) rfl) rfl (ts_in 0 0 rfl rfl) ?_
                    refine aa_pure (bs' := [true, true, true, true, true, true, true, true, true, true, true, true, true, true, true, true, true, true, true, true, true, true, true, true, true, true]) 25 rfl (by kernel_rfl) rfl rfl (lt_pick false rfl (nt h1360) rfl) rfl (ts_in 0 0 rfl rfl) ?_
                    refine aa_done (by kernel_rfl) (ts_in 0 0 rfl rfl) ?_
                    refine at_then ?_
                    refine at_false rfl rfl ?_
                    refine at_skip ?_
                    refine at_in ?_
                    refine at_then ?_
                    refine at_region ?_
                    refine at_lt (lt_move rfl) rfl ?_
                    refine at_lt (lt_add rfl rfl (by simp only [lo, hi]; omega)) rfl ?_
                    refine at_lt (lt_assign rfl) rfl ?_
                    refine at_nil ?_
                    refine at_int .i64 (x1345 + 1 : Int) (by simp only [lo, hi]; omega) ?_
                    exact at_again (σ := Nat) (V := Unit) (lp := fun n s => m55_l1 a0 n s) (S := fun s e => (⟨[(1, .pointer (some (Addr.add ⟨b1334, 0, none⟩ 0))), (3, .int .i64 (s : Int))], [⟨b1334, [str a0.From, str a0.To, s1333], 50⟩], [], [((Ty.int .i64).fact (s : Int) [.int .i64 (s : Int)]), (Ty.str.fact a0.From [str a0.From]), (Ty.str.fact a0.To [str a0.To]), ((Ty.slice ty83).fact a0.Codes [s1333])]⟩ : St)) (x1345 + 1) () hr ⟨⟨rfl, ⟨rfl, trivial⟩⟩, ⟨[false, true], rfl⟩, ⟨[], rfl⟩, ⟨[0, 4, 5, 6], rfl⟩⟩
                · replace hr := ineg h1360 hr
                  refine aa_start 26 (by kernel_rfl) ?_
                  refine aa_pure (bs' := [true, false, false, false, false, false, false, false, false, false, false, false, false, false, false, false, false, false, false, false, false, false, false, false, false, false]) 0 rfl (by kernel_rfl) rfl rfl (lt_fieldAddr 0 rfl fld83_0 rfl) rfl (ts_in 0 0 rfl rfl) ?_
                  refine aa_load (bs' := [true, true, false, false, false, false, false, false, false, false, false, false, false, false, false, false, false, false, false, false, false, false, false, false, false, false]) 1 rfl (by kernel_rfl) rfl rfl (lt_load_box 0 rfl ti5 rfl rfl rfl rfl rfl) rfl (ts_in 0 0 rfl rfl) ?_
                  refine aa_all (rs := [2]) (by kernel_rfl) rfl (ts_in 0 0 rfl rfl) (List.forall_mem_singleton.2 ?_)
                  refine aa_op rfl rfl ?_
                  refine hv_call0 [] (f88_spec h1356) rfl rfl rfl rfl ?_
                  rintro _ _ ⟨rfl, rfl⟩
                  refine aa_pure (bs' := [true, true, true, true, false, false, false, false, false, false, false, false, false, false, false, false, false, false, false, false, false, false, false, false, false, false]) 3 rfl (by kernel_rfl) rfl rfl (lt_not rfl) rfl (ts_in 0 0 rfl rfl) ?_
                  refine aa_pure (bs' := [true, true, true, true, true, false, false, false, false, false, false, false, false, false, false, false, false, false, false, false, false, false, false, false, false, false]) 4 rfl (by kernel_rfl) rfl rfl (lt_move rfl) rfl (ts_in 0 0 rfl rfl) ?_
                  refine aa_pure (bs' := [true, true, true, true, true, true, false, false, false, false, false, false, false, false, false, false, false, false, false, false, false, false, false, false, false, false]) 5 rfl (by kernel_rfl) rfl ⟨43, rfl, .inl ⟨_, rfl, gdq (v := false) (nt h1357) rfl⟩⟩ (lt_fieldAddr 1 rfl fld83_1 rfl) rfl (ts_in 0 0 rfl rfl) ?_
                  refine aa_load (bs' := [true, true, true, true, true, true, true, false, false, false, false, false, false, false, false, false, false, false, false, false, false, false, false, false, false, false]) 6 rfl (by kernel_rfl) rfl ⟨43, rfl, .inl ⟨_, rfl, gdq (v := false) (nt h1357) rfl⟩⟩ (lt_load_box 0 rfl ti5 rfl rfl rfl rfl rfl) rfl (ts_in 0 0 rfl rfl) ?_
                  refine aa_all (rs := [7]) (by kernel_rfl) rfl (ts_in 0 0 rfl rfl) (List.forall_mem_singleton.2 ?_)
                  refine aa_op rfl ⟨43, rfl, .inl ⟨_, rfl, gdq (v := false) (nt h1357) rfl⟩⟩ ?_
                  refine hv_call0 [] (f88_spec h1359) rfl rfl rfl rfl ?_
                  rintro _ _ ⟨rfl, rfl⟩
                  refine aa_pure (bs' := [true, true, true, true, true, true, true, true, true, false, false, false, false, false, false, false, false, false, false, false, false, false, false, false, false, false]) 8 rfl (by kernel_rfl) rfl ⟨43, rfl, .inl ⟨_, rfl, gdq (v := false) (nt h1357) rfl⟩⟩ (lt_not rfl) rfl (ts_in 0 0 rfl rfl) ?_
                  refine aa_pure (bs' := [true, true, true, true, true, true, true, true, true, true, false, false, false, false, false, false, false, false, false, false, false, false, false, false, false, false]) 9 rfl (by kernel_rfl) rfl rfl (lt_pick false rfl (nt h1357) rfl) rfl (ts_in 0 0 rfl rfl) ?_
                  refine aa_pure (bs' := [true, true, true, true, true, true, true, true, true, true, true, false, false, false, false, false, false, false, false, false, false, false, false, false, false, false]) 10 rfl (by kernel_rfl) rfl rfl (lt_move rfl) rfl (ts_in 0 0 rfl rfl) ?_
                  refine aa_off (bs' := [true, true, true, true, true, true, true, true, true, true, true, true, false, false, false, false, false, false, false, false, false, false, false, false, false, false]) 11 rfl (by kernel_rfl) rfl ⟨49, rfl, .inl ⟨_, rfl, gdq (v := true) (nf (bf h1360)) rfl⟩⟩ rfl (ts_in 0 0 rfl rfl) ?_
                  refine aa_off (bs' := [true, true, true, true, true, true, true, true, true, true, true, true, true, false, false, false, false, false, false, false, false, false, false, false, false, false]) 12 rfl (by kernel_rfl) rfl ⟨49, rfl, .inl ⟨_, rfl, gdq (v := true) (nf (bf h1360)) rfl⟩⟩ rfl (ts_in 0 0 rfl rfl) ?_
                  refine aa_off (bs' := [true, true, true, true, true, true, true, true, true, true, true, true, true, true, false, false, false, false, false, false, false, false, false, false, false, false]) 13 rfl (by kernel_rfl) rfl ⟨49, rfl, .inl ⟨_, rfl, gdq (v := true) (nf (bf h1360)) rfl⟩⟩ rfl (ts_in 0 0 rfl rfl) ?_
                  refine aa_off (bs' := [true, true, true, true, true, true, true, true, true, true, true, true, true, true, true, false, false, false, false, false, false, false, false, false, false, false]) 14 rfl (by kernel_rfl) rfl ⟨52, rfl, .inr ⟨rfl, rfl⟩⟩ rfl (ts_in 0 0 rfl rfl) ?_
                  refine aa_off (bs' := [true, true, true, true, true, true, true, true, true, true, true, true, true, true, true, true, false, false, false, false, false, false, false, false, false, false]) 15 rfl (by kernel_rfl) rfl ⟨52, rfl, .inr ⟨rfl, rfl⟩⟩ rfl (ts_in 0 0 rfl rfl) ?_
                  refine aa_off (bs' := [true, true, true, true, true, true, true, true, true, true, true, true, true, true, true, true, true, false, false, false, false, false, false, false, false, false]) 16 rfl (by kernel_rfl) rfl ⟨52, rfl, .inr ⟨rfl, rfl⟩⟩ rfl (ts_in 0 0 rfl rfl) ?_
                  refine aa_off (bs' := [true, true, true, true, true, true, true, true, true, true, true, true, true, true, true, true, true, true, false, false, false, false, false, false, false, false]) 17 rfl (by kernel_rfl) rfl ⟨52, rfl, .inr ⟨rfl, rfl⟩⟩ rfl (ts_in 0 0 rfl rfl) ?_
                  refine aa_off (bs' := [true, true, true, true, true, true, true, true, true, true, true, true, true, true, true, true, true, true, true, false, false, false, false, false, false, false]) 18 rfl (by kernel_rfl) rfl ⟨52, rfl, .inr ⟨rfl, rfl⟩⟩ rfl (ts_in 0 0 rfl rfl) ?_
                  refine aa_off (bs' := [true, true, true, true, true, true, true, true, true, true, true, true, true, true, true, true, true, true, true, true, false, false, false, false, false, false]) 19 rfl (by kernel_rfl) rfl ⟨52, rfl, .inr ⟨rfl, rfl⟩⟩ rfl (ts_in 0 0 rfl rfl) ?_
                  refine aa_off (bs' := [true, true, true, true, true, true, true, true, true, true, true, true, true, true, true, true, true, true, true, true, true, false, false, false, false, false]) 20 rfl (by kernel_rfl) rfl ⟨52, rfl, .inr ⟨rfl, rfl⟩⟩ rfl (ts_in 0 0 rfl rfl) ?_
                  refine aa_off (bs' := [true, true, true, true, true, true, true, true, true, true, true, true, true, true, true, true, true, true, true, true, true, true, false, false, false, false]) 21 rfl (by kernel_rfl) rfl ⟨52, rfl, .inr ⟨rfl, rfl⟩⟩ rfl (ts_in 0 0 rfl rfl) ?_
                  refine aa_off (bs' := [true, true, true, true, true, true, true, true, true, true, true, true, true, true, true, true, true, true, true, true, true, true, true, false, false, false]) 22 rfl (by kernel_rfl) rfl ⟨52, rfl, .inr ⟨rfl, rfl⟩⟩ rfl (ts_in 0 0 rfl rfl) ?_
                  refine aa_off (bs' := [true, true, true, true, true, true, true, true, true, true, true, true, true, true, true, true, true, true, true, true, true, true, true, true, false, false]) 23 rfl (by kernel_rfl) rfl ⟨52, rfl, .inr ⟨rfl, rfl⟩⟩ rfl (ts_in 0 0 rfl rfl) ?_
                  refine aa_off (bs' := [true, true, true, true, true, true, true, true, true, true, true, true, true, true, true, true, true, true, true, true, true, true, true, true, true, false]) 24 rfl (by kernel_rfl) rfl ⟨49, rfl, .inl ⟨_, rfl, gdq (v := true) (nf (bf h1360)) rfl⟩⟩ rfl (ts_in 0 0 rfl rfl) ?_
                  refine aa_pure (bs' := [true, true, true, true, true, true, true, true, true, true, true, true, true, true, true, true, true, true, true, true, true, true, true, true, true, true]) 25 rfl (by kernel_rfl) rfl rfl (lt_pick true rfl (nf (bf h1360)) rfl) rfl (ts_in 0 0 rfl rfl) ?_
                  refine aa_done (by kernel_rfl) (ts_in 0 0 rfl rfl) ?_
                  refine at_then ?_
                  refine at_true rfl rfl ?_
                  refine at_seq ?_
                  refine at_region ?_
                  refine at_lt (lt_assign rfl) rfl ?_
                  refine at_nil ?_
                  refine at_then ?_
                  refine at_ret ?_
                  have hq := oinj hr
                  clear hr
                  subst hq
                  have hq := oinj hk1348
                  clear hk1348
                  subst hq
                  refine at_in_ret ?_
                  refine at_then_ret ?_
                  refine at_then_ret ?_
                  refine at_in_ret ?_
                  refine at_then_ret ?_
                  refine at_then_ret ?_
                  exact at_return (.bool false) [] hS Tryz.results55 (.cons (.tmp rfl) .nil) rfl rfl ⟨rfl, rfl⟩
              · replace hr := ineg h1357 hr
                refine aa_start 26 (by kernel_rfl) ?_
                refine aa_pure (bs' := [true, false, false, false, false, false, false, false, false, false, false, false, false, false, false, false, false, false, false, false, false, false, false, false, false, false]) 0 rfl (by kernel_rfl) rfl rfl (lt_fieldAddr 0 rfl fld83_0 rfl) rfl (ts_in 0 0 rfl rfl) ?_
                refine aa_load (bs' := [true, true, false, false, false, false, false, false, false, false, false, false, false, false, false, false, false, false, false, false, false, false, false, false, false, false]) 1 rfl (by kernel_rfl) rfl rfl (lt_load_box 0 rfl ti5 rfl rfl rfl rfl rfl) rfl (ts_in 0 0 rfl rfl) ?_
                refine aa_all (rs := [2]) (by kernel_rfl) rfl (ts_in 0 0 rfl rfl) (List.forall_mem_singleton.2 ?_)
                refine aa_op rfl rfl ?_
                refine hv_call0 [] (f88_spec h1356) rfl rfl rfl rfl ?_
                rintro _ _ ⟨rfl, rfl⟩
                refine aa_pure (bs' := [true, true, true, true, false, false, false, false, false, false, false, false, false, false, false, false, false, false, false, false, false, false, false, false, false, false]) 3 rfl (by kernel_rfl) rfl rfl (lt_not rfl) rfl (ts_in 0 0 rfl rfl) ?_
                refine aa_pure (bs' := [true, true, true, true, true, false, false, false, false, false, false, false, false, false, false, false, false, false, false, false, false, false, false, false, false, false]) 4 rfl (by kernel_rfl) rfl rfl (lt_move rfl) rfl (ts_in 0 0 rfl rfl) ?_
                refine aa_off (bs' := [true, true, true, true, true, true, false, false, false, false, false, false, false, false, false, false, false, false, false, false, false, false, false, false, false, false]) 5 rfl (by kernel_rfl) rfl ⟨43, rfl, .inl ⟨_, rfl, gdq (v := true) (nf (bf h1357)) rfl⟩⟩ rfl (ts_in 0 0 rfl rfl) ?_
                refine aa_off (bs' := [true, true, true, true, true, true, true, false, false, false, false, false, false, false, false, false, false, false, false, false, false, false, false, false, false, false]) 6 rfl (by kernel_rfl) rfl ⟨43, rfl, .inl ⟨_, rfl, gdq (v := true) (nf (bf h1357)) rfl⟩⟩ rfl (ts_in 0 0 rfl rfl) ?_
                refine aa_off (bs' := [true, true, true, true, true, true, true, true, false, false, false, false, false, false, false, false, false, false, false, false, false, false, false, false, false, false]) 7 rfl (by kernel_rfl) rfl ⟨43, rfl, .inl ⟨_, rfl, gdq (v := true) (nf (bf h1357)) rfl⟩⟩ rfl (ts_in 0 0 rfl rfl) ?_
                refine aa_off (bs' := [true, true, true, true, true, true, true, true, true, false, false, false, false, false, false, false, false, false, false, false, false, false, false, false, false, false]) 8 rfl (by kernel_rfl) rfl ⟨43, rfl, .inl ⟨_, rfl, gdq (v := true) (nf (bf h1357)) rfl⟩⟩ rfl (ts_in 0 0 rfl rfl) ?_
                refine aa_pure (bs' := [true, true, true, true, true, true, true, true, true, true, false, false, false, false, false, false, false, false, false, false, false, false, false, false, false, false]) 9 rfl (by kernel_rfl) rfl rfl (lt_pick true rfl (nf (bf h1357)) rfl) rfl (ts_in 0 0 rfl rfl) ?_
                refine aa_pure (bs' := [true, true, true, true, true, true, true, true, true, true, true, false, false, false, false, false, false, false, false, false, false, false, false, false, false, false]) 10 rfl (by kernel_rfl) rfl rfl (lt_move rfl) rfl (ts_in 0 0 rfl rfl) ?_
                refine aa_off (bs' := [true, true, true, true, true, true, true, true, true, true, true, true, false, false, false, false, false, false, false, false, false, false, false, false, false, false]) 11 rfl (by kernel_rfl) rfl ⟨49, rfl, .inl ⟨_, rfl, gdq (v := true) rfl rfl⟩⟩ rfl (ts_in 0 0 rfl rfl) ?_
                refine aa_off (bs' := [true, true, true, true, true, true, true, true, true, true, true, true, true, false, false, false, false, false, false, false, false, false, false, false, false, false]) 12 rfl (by kernel_rfl) rfl ⟨49, rfl, .inl ⟨_, rfl, gdq (v := true) rfl rfl⟩⟩ rfl (ts_in 0 0 rfl rfl) ?_
                refine aa_off (bs' := [true, true, true, true, true, true, true, true, true, true, true, true, true, true, false, false, false, false, false, false, false, false, false, false, false, false]) 13 rfl (by kernel_rfl) rfl ⟨49, rfl, .inl ⟨_, rfl, gdq (v := true) rfl rfl⟩⟩ rfl (ts_in 0 0 rfl rfl) ?_
                refine aa_off (bs' := [true, true, true, true, true, true, true, true, true, true, true, true, true, true, true, false, false, false, false, false, false, false, false, false, false, false]) 14 rfl (by kernel_rfl) rfl ⟨52, rfl, .inr ⟨rfl, rfl⟩⟩ rfl (ts_in 0 0 rfl rfl) ?_
                refine aa_off (bs' := [true, true, true, true, true, true, true, true, true, true, true, true, true, true, true, true, false, false, false, false, false, false, false, false, false, false]) 15 rfl (by kernel_rfl) rfl ⟨52, rfl, .inr ⟨rfl, rfl⟩⟩ rfl (ts_in 0 0 rfl rfl) ?_
                refine aa_off (bs' := [true, true, true, true, true, true, true, true, true, true, true, true, true, true, true, true, true, false, false, false, false, false, false, false, false, false]) 16 rfl (by kernel_rfl) rfl ⟨52, rfl, .inr ⟨rfl, rfl⟩⟩ rfl (ts_in 0 0 rfl rfl) ?_
                refine aa_off (bs' := [true, true, true, true, true, true, true, true, true, true, true, true, true, true, true, true, true, true, false, false, false, false, false, false, false, false]) 17 rfl (by kernel_rfl) rfl ⟨52, rfl, .inr ⟨rfl, rfl⟩⟩ rfl (ts_in 0 0 rfl rfl) ?_
                refine aa_off (bs' := [true, true, true, true, true, true, true, true, true, true, true, true, true, true, true, true, true, true, true, false, false, false, false, false, false, false]) 18 rfl (by kernel_rfl) rfl ⟨52, rfl, .inr ⟨rfl, rfl⟩⟩ rfl (ts_in 0 0 rfl rfl) ?_
                refine aa_off (bs' := [true, true, true, true, true, true, true, true, true, true, true, true, true, true, true, true, true, true, true, true, false, false, false, false, false, false]) 19 rfl (by kernel_rfl) rfl ⟨52, rfl, .inr ⟨rfl, rfl⟩⟩ rfl (ts_in 0 0 rfl rfl) ?_
                refine aa_off (bs' := [true, true, true, true, true, true, true, true, true, true, true, true, true, true, true, true, true, true, true, true, true, false, false, false, false, false]) 20 rfl (by kernel_rfl) rfl ⟨52, rfl, .inr ⟨rfl, rfl⟩⟩ rfl (ts_in 0 0 rfl rfl) ?_
                refine aa_off (bs' := [true, true, true, true, true, true, true, true, true, true, true, true, true, true, true, true, true, true, true, true, true, true, false, false, false, false]) 21 rfl (by kernel_rfl) rfl ⟨52, rfl, .inr ⟨rfl, rfl⟩⟩ rfl (ts_in 0 0 rfl rfl) ?_
                refine aa_off (bs' := [true, true, true, true, true, true, true, true, true, true, true, true, true, true, true, true, true, true, true, true, true, true, true, false, false, false]) 22 rfl (by kernel_rfl) rfl ⟨52, rfl, .inr ⟨rfl, rfl⟩⟩ rfl (ts_in 0 0 rfl rfl) ?_
                refine aa_off (bs' := [true, true, true, true, true, true, true, true, true, true, true, true, true, true, true, true, true, true, true, true, true, true, true, true, false, false]) 23 rfl (by kernel_rfl) rfl ⟨52, rfl, .inr ⟨rfl, rfl⟩⟩ rfl (ts_in 0 0 rfl rfl) ?_
                refine aa_off (bs' := [true, true, true, true, true, true, true, true, true, true, true, true, true, true, true, true, true, true, true, true, true, true, true, true, true, false]) 24 rfl (by kernel_rfl) rfl ⟨49, rfl, .inl ⟨_, rfl, gdq (v := true) rfl rfl⟩⟩ rfl (ts_in 0 0 rfl rfl) ?_
                refine aa_pure (bs' := [true, true, true, true, true, true, true, true, true, true, true, true, true, true, true, true, true, true, true, true, true, true, true, true, true, true]) 25 rfl (by kernel_rfl) rfl rfl (lt_pick true rfl rfl rfl) rfl (ts_in 0 0 rfl rfl) ?_
                refine aa_done (by kernel_rfl) (ts_in 0 0 rfl rfl) ?_
                refine at_then ?_
                refine at_true rfl rfl ?_
                refine at_seq ?_
                refine at_region ?_
                refine at_lt (lt_assign rfl) rfl ?_
                refine at_nil ?_
                refine at_then ?_
                refine at_ret ?_
                have hq := oinj hr
                clear hr
                subst hq
                have hq := oinj hk1348
                clear hk1348
                subst hq
                refine at_in_ret ?_
                refine at_then_ret ?_
                refine at_then_ret ?_
                refine at_in_ret ?_
                refine at_then_ret ?_
                refine at_then_ret ?_
                exact at_return (.bool false) [] hS Tryz.results55 (.cons (.tmp rfl) .nil) rfl rfl ⟨rfl, rfl⟩
            · replace hr := ineg h1349 hr
              refine at_false rfl (decide_eq_false (by omega)) ?_
              refine at_exit ?_
              refine at_then_exit ?_
              refine at_then_exit ?_
              refine at_in_exit ?_
              have hq := oinj hr
              clear hr
              subst hq
              exact at_leafP ((), ()) rfl ⟨trivial, ⟨[false], rfl⟩, ⟨[], rfl⟩, ⟨[], rfl⟩⟩
          · rintro ⟨_, _⟩ hp
            replace hr := hk1348
            subst hp
            clear hl1347
            change At _ _ (⟨[], [], [], []⟩ : St) _
            refine at_then ?_
            refine at_seq ?_
            refine at_region ?_
            refine at_lt (lt_assign rfl) rfl ?_
            refine at_nil ?_
            refine at_then ?_
            refine at_ret ?_
            have hq := oinj hr
            clear hr
            subst hq
            exact at_return (.bool true) [] hS Tryz.results55 (.cons (.tmp rfl) .nil) rfl rfl ⟨rfl, rfl⟩
    · replace hr := ineg h1340 hr
      refine at_off rfl rfl (nf (bf h1340)) rfl ?_
      refine at_off rfl rfl (nf (bf h1340)) rfl ?_
      refine at_off rfl rfl (nf (bf h1340)) rfl ?_
      refine at_off rfl rfl (nf (bf h1340)) rfl ?_
      refine at_lt (lt_pick true rfl (nf (bf h1340)) rfl) rfl ?_
      refine at_lt (lt_move rfl) rfl ?_
      refine at_off rfl rfl rfl rfl ?_
      refine at_off rfl rfl rfl rfl ?_
      refine at_off rfl rfl rfl rfl ?_
      refine at_off rfl rfl rfl rfl ?_
      refine at_lt (lt_pick true rfl rfl rfl) rfl ?_
      refine at_nil ?_
      refine at_then ?_
      refine at_true rfl rfl ?_
      refine at_seq ?_
      refine at_region ?_
      refine at_lt (lt_assign rfl) rfl ?_
      refine at_nil ?_
      refine at_then ?_
      refine at_ret ?_
      have hq := oinj hr
      clear hr
      subst hq
      refine at_then_ret ?_
      exact at_return (.bool false) [] hS Tryz.results55 (.cons (.tmp rfl) .nil) rfl rfl ⟨rfl, rfl⟩
  · replace hr := ineg h1337 hr
    refine at_off rfl rfl (nf (bf h1337)) rfl ?_
    refine at_off rfl rfl (nf (bf h1337)) rfl ?_
    refine at_off rfl rfl (nf (bf h1337)) rfl ?_
    refine at_off rfl rfl (nf (bf h1337)) rfl ?_
    refine at_lt (lt_pick true rfl (nf (bf h1337)) rfl) rfl ?_
    refine at_lt (lt_move rfl) rfl ?_
    refine at_off rfl rfl rfl rfl ?_
    refine at_off rfl rfl rfl rfl ?_
    refine at_off rfl rfl rfl rfl ?_
    refine at_off rfl rfl rfl rfl ?_
    refine at_lt (lt_pick true rfl rfl rfl) rfl ?_
    refine at_lt (lt_move rfl) rfl ?_
    refine at_off rfl rfl rfl rfl ?_
    refine at_off rfl rfl rfl rfl ?_
    refine at_off rfl rfl rfl rfl ?_
    refine at_off rfl rfl rfl rfl ?_
    refine at_lt (lt_pick true rfl rfl rfl) rfl ?_
    refine at_nil ?_
    refine at_then ?_
    refine at_true rfl rfl ?_
    refine at_seq ?_
    refine at_region ?_
    refine at_lt (lt_assign rfl) rfl ?_
    refine at_nil ?_
    refine at_then ?_
    refine at_ret ?_
    have hq := oinj hr
    clear hr
    subst hq
    refine at_then_ret ?_
    exact at_return (.bool false) [] hS Tryz.results55 (.cons (.tmp rfl) .nil) rfl rfl ⟨rfl, rfl⟩
end Go.WK.S
