
/- What functions of this program compute: a model of each, and the proof that it is kept. -/
import Derived.Test.YteljaomifdnkkaaGreatDoorLinesF02
import Derived.KernelRfl
set_option linter.unusedSimpArgs false
set_option linter.unusedVariables false
namespace Go.WK.S
open Go Go.Proofs Go.WK Go.RowKit
set_option linter.unusedVariables false
set_option maxRecDepth 100000
set_option maxHeartbeats 4000000
def m4_l1 (x958 : (D_api_Record × Int × Int)) (x966 : ((List Str) × Str)) : Nat → Str → Nat → Option Str
  | 0, _, _ => none
  | k + 1, x975, x976 =>
    if (x976 : Int) < x958.2.1 then
     (x966.1[x976]?).bind fun x981 =>
     if x981.length + ([10] : Str).length ≤ 9223372036854775807 then
      if x975.length + (x981 ++ ([10] : Str)).length ≤ 9223372036854775807 then
       if x976 + 1 ≤ 9223372036854775807 then
        m4_l1 x958 x966 k (x975 ++ (x981 ++ ([10] : Str))) (x976 + 1)
       else none
      else none
     else none
    else
     some x975
def m4 (a0 : Str) (a1 : Str) : Option Bool :=
  (m11).bind fun x951 =>
  if x951 = true then
   if 400 < a0.length then
    some true
   else
    if 200 < a1.length then
     some true
    else
     (m15 a0).bind fun x958 =>
     (m18 a0).bind fun x966 =>
     if x958.2.2 = 0 then
      some true
     else
      if (x966.1.length : Int) ≤ x958.2.1 then
       some (decide (x958.2.1 = (x966.1.length : Int)))
      else
       if 400 < x966.2.length then
        some (decide (x958.2.1 = (x966.1.length : Int)))
       else
        (m4_l1 x958 x966 9223372036854775808 ([] : Str) 0).bind fun x977 =>
        (at? x966.1 x958.2.1).bind fun x990 =>
        if x977.length + x990.length ≤ 9223372036854775807 then
         if (x977 ++ x990).length + ([10] : Str).length ≤ 9223372036854775807 then
          if (x977 ++ x990 ++ ([10] : Str)).length + a1.length ≤ 9223372036854775807 then
           (m15 (x977 ++ x990 ++ ([10] : Str) ++ a1)).bind fun x997 =>
           if x997.2.1 = x958.2.1 then
            if x997.2.2 = 7 then
             if x958.2.1 = 0 then
              some true
             else
              if (8 : Int) < x958.2.1 then
               some true
              else
               if x977.length + ([57, 57, 57, 32, 95, 95, 32, 36, 97, 32, 120, 10] : Str).length ≤ 9223372036854775807 then
                (m15 (x977 ++ ([57, 57, 57, 32, 95, 95, 32, 36, 97, 32, 120, 10] : Str))).bind fun x1010 =>
                if x1010.2.2 = 0 then
                 some (decide ((x1010.1.Fields.length : Int) = x958.2.1))
                else
                 some false
               else none
            else
             some false
           else
            some false
          else none
         else none
        else none
  else
   some false
def post4 (r : Bool) (v : Value) (fs : List Fact) : Prop := v = .bool r ∧ fs = []
theorem en4 : Enters Tryz.prog 4 := ⟨_, Tryz.func4, by kernel_rfl, rfl⟩
theorem f4_spec {a0 : Str} {a1 : Str} {r : Bool} (hr : m4 a0 a1 = some r) : Spec Tryz.prog 4 [str a0, str a1] [(Ty.str.fact a0 [str a0]), (Ty.str.fact a1 [str a1]), (tabsF Tryz.prog 4 5)] (post4 r) := by
 refine spec_start (N := 115) Tryz.func4 (by kernel_rfl) rfl rfl rfl ?_
 intro g hS
 unfold m4 at hr
 refine s_sr (s_as rfl (s_nt (at_seq (s_sr ?_))))
 replace hr := obind hr
 obtain ⟨x951, h952, hr⟩ := hr
 refine at_hv rfl (hv_call0 [2] (f11_spec h952) rfl rfl rfl rfl ?_)
 rintro _ _ ⟨rfl, rfl⟩
 refine at_lt (lt_not rfl) rfl (s_nt ?_)
 by_cases h953 : x951 = true
 ·replace hr := ipos h953 hr
  refine at_false rfl (nt h953) (at_skip (at_then (at_seq (s_sr (s_mv rfl ?_)))))
  refine at_inv 0 rfl (fun l954 => ?_)
  replace l954 : a0.length ≤ 9223372036854775807 := l954
  refine at_lt (lt_slen rfl und9) rfl (at_lt (lt_gtr rfl rfl) rfl (s_mv rfl ?_))
  by_cases h955 : 400 < a0.length
  ·replace hr := ipos h955 hr
   refine at_off rfl rfl (decide_eq_true (by omega)) rfl ?_
   refine at_off rfl rfl (decide_eq_true (by omega)) rfl ?_
   refine at_off rfl rfl (decide_eq_true (by omega)) rfl ?_
   refine at_lt (lt_pick true rfl (decide_eq_true (by omega)) rfl) rfl ?_
   refine s_nt (at_true rfl rfl (s_sr (s_as rfl (s_nt (at_ret ?_)))))
   have hq := oinj hr
   clear hr
   subst hq
   refine at_then_ret ?_
   exact at_return (.bool true) [] hS Tryz.results4 (.cons (.tmp rfl) .nil) rfl rfl ⟨rfl, rfl⟩
  replace hr := ineg h955 hr
  refine at_on rfl rfl (decide_eq_false (by omega)) ?_
  refine s_mv rfl ?_
  refine at_inv 1 rfl (fun l956 => ?_)
  replace l956 : a1.length ≤ 9223372036854775807 := l956
  refine at_on rfl rfl (decide_eq_false (by omega)) ?_
  refine at_lt (lt_slen rfl und9) rfl ?_
  refine at_on rfl rfl (decide_eq_false (by omega)) ?_
  refine at_lt (lt_gtr rfl rfl) rfl ?_
  refine at_lt (lt_pick false rfl (decide_eq_false (by omega)) rfl) rfl ?_
  refine s_nt ?_
  by_cases h957 : 200 < a1.length
  ·replace hr := ipos h957 hr
   refine at_true rfl (decide_eq_true (by omega)) ?_
   refine s_sr (s_as rfl (s_nt (at_ret ?_)))
   have hq := oinj hr
   clear hr
   subst hq
   refine at_then_ret ?_
   exact at_return (.bool true) [] hS Tryz.results4 (.cons (.tmp rfl) .nil) rfl rfl ⟨rfl, rfl⟩
  replace hr := ineg h957 hr
  refine at_false rfl (decide_eq_false (by omega)) ?_
  refine at_skip (s_tsr (s_mv rfl ?_))
  replace hr := obind hr
  obtain ⟨x958, h959, hr⟩ := hr
  refine at_hv rfl (hv_call0 [0, 2] (f15_spec h959) rfl rfl rfl rfl ?_)
  rintro _ _ ⟨s960, rfl, rfl⟩
  refine at_open (A := Unit) 0 rfl (fun _ => True) (fun _ => [((Ty.int .i64).fact x958.1.ID [.int .i64 x958.1.ID]), ((Ty.slice ty59).fact x958.1.Fields [s960])]) (fun F w h => ⟨(), trivial, ex24 h⟩) (fun _ _ => ?_)
  refine at_inv 0 rfl (fun l961 => ?_)
  replace l961 : (-9223372036854775808) ≤ x958.1.ID ∧ x958.1.ID ≤ 9223372036854775807 := l961
  refine at_inv 3 rfl (fun l962 => ?_)
  replace l962 : (-9223372036854775808) ≤ x958.2.1 ∧ x958.2.1 ≤ 9223372036854775807 := l962
  refine at_inv 4 rfl (fun l963 => ?_)
  replace l963 : (-9223372036854775808) ≤ x958.2.2 ∧ x958.2.2 ≤ 9223372036854775807 := l963
  refine s_mv rfl (at_lt (lt_extract rfl rfl) rfl (at_lt (lt_extract rfl rfl) rfl (at_lt (lt_extract rfl rfl) rfl (at_hv rfl ?_))))
  refine hv_alloc (cs := [.int .i64 0, (.slice none 0 0)]) ti24 rfl rfl (fun b964 => ?_)
  refine at_one 1 rfl (fun ho965 => ?_)
  refine at_hv rfl (hv_store_box 0 (cs' := [.int .i64 x958.1.ID, s960]) rfl rfl ti24 rfl rfl rfl rfl (allc rfl (allc ho965 rfl)) (s_as rfl (s_as rfl (s_ntsr (s_mv rfl ?_)))))
  replace hr := obind hr
  obtain ⟨x966, h967, hr⟩ := hr
  refine at_hv rfl (hv_call0 [5] (f18_spec h967) rfl rfl rfl rfl ?_)
  rintro _ _ ⟨s968, rfl, rfl⟩
  refine s_mv rfl (at_lt (lt_extract rfl rfl) rfl (at_lt (lt_extract rfl rfl) rfl (s_as rfl (s_as rfl (s_nt (at_seq (s_sr (s_mv rfl (at_lt (lt_eql rfl rfl) rfl ?_)))))))))
  refine s_mv rfl ?_
  by_cases h969 : x958.2.2 = 0
  ·replace hr := ipos h969 hr
   refine at_off rfl rfl (decide_eq_true (by first | exact h969 | omega)) rfl ?_
   refine at_off rfl rfl (decide_eq_true (by first | exact h969 | omega)) rfl ?_
   refine at_off rfl rfl (decide_eq_true (by first | exact h969 | omega)) rfl ?_
   refine at_off rfl rfl (decide_eq_true (by first | exact h969 | omega)) rfl ?_
   refine at_lt (lt_pick true rfl (decide_eq_true (by first | exact h969 | omega)) rfl) rfl ?_
   refine s_mv rfl (at_off rfl rfl rfl rfl (at_off rfl rfl rfl rfl (at_off rfl rfl rfl rfl (at_lt (lt_pick true rfl rfl rfl) rfl (s_nt (at_true rfl rfl (s_sr (s_mv rfl (at_lt (lt_eql rfl rfl) rfl ?_)))))))))
   refine s_mv rfl ?_
   refine at_off rfl rfl (decide_eq_true (by first | exact h969 | omega)) rfl ?_
   refine at_off rfl rfl (decide_eq_true (by first | exact h969 | omega)) rfl ?_
   refine at_off rfl rfl (decide_eq_true (by first | exact h969 | omega)) rfl ?_
   refine at_off rfl rfl (decide_eq_true (by first | exact h969 | omega)) rfl ?_
   refine at_lt (lt_pick true rfl (decide_eq_true (by first | exact h969 | omega)) rfl) rfl ?_
   refine s_as rfl (s_nt (at_ret ?_))
   have hq := oinj hr
   clear hr
   subst hq
   refine at_then_ret ?_
   exact at_return (.bool true) [] hS Tryz.results4 (.cons (.tmp rfl) .nil) rfl rfl ⟨rfl, rfl⟩
  replace hr := ineg h969 hr
  refine at_on rfl rfl (decide_eq_false (by first | exact h969 | omega)) ?_
  refine s_mv rfl ?_
  refine at_on rfl rfl (decide_eq_false (by first | exact h969 | omega)) ?_
  refine s_mv rfl ?_
  refine at_inv 0 rfl (fun i970 => ?_)
  have l971 := slice_len i970
  refine at_on rfl rfl (decide_eq_false (by first | exact h969 | omega)) ?_
  refine at_lt (lt_flen 0 rfl rfl und34) rfl ?_
  refine at_on rfl rfl (decide_eq_false (by first | exact h969 | omega)) ?_
  refine at_lt (lt_geq rfl rfl) rfl ?_
  refine at_lt (lt_pick false rfl (decide_eq_false (by first | exact h969 | omega)) rfl) rfl ?_
  refine s_mv rfl ?_
  by_cases h972 : (x966.1.length : Int) ≤ x958.2.1
  ·replace hr := ipos h972 hr
   refine at_off rfl rfl (decide_eq_true (by first | exact h972 | omega)) rfl ?_
   refine at_off rfl rfl (decide_eq_true (by first | exact h972 | omega)) rfl ?_
   refine at_off rfl rfl (decide_eq_true (by first | exact h972 | omega)) rfl ?_
   refine at_lt (lt_pick true rfl (decide_eq_true (by first | exact h972 | omega)) rfl) rfl ?_
   refine s_nt (at_true rfl rfl (s_sr (s_mv rfl (at_lt (lt_eql rfl rfl) rfl (s_mv rfl ?_)))))
   refine at_on rfl rfl (decide_eq_false (by first | exact h969 | omega)) ?_
   refine s_mv rfl ?_
   refine at_on rfl rfl (decide_eq_false (by first | exact h969 | omega)) ?_
   refine s_mv rfl ?_
   refine at_on rfl rfl (decide_eq_false (by first | exact h969 | omega)) ?_
   refine at_lt (lt_flen 0 rfl rfl und34) rfl ?_
   refine at_on rfl rfl (decide_eq_false (by first | exact h969 | omega)) ?_
   refine at_lt (lt_eql rfl rfl) rfl ?_
   refine at_lt (lt_pick false rfl (decide_eq_false (by first | exact h969 | omega)) rfl) rfl ?_
   refine s_as rfl (s_nt (at_ret ?_))
   have hq := oinj hr
   clear hr
   subst hq
   refine at_then_ret ?_
   exact at_return (.bool (decide (x958.2.1 = (x966.1.length : Int)))) [] hS Tryz.results4 (.cons (.tmp rfl) .nil) rfl rfl ⟨rfl, rfl⟩
  replace hr := ineg h972 hr
  refine at_on rfl rfl (decide_eq_false (by first | exact h972 | omega)) ?_
  refine s_mv rfl ?_
  refine at_inv 1 rfl (fun l973 => ?_)
  replace l973 : x966.2.length ≤ 9223372036854775807 := l973
  refine at_on rfl rfl (decide_eq_false (by first | exact h972 | omega)) ?_
  refine at_lt (lt_slen rfl und9) rfl ?_
  refine at_on rfl rfl (decide_eq_false (by first | exact h972 | omega)) ?_
  refine at_lt (lt_gtr rfl rfl) rfl ?_
  refine at_lt (lt_pick false rfl (decide_eq_false (by first | exact h972 | omega)) rfl) rfl ?_
  refine s_nt ?_
  by_cases h974 : 400 < x966.2.length
  ·replace hr := ipos h974 hr
   refine at_true rfl (decide_eq_true (by omega)) ?_
   refine s_sr (s_mv rfl (at_lt (lt_eql rfl rfl) rfl (s_mv rfl ?_)))
   refine at_on rfl rfl (decide_eq_false (by first | exact h969 | omega)) ?_
   refine s_mv rfl ?_
   refine at_on rfl rfl (decide_eq_false (by first | exact h969 | omega)) ?_
   refine s_mv rfl ?_
   refine at_on rfl rfl (decide_eq_false (by first | exact h969 | omega)) ?_
   refine at_lt (lt_flen 0 rfl rfl und34) rfl ?_
   refine at_on rfl rfl (decide_eq_false (by first | exact h969 | omega)) ?_
   refine at_lt (lt_eql rfl rfl) rfl ?_
   refine at_lt (lt_pick false rfl (decide_eq_false (by first | exact h969 | omega)) rfl) rfl ?_
   refine s_as rfl (s_nt (at_ret ?_))
   have hq := oinj hr
   clear hr
   subst hq
   refine at_then_ret ?_
   exact at_return (.bool (decide (x958.2.1 = (x966.1.length : Int)))) [] hS Tryz.results4 (.cons (.tmp rfl) .nil) rfl rfl ⟨rfl, rfl⟩
  replace hr := ineg h974 hr
  refine at_false rfl (decide_eq_false (by omega)) ?_
  refine at_skip (s_tsr (s_as rfl (s_nt (at_seq (s_sr (s_as rfl (s_nt ?_)))))))
  refine at_str ([] : Str) (by decide) ?_
  refine at_int .i64 0 (by simp only [lo, hi]; omega) ?_
  replace hr := obind hr
  obtain ⟨x977, hl978, hr⟩ := hr
  refine at_cut (V := Unit) (fun e => (⟨[(1, str a1), (6, .int .i64 x958.2.1), (8, s968), (10, str x977)], [], [], [(Ty.str.fact x977 [str x977]), (Ty.str.fact a1 [str a1]), ((Ty.int .i64).fact x958.2.1 [.int .i64 x958.2.1]), ((Ty.slice Ty.str).fact x966.1 [s968]), (tabsF Tryz.prog 4 5)]⟩ : St)) ?_ ?_
  ·refine at_block ?_
   refine at_loopW (σ := (Str × Nat)) (V := Unit) (r := x977) (fun n s => m4_l1 x958 x966 n s.1 s.2) (fun s e => (⟨[(1, str a1), (6, .int .i64 x958.2.1), (8, s968), (10, str s.1), (11, .int .i64 (s.2 : Int))], [], [], [(Ty.str.fact s.1 [str s.1]), ((Ty.int .i64).fact (s.2 : Int) [.int .i64 (s.2 : Int)]), (Ty.str.fact a1 [str a1]), ((Ty.int .i64).fact x958.2.1 [.int .i64 x958.2.1]), ((Ty.slice Ty.str).fact x966.1 [s968]), (tabsF Tryz.prog 4 5)]⟩ : St)) (fun _ => rfl) _ (([] : Str), 0) () hl978 ⟨⟨rfl, ⟨rfl, ⟨rfl, ⟨rfl, ⟨rfl, trivial⟩⟩⟩⟩⟩, ⟨[false], rfl⟩, ⟨[], rfl⟩, ⟨[1, 0, 10, 7, 2, 11], rfl⟩⟩ ?_
   clear hr hl978
   intro n s hr e
   obtain ⟨x975, x976⟩ := s
   skip
   change m4_l1 x958 x966 (n + 1) x975 x976 = some x977 at hr
   change At _ _ (⟨[(1, str a1), (6, .int .i64 x958.2.1), (8, s968), (10, str x975), (11, .int .i64 (x976 : Int))], [], [], [(Ty.str.fact x975 [str x975]), ((Ty.int .i64).fact (x976 : Int) [.int .i64 (x976 : Int)]), (Ty.str.fact a1 [str a1]), ((Ty.int .i64).fact x958.2.1 [.int .i64 x958.2.1]), ((Ty.slice Ty.str).fact x966.1 [s968]), (tabsF Tryz.prog 4 5)]⟩ : St) _
   rw [m4_l1] at hr
   refine at_seq (s_sr (s_mv rfl (s_mv rfl (at_lt (lt_lss rfl rfl) rfl (s_nt ?_)))))
   by_cases h980 : (x976 : Int) < x958.2.1
   ·replace hr := ipos h980 hr
    refine at_true rfl (decide_eq_true (by first | exact h980 | omega)) ?_
    refine at_skip (at_then (at_seq (at_block (at_region (s_mv rfl (s_mv rfl (s_mv rfl ?_)))))))
    replace hr := obind hr
    obtain ⟨x981, h982, hr⟩ := hr
    have := (List.getElem?_eq_some_iff.1 h982).1
    refine at_elem 4 rfl (nat_at' h982) (fun p983 ec pa984 => ?_)
    refine at_open (A := Unit) 0 rfl (fun _ => ec = [str x981]) (fun _ => []) (fun F w h => ⟨(), h.1, by simp⟩) ?_
    rintro _ rfl
    refine at_lt (lt_idx rfl rfl pa984 und34 ti9) rfl (at_lt (lt_load_peek 1 rfl ti9 rfl rfl rfl rfl rfl) rfl ?_)
    replace hr := imust hr
    obtain ⟨h985, hr⟩ := hr
    refine at_lt (lt_sadd rfl rfl h985) rfl ?_
    replace hr := imust hr
    obtain ⟨h986, hr⟩ := hr
    refine at_lt (lt_sadd rfl rfl h986) rfl (s_as rfl (at_nil (at_in (s_tr (s_mv rfl ?_)))))
    replace hr := imust hr
    obtain ⟨h987, hr⟩ := hr
    refine at_inv 0 rfl (fun l988 => ?_)
    replace l988 : x981.length ≤ 9223372036854775807 := l988
    refine at_inv 2 rfl (fun l989 => ?_)
    replace l989 : x975.length ≤ 9223372036854775807 := l989
    refine at_lt (lt_add rfl rfl (by simp only [lo, hi]; omega)) rfl (s_as rfl (at_nil ?_))
    refine at_str (x975 ++ (x981 ++ ([10] : Str))) (by rw [List.length_append]; exact h986) ?_
    refine at_int .i64 (x976 + 1 : Int) (by simp only [lo, hi]; omega) ?_
    exact at_again (σ := (Str × Nat)) (V := Unit) (lp := fun n s => m4_l1 x958 x966 n s.1 s.2) (S := fun s e => (⟨[(1, str a1), (6, .int .i64 x958.2.1), (8, s968), (10, str s.1), (11, .int .i64 (s.2 : Int))], [], [], [(Ty.str.fact s.1 [str s.1]), ((Ty.int .i64).fact (s.2 : Int) [.int .i64 (s.2 : Int)]), (Ty.str.fact a1 [str a1]), ((Ty.int .i64).fact x958.2.1 [.int .i64 x958.2.1]), ((Ty.slice Ty.str).fact x966.1 [s968]), (tabsF Tryz.prog 4 5)]⟩ : St)) (x975 ++ (x981 ++ ([10] : Str)), x976 + 1) () hr ⟨⟨rfl, ⟨rfl, ⟨rfl, ⟨rfl, ⟨rfl, trivial⟩⟩⟩⟩⟩, ⟨[], rfl⟩, ⟨[], rfl⟩, ⟨[1, 0, 6, 7, 8, 9], rfl⟩⟩
   replace hr := ineg h980 hr
   refine at_false rfl (decide_eq_false (by first | exact h980 | omega)) ?_
   refine at_exit (at_then_exit (at_then_exit (at_in_exit ?_)))
   have hq := oinj hr
   clear hr
   subst hq
   exact at_leaf () ⟨⟨rfl, ⟨rfl, ⟨rfl, ⟨rfl, trivial⟩⟩⟩⟩, ⟨[], rfl⟩, ⟨[], rfl⟩, ⟨[0, 2, 3, 4, 5], rfl⟩⟩
  clear hl978
  intro e
  change At _ _ (⟨[(1, str a1), (6, .int .i64 x958.2.1), (8, s968), (10, str x977)], [], [], [(Ty.str.fact x977 [str x977]), (Ty.str.fact a1 [str a1]), ((Ty.int .i64).fact x958.2.1 [.int .i64 x958.2.1]), ((Ty.slice Ty.str).fact x966.1 [s968]), (tabsF Tryz.prog 4 5)]⟩ : St) _
  refine s_tsr (s_mv rfl (s_mv rfl (s_mv rfl ?_)))
  replace hr := obind hr
  obtain ⟨x990, h991, hr⟩ := hr
  have := at?_lt h991
  refine at_elem 3 rfl h991 (fun p992 ec pa993 => ?_)
  refine at_open (A := Unit) 0 rfl (fun _ => ec = [str x990]) (fun _ => []) (fun F w h => ⟨(), h.1, by simp⟩) ?_
  rintro _ rfl
  refine at_lt (lt_idx rfl rfl pa993 und34 ti9) rfl (at_lt (lt_load_peek 1 rfl ti9 rfl rfl rfl rfl rfl) rfl ?_)
  replace hr := imust hr
  obtain ⟨h994, hr⟩ := hr
  refine at_lt (lt_sadd rfl rfl h994) rfl ?_
  replace hr := imust hr
  obtain ⟨h995, hr⟩ := hr
  refine at_lt (lt_sadd rfl rfl h995) rfl (s_mv rfl ?_)
  replace hr := imust hr
  obtain ⟨h996, hr⟩ := hr
  refine at_lt (lt_sadd rfl rfl h996) rfl ?_
  replace hr := obind hr
  obtain ⟨x997, h998, hr⟩ := hr
  refine at_str (x977 ++ x990 ++ ([10] : Str) ++ a1) (by rw [List.length_append]; exact h996) ?_
  refine at_hv rfl (hv_call0 [0, 7] (f15_spec h998) rfl rfl rfl rfl ?_)
  rintro _ _ ⟨s999, rfl, rfl⟩
  refine at_open (A := Unit) 0 rfl (fun _ => True) (fun _ => [((Ty.int .i64).fact x997.1.ID [.int .i64 x997.1.ID]), ((Ty.slice ty59).fact x997.1.Fields [s999])]) (fun F w h => ⟨(), trivial, ex24 h⟩) (fun _ _ => ?_)
  refine at_inv 0 rfl (fun l1000 => ?_)
  replace l1000 : (-9223372036854775808) ≤ x997.1.ID ∧ x997.1.ID ≤ 9223372036854775807 := l1000
  refine at_inv 3 rfl (fun l1001 => ?_)
  replace l1001 : (-9223372036854775808) ≤ x997.2.1 ∧ x997.2.1 ≤ 9223372036854775807 := l1001
  refine at_inv 4 rfl (fun l1002 => ?_)
  replace l1002 : (-9223372036854775808) ≤ x997.2.2 ∧ x997.2.2 ≤ 9223372036854775807 := l1002
  refine s_mv rfl (at_lt (lt_extract rfl rfl) rfl (at_lt (lt_extract rfl rfl) rfl (at_lt (lt_extract rfl rfl) rfl (at_hv rfl ?_))))
  refine hv_alloc (cs := [.int .i64 0, (.slice none 0 0)]) ti24 rfl rfl (fun b1003 => ?_)
  refine at_one 1 rfl (fun ho1004 => ?_)
  refine at_hv rfl (hv_store_box 0 (cs' := [.int .i64 x997.1.ID, s999]) rfl rfl ti24 rfl rfl rfl rfl (allc rfl (allc ho1004 rfl)) (s_as rfl (s_as rfl (s_nt (at_seq (s_sr (s_mv rfl (s_mv rfl (at_lt (lt_neq rfl rfl) rfl ?_)))))))))
  refine s_mv rfl ?_
  by_cases h1005 : x997.2.1 = x958.2.1
  ·replace hr := ipos h1005 hr
   refine at_on rfl rfl (nt (decide_eq_true (by first | exact h1005 | omega))) ?_
   refine s_mv rfl ?_
   refine at_on rfl rfl (nt (decide_eq_true (by first | exact h1005 | omega))) ?_
   refine at_lt (lt_neq rfl rfl) rfl ?_
   refine at_lt (lt_pick false rfl (nt (decide_eq_true (by first | exact h1005 | omega))) rfl) rfl ?_
   refine s_nt ?_
   by_cases h1006 : x997.2.2 = 7
   ·replace hr := ipos h1006 hr
    refine at_false rfl (nt (decide_eq_true (by first | exact h1006 | omega))) ?_
    refine at_skip (at_then (at_seq (s_sr (s_mv rfl (at_lt (lt_eql rfl rfl) rfl (s_mv rfl ?_))))))
    by_cases h1007 : x958.2.1 = 0
    ·replace hr := ipos h1007 hr
     refine at_off rfl rfl (decide_eq_true (by first | exact h1007 | omega)) rfl ?_
     refine at_off rfl rfl (decide_eq_true (by first | exact h1007 | omega)) rfl ?_
     refine at_lt (lt_pick true rfl (decide_eq_true (by first | exact h1007 | omega)) rfl) rfl ?_
     refine s_nt (at_true rfl rfl (s_sr (s_as rfl (s_nt (at_ret ?_)))))
     have hq := oinj hr
     clear hr
     subst hq
     refine at_then_ret ?_
     exact at_return (.bool true) [] hS Tryz.results4 (.cons (.tmp rfl) .nil) rfl rfl ⟨rfl, rfl⟩
    replace hr := ineg h1007 hr
    refine at_on rfl rfl (decide_eq_false (by first | exact h1007 | omega)) ?_
    refine s_mv rfl ?_
    refine at_on rfl rfl (decide_eq_false (by first | exact h1007 | omega)) ?_
    refine at_lt (lt_gtr rfl rfl) rfl ?_
    refine at_lt (lt_pick false rfl (decide_eq_false (by first | exact h1007 | omega)) rfl) rfl ?_
    refine s_nt ?_
    by_cases h1008 : (8 : Int) < x958.2.1
    ·replace hr := ipos h1008 hr
     refine at_true rfl (decide_eq_true (by first | exact h1008 | omega)) ?_
     refine s_sr (s_as rfl (s_nt (at_ret ?_)))
     have hq := oinj hr
     clear hr
     subst hq
     refine at_then_ret ?_
     exact at_return (.bool true) [] hS Tryz.results4 (.cons (.tmp rfl) .nil) rfl rfl ⟨rfl, rfl⟩
    replace hr := ineg h1008 hr
    refine at_false rfl (decide_eq_false (by first | exact h1008 | omega)) ?_
    refine at_skip (s_tsr (s_mv rfl ?_))
    replace hr := imust hr
    obtain ⟨h1009, hr⟩ := hr
    refine at_lt (lt_sadd rfl rfl h1009) rfl ?_
    replace hr := obind hr
    obtain ⟨x1010, h1011, hr⟩ := hr
    refine at_str (x977 ++ ([57, 57, 57, 32, 95, 95, 32, 36, 97, 32, 120, 10] : Str)) (by rw [List.length_append]; exact h1009) ?_
    refine at_hv rfl (hv_call0 [0, 13] (f15_spec h1011) rfl rfl rfl rfl ?_)
    rintro _ _ ⟨s1012, rfl, rfl⟩
    refine at_open (A := Unit) 0 rfl (fun _ => True) (fun _ => [((Ty.int .i64).fact x1010.1.ID [.int .i64 x1010.1.ID]), ((Ty.slice ty59).fact x1010.1.Fields [s1012])]) (fun F w h => ⟨(), trivial, ex24 h⟩) (fun _ _ => ?_)
    refine at_inv 0 rfl (fun l1013 => ?_)
    replace l1013 : (-9223372036854775808) ≤ x1010.1.ID ∧ x1010.1.ID ≤ 9223372036854775807 := l1013
    refine at_inv 3 rfl (fun l1014 => ?_)
    replace l1014 : (-9223372036854775808) ≤ x1010.2.1 ∧ x1010.2.1 ≤ 9223372036854775807 := l1014
    refine at_inv 4 rfl (fun l1015 => ?_)
    replace l1015 : (-9223372036854775808) ≤ x1010.2.2 ∧ x1010.2.2 ≤ 9223372036854775807 := l1015
    refine s_mv rfl (at_lt (lt_extract rfl rfl) rfl (at_lt (lt_extract rfl rfl) rfl (at_lt (lt_extract rfl rfl) rfl (at_hv rfl ?_))))
    refine hv_alloc (cs := [.int .i64 0, (.slice none 0 0)]) ti24 rfl rfl (fun b1016 => ?_)
    refine at_one 1 rfl (fun ho1017 => ?_)
    refine at_hv rfl (hv_store_box 0 (cs' := [.int .i64 x1010.1.ID, s1012]) rfl rfl ti24 rfl rfl rfl rfl (allc rfl (allc ho1017 rfl)) (s_as rfl (s_as rfl (s_ntsr (s_mv rfl (at_lt (lt_eql rfl rfl) rfl (s_mv rfl ?_)))))))
    by_cases h1018 : x1010.2.2 = 0
    ·replace hr := ipos h1018 hr
     refine at_on rfl rfl (decide_eq_true (by first | exact h1018 | omega)) ?_
     refine at_lt (lt_fieldAddr 1 rfl fld24_1 rfl) rfl ?_
     refine at_on rfl rfl (decide_eq_true (by first | exact h1018 | omega)) ?_
     refine at_lt (lt_load_box 0 rfl ti22 rfl rfl rfl rfl rfl) rfl ?_
     refine at_inv 1 rfl (fun i1019 => ?_)
     have l1020 := slice_len i1019
     refine at_on rfl rfl (decide_eq_true (by first | exact h1018 | omega)) ?_
     refine at_lt (lt_flen 1 rfl rfl und22) rfl ?_
     refine at_on rfl rfl (decide_eq_true (by first | exact h1018 | omega)) ?_
     refine s_mv rfl ?_
     refine at_on rfl rfl (decide_eq_true (by first | exact h1018 | omega)) ?_
     refine at_lt (lt_eql rfl rfl) rfl ?_
     refine at_lt (lt_pick true rfl (decide_eq_true (by first | exact h1018 | omega)) rfl) rfl ?_
     refine s_as rfl (s_nt (at_ret ?_))
     have hq := oinj hr
     clear hr
     subst hq
     exact at_return (.bool (decide ((x1010.1.Fields.length : Int) = x958.2.1))) [] hS Tryz.results4 (.cons (.tmp rfl) .nil) rfl rfl ⟨rfl, rfl⟩
    replace hr := ineg h1018 hr
    refine at_off rfl rfl (decide_eq_false (by first | exact h1018 | omega)) rfl ?_
    refine at_off rfl rfl (decide_eq_false (by first | exact h1018 | omega)) rfl ?_
    refine at_off rfl rfl (decide_eq_false (by first | exact h1018 | omega)) rfl ?_
    refine at_off rfl rfl (decide_eq_false (by first | exact h1018 | omega)) rfl ?_
    refine at_off rfl rfl (decide_eq_false (by first | exact h1018 | omega)) rfl ?_
    refine at_lt (lt_pick false rfl (decide_eq_false (by first | exact h1018 | omega)) rfl) rfl ?_
    refine s_as rfl (s_nt (at_ret ?_))
    have hq := oinj hr
    clear hr
    subst hq
    exact at_return (.bool false) [] hS Tryz.results4 (.cons (.tmp rfl) .nil) rfl rfl ⟨rfl, rfl⟩
   replace hr := ineg h1006 hr
   refine at_true rfl (nf (decide_eq_false (by first | exact h1006 | omega))) ?_
   refine s_sr (s_as rfl (s_nt (at_ret ?_)))
   have hq := oinj hr
   clear hr
   subst hq
   refine at_then_ret ?_
   exact at_return (.bool false) [] hS Tryz.results4 (.cons (.tmp rfl) .nil) rfl rfl ⟨rfl, rfl⟩
  replace hr := ineg h1005 hr
  refine at_off rfl rfl (nf (decide_eq_false (by first | exact h1005 | omega))) rfl ?_
  refine at_off rfl rfl (nf (decide_eq_false (by first | exact h1005 | omega))) rfl ?_
  refine at_lt (lt_pick true rfl (nf (decide_eq_false (by first | exact h1005 | omega))) rfl) rfl ?_
  refine s_nt (at_true rfl rfl (s_sr (s_as rfl (s_nt (at_ret ?_)))))
  have hq := oinj hr
  clear hr
  subst hq
  refine at_then_ret ?_
  exact at_return (.bool false) [] hS Tryz.results4 (.cons (.tmp rfl) .nil) rfl rfl ⟨rfl, rfl⟩
 replace hr := ineg h953 hr
 refine at_true rfl (nf (bf h953)) (s_sr (s_as rfl (s_nt (at_ret ?_))))
 have hq := oinj hr
 clear hr
 subst hq
 refine at_then_ret ?_
 exact at_return (.bool false) [] hS Tryz.results4 (.cons (.tmp rfl) .nil) rfl rfl ⟨rfl, rfl⟩
end Go.WK.S
