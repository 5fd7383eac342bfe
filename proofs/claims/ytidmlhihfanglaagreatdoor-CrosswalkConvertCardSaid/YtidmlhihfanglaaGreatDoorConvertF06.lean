
/- What functions of this program compute: a model of each, and the proof that it is kept. -/
import Derived.Test.YtidmlhihfanglaaGreatDoorConvertF05
import Derived.KernelRfl
set_option linter.unusedSimpArgs false
set_option linter.unusedVariables false
namespace Go.WK.S
open Go Go.Proofs Go.WK Go.RowKit
set_option linter.unusedVariables false
set_option maxRecDepth 100000
set_option maxHeartbeats 4000000
def m6 (a0 : (List D_ref16_Entry)) (a1 : D_api_Record) : Option Bool :=
  (m10).bind fun x2570 =>
  if x2570 = true then
   (m11 a0).bind fun x2573 =>
   if x2573 = true then
    (m12 (⟨a1.ID, a1.Fields⟩ : D_api_Record) 12).bind fun x2576 =>
    if x2576 = true then
     Option.bind (α := (Int × D_api_Record)) (
      (m15 a0).bind fun x2595 =>
      (m14 x2595 (⟨a1.ID, a1.Fields⟩ : D_api_Record)).bind fun x2598 =>
      some (x2598.2, (⟨x2598.1.ID, x2598.1.Fields⟩ : D_api_Record))
     ) fun (x2589, x2590) =>
     (m28 a0 (⟨a1.ID, a1.Fields⟩ : D_api_Record)).bind fun x2618 =>
     Option.bind (α := (Int × D_api_Record)) (
      (m15 a0).bind fun x2641 =>
      (m16 x2641 (⟨a1.ID, a1.Fields⟩ : D_api_Record)).bind fun x2644 =>
      some (x2644.2, (⟨x2644.1.ID, x2644.1.Fields⟩ : D_api_Record))
     ) fun (x2635, x2636) =>
     (m29 a0 (⟨a1.ID, a1.Fields⟩ : D_api_Record)).bind fun x2664 =>
     (m18 (⟨x2590.ID, x2590.Fields⟩ : D_api_Record) (⟨x2618.1.ID, x2618.1.Fields⟩ : D_api_Record)).bind fun x2671 =>
     if x2671 = true then
      if x2589 = x2618.2 then
       (m18 (⟨x2636.ID, x2636.Fields⟩ : D_api_Record) (⟨x2664.1.ID, x2664.1.Fields⟩ : D_api_Record)).bind fun x2675 =>
       if x2675 = true then
        if x2635 = x2664.2 then
         (m15 a0).bind fun x2679 =>
         (m30 x2679 (⟨a1.ID, a1.Fields⟩ : D_api_Record)).bind fun x2682 =>
         (m13 a0 (⟨a1.ID, a1.Fields⟩ : D_api_Record)).bind fun x2684 =>
         some (x2682 == x2684)
        else
         some false
       else
        some false
      else
       some false
     else
      some false
    else
     some true
   else
    some true
  else
   some false
def post6 (r : Bool) (v : Value) (fs : List Fact) : Prop := v = .bool r ∧ fs = []
theorem en6 : Enters Tryz.prog 6 := ⟨_, Tryz.func6, by kernel_rfl, rfl⟩
theorem f6_spec {a0 : (List D_ref16_Entry)} {a1 : D_api_Record} {w2566 : Value} {s2567 : Value} {r : Bool} (hr : m6 a0 a1 = some r) : Spec Tryz.prog 6 [w2566, .agg #[.int .i64 a1.ID, s2567]] [((Ty.slice ty50).fact a0 [w2566]), (ty25.fact a1 [.int .i64 a1.ID, s2567]), (utf8F 1 2)] (post6 r) := by
 refine spec_start (N := 77) Tryz.func6 (by kernel_rfl) rfl rfl rfl ?_
 intro g hS
 unfold m6 at hr
 refine at_open (A := Unit) 1 rfl (fun _ => True) (fun _ => [((Ty.int .i64).fact a1.ID [.int .i64 a1.ID]), ((Ty.slice ty69).fact a1.Fields [s2567])]) (fun F w h => ⟨(), trivial, ex25 h⟩) (fun _ _ => ?_)
 refine at_inv 0 rfl (fun l2568 => ?_)
 replace l2568 : (-9223372036854775808) ≤ a1.ID ∧ a1.ID ≤ 9223372036854775807 := l2568
 refine s_sr (at_hv rfl ?_)
 refine hv_box (cs := [.int .i64 a1.ID, s2567]) rfl rfl rfl (fun b2569 => ?_)
 refine s_as rfl (s_nt (at_seq (s_sr ?_)))
 replace hr := obind hr
 obtain ⟨x2570, h2571, hr⟩ := hr
 refine at_hv rfl (hv_call0 [4] (f10_spec h2571) rfl rfl rfl rfl ?_)
 rintro _ _ ⟨rfl, rfl⟩
 refine at_lt (lt_not rfl) rfl (s_nt ?_)
 by_cases h2572 : x2570 = true
 ·replace hr := ipos h2572 hr
  refine at_false rfl (nt h2572) (at_skip (at_then (at_seq (s_sr (s_mv rfl ?_)))))
  replace hr := obind hr
  obtain ⟨x2573, h2574, hr⟩ := hr
  refine at_hv rfl (hv_call0 [2] (f11_spec h2574) rfl rfl rfl rfl ?_)
  rintro _ _ ⟨rfl, rfl⟩
  refine at_lt (lt_not rfl) rfl (s_mv rfl ?_)
  by_cases h2575 : x2573 = true
  ·replace hr := ipos h2575 hr
   refine at_on rfl rfl (nt h2575) (at_lt (lt_load_box 0 rfl ti25 rfl rfl rfl rfl rfl) rfl ?_)
   replace hr := obind hr
   obtain ⟨x2576, h2577, hr⟩ := hr
   refine at_derive [0, 1] (ty25.fact (⟨a1.ID, a1.Fields⟩ : D_api_Record) [.int .i64 a1.ID, s2567]) rfl (fun F w h => mk25 (x := (⟨a1.ID, a1.Fields⟩ : D_api_Record)) h) ?_
   refine at_int .i64 12 (by simp only [lo, hi]; omega) (at_on rfl rfl (nt h2575) (at_hv rfl (hv_call0 [1, 0] (f12_spec h2577) rfl rfl rfl rfl ?_)))
   rintro _ _ ⟨rfl, rfl⟩
   refine at_on rfl rfl (nt h2575) (at_lt (lt_not rfl) rfl (at_lt (lt_pick false rfl (nt h2575) rfl) rfl (s_nt ?_)))
   by_cases h2578 : x2576 = true
   ·replace hr := ipos h2578 hr
    refine at_false rfl (nt h2578) (at_skip (at_then (at_seq ?_)))
    replace hr := obind hr
    obtain ⟨r2593, hc2594, hr⟩ := hr
    refine at_cut (V := Value × Nat) (fun e => (⟨[(0, w2566), (3, .pointer (some (Addr.add ⟨b2569, 0, none⟩ 0))), (5, .pointer (some (Addr.add ⟨e.2, 0, none⟩ 0))), (6, .int .i64 r2593.1)], [⟨e.2, [.int .i64 r2593.2.ID, e.1], 25⟩, ⟨b2569, [.int .i64 a1.ID, s2567], 25⟩], [], [((Ty.int .i64).fact r2593.1 [.int .i64 r2593.1]), ((Ty.int .i64).fact r2593.2.ID [.int .i64 r2593.2.ID]), ((Ty.slice ty69).fact r2593.2.Fields [e.1]), ((Ty.slice ty50).fact a0 [w2566]), ((Ty.int .i64).fact a1.ID [.int .i64 a1.ID]), ((Ty.slice ty69).fact a1.Fields [s2567]), (utf8F 1 2)]⟩ : St)) ?_ ?_
    ·clear hr
     have hr := hc2594
     clear hc2594
     replace hr := obind hr
     obtain ⟨x2595, h2596, hr⟩ := hr
     replace hr := obind hr
     obtain ⟨x2598, h2599, hr⟩ := hr
     refine aa_start 10 (by kernel_rfl) ?_
     refine aa_p 0 rfl (lt_move rfl) (aa_l 2 rfl (lt_load_box 0 rfl ti25 rfl rfl rfl rfl rfl) ?_)
     refine aa_all (rs := [1, 7]) (by kernel_rfl) rfl (ts_in 0 0 rfl rfl) (List.forall_mem_cons.2 ⟨?_, (List.forall_mem_singleton.2 ?_)⟩)
     ·refine aa_op rfl rfl ?_
      refine hv_call0 [4] (f15_spec h2596) rfl rfl rfl rfl ?_
      rintro s2597 _ ⟨_, rfl, rfl⟩
      refine aa_all (rs := [3, 7]) (by kernel_rfl) rfl (ts_in 0 1 rfl rfl) (List.forall_mem_cons.2 ⟨?_, (List.forall_mem_singleton.2 ?_)⟩)
      ·refine aa_op rfl rfl ?_
       refine hv_call0 [0, 2, 7] (f14_spec h2599) rfl rfl rfl rfl ?_
       rintro _ _ ⟨s2600, rfl, rfl⟩
       refine at_open (A := Unit) 0 rfl (fun _ => True) (fun _ => [((Ty.int .i64).fact x2598.1.ID [.int .i64 x2598.1.ID]), ((Ty.slice ty69).fact x2598.1.Fields [s2600])]) (fun F w h => ⟨(), trivial, ex25 h⟩) (fun _ _ => ?_)
       refine at_inv 0 rfl (fun l2605 => ?_)
       replace l2605 : (-9223372036854775808) ≤ x2598.1.ID ∧ x2598.1.ID ≤ 9223372036854775807 := l2605
       refine at_inv 3 rfl (fun l2606 => ?_)
       replace l2606 : (-9223372036854775808) ≤ x2598.2 ∧ x2598.2 ≤ 9223372036854775807 := l2606
       refine aa_pure 4 rfl (by kernel_rfl) rfl rfl (lt_move rfl) rfl (ts_in 0 5 rfl rfl) ?_
       refine aa_pure 5 rfl (by kernel_rfl) rfl rfl (lt_extract rfl rfl) rfl (ts_in 0 5 rfl rfl) ?_
       refine aa_pure 6 rfl (by kernel_rfl) rfl rfl (lt_extract rfl rfl) rfl (ts_in 0 5 rfl rfl) ?_
       refine aa_all (rs := [7]) (by kernel_rfl) rfl (ts_in 0 5 rfl rfl) (List.forall_mem_singleton.2 ?_)
       refine aa_op rfl rfl ?_
       refine hv_alloc (cs := [.int .i64 0, (.slice none 0 0)]) ti25 rfl rfl (fun b2607 => ?_)
       refine aa_all (rs := [8]) (by kernel_rfl) rfl (ts_in 1 5 rfl rfl) (List.forall_mem_singleton.2 ?_)
       refine at_one 1 rfl (fun ho2608 => ?_)
       refine aa_op rfl rfl (hv_store_box 0 (cs' := [.int .i64 x2598.1.ID, s2600]) rfl rfl ti25 rfl rfl rfl rfl (allc rfl (allc ho2608 rfl)) ?_)
       refine aa_pure 9 rfl (by kernel_rfl) rfl rfl (lt_assign rfl) rfl (ts_in 1 5 rfl rfl) ?_
       refine aa_done (by kernel_rfl) (ts_in 1 5 rfl rfl) ?_
       have hq := oinj hr
       clear hr
       subst hq
       exact at_leaf (s2600, b2607) ⟨⟨rfl, ⟨rfl, ⟨rfl, ⟨rfl, trivial⟩⟩⟩⟩, ⟨[true, true], rfl⟩, ⟨[], rfl⟩, ⟨[3, 0, 1, 9, 7, 8, 11], rfl⟩⟩
      ·refine aa_op rfl rfl ?_
       refine hv_alloc (cs := [.int .i64 0, (.slice none 0 0)]) ti25 rfl rfl (fun b2609 => ?_)
       refine aa_all (rs := [3]) (by kernel_rfl) rfl (ts_in 1 1 rfl rfl) (List.forall_mem_singleton.2 ?_)
       refine aa_op rfl rfl (hv_call0 [0, 2, 7] (f14_spec h2599) rfl rfl rfl rfl ?_)
       rintro _ _ ⟨s2600, rfl, rfl⟩
       refine at_open (A := Unit) 0 rfl (fun _ => True) (fun _ => [((Ty.int .i64).fact x2598.1.ID [.int .i64 x2598.1.ID]), ((Ty.slice ty69).fact x2598.1.Fields [s2600])]) (fun F w h => ⟨(), trivial, ex25 h⟩) (fun _ _ => ?_)
       refine at_inv 0 rfl (fun l2610 => ?_)
       replace l2610 : (-9223372036854775808) ≤ x2598.1.ID ∧ x2598.1.ID ≤ 9223372036854775807 := l2610
       refine at_inv 3 rfl (fun l2611 => ?_)
       replace l2611 : (-9223372036854775808) ≤ x2598.2 ∧ x2598.2 ≤ 9223372036854775807 := l2611
       refine aa_pure 4 rfl (by kernel_rfl) rfl rfl (lt_move rfl) rfl (ts_in 1 5 rfl rfl) ?_
       refine aa_pure 5 rfl (by kernel_rfl) rfl rfl (lt_extract rfl rfl) rfl (ts_in 1 5 rfl rfl) ?_
       refine aa_pure 6 rfl (by kernel_rfl) rfl rfl (lt_extract rfl rfl) rfl (ts_in 1 5 rfl rfl) ?_
       refine aa_all (rs := [8]) (by kernel_rfl) rfl (ts_in 1 5 rfl rfl) (List.forall_mem_singleton.2 ?_)
       refine at_one 1 rfl (fun ho2612 => ?_)
       refine aa_op rfl rfl (hv_store_box 0 (cs' := [.int .i64 x2598.1.ID, s2600]) rfl rfl ti25 rfl rfl rfl rfl (allc rfl (allc ho2612 rfl)) ?_)
       refine aa_pure 9 rfl (by kernel_rfl) rfl rfl (lt_assign rfl) rfl (ts_in 1 5 rfl rfl) ?_
       refine aa_done (by kernel_rfl) (ts_in 1 5 rfl rfl) ?_
       have hq := oinj hr
       clear hr
       subst hq
       exact at_leaf (s2600, b2609) ⟨⟨rfl, ⟨rfl, ⟨rfl, ⟨rfl, trivial⟩⟩⟩⟩, ⟨[true, true], rfl⟩, ⟨[], rfl⟩, ⟨[3, 0, 1, 9, 7, 8, 11], rfl⟩⟩
     ·refine aa_op rfl rfl ?_
      refine hv_alloc (cs := [.int .i64 0, (.slice none 0 0)]) ti25 rfl rfl (fun b2613 => ?_)
      refine aa_all (rs := [1]) (by kernel_rfl) rfl (ts_in 1 0 rfl rfl) (List.forall_mem_singleton.2 ?_)
      refine aa_op rfl rfl (hv_call0 [4] (f15_spec h2596) rfl rfl rfl rfl ?_)
      rintro s2597 _ ⟨_, rfl, rfl⟩
      refine aa_all (rs := [3]) (by kernel_rfl) rfl (ts_in 1 1 rfl rfl) (List.forall_mem_singleton.2 ?_)
      refine aa_op rfl rfl (hv_call0 [0, 2, 7] (f14_spec h2599) rfl rfl rfl rfl ?_)
      rintro _ _ ⟨s2600, rfl, rfl⟩
      refine at_open (A := Unit) 0 rfl (fun _ => True) (fun _ => [((Ty.int .i64).fact x2598.1.ID [.int .i64 x2598.1.ID]), ((Ty.slice ty69).fact x2598.1.Fields [s2600])]) (fun F w h => ⟨(), trivial, ex25 h⟩) (fun _ _ => ?_)
      refine at_inv 0 rfl (fun l2614 => ?_)
      replace l2614 : (-9223372036854775808) ≤ x2598.1.ID ∧ x2598.1.ID ≤ 9223372036854775807 := l2614
      refine at_inv 3 rfl (fun l2615 => ?_)
      replace l2615 : (-9223372036854775808) ≤ x2598.2 ∧ x2598.2 ≤ 9223372036854775807 := l2615
      refine aa_pure 4 rfl (by kernel_rfl) rfl rfl (lt_move rfl) rfl (ts_in 1 5 rfl rfl) ?_
      refine aa_pure 5 rfl (by kernel_rfl) rfl rfl (lt_extract rfl rfl) rfl (ts_in 1 5 rfl rfl) ?_
      refine aa_pure 6 rfl (by kernel_rfl) rfl rfl (lt_extract rfl rfl) rfl (ts_in 1 5 rfl rfl) ?_
      refine aa_all (rs := [8]) (by kernel_rfl) rfl (ts_in 1 5 rfl rfl) (List.forall_mem_singleton.2 ?_)
      refine at_one 1 rfl (fun ho2616 => ?_)
      refine aa_op rfl rfl (hv_store_box 0 (cs' := [.int .i64 x2598.1.ID, s2600]) rfl rfl ti25 rfl rfl rfl rfl (allc rfl (allc ho2616 rfl)) ?_)
      refine aa_pure 9 rfl (by kernel_rfl) rfl rfl (lt_assign rfl) rfl (ts_in 1 5 rfl rfl) ?_
      refine aa_done (by kernel_rfl) (ts_in 1 5 rfl rfl) ?_
      have hq := oinj hr
      clear hr
      subst hq
      exact at_leaf (s2600, b2613) ⟨⟨rfl, ⟨rfl, ⟨rfl, ⟨rfl, trivial⟩⟩⟩⟩, ⟨[true, true], rfl⟩, ⟨[], rfl⟩, ⟨[3, 0, 1, 9, 7, 8, 11], rfl⟩⟩
    clear hc2594
    obtain ⟨x2589, x2590⟩ := r2593
    intro e
    obtain ⟨v2591, n2592⟩ := e
    change At _ _ (⟨[(0, w2566), (3, .pointer (some (Addr.add ⟨b2569, 0, none⟩ 0))), (5, .pointer (some (Addr.add ⟨n2592, 0, none⟩ 0))), (6, .int .i64 x2589)], [⟨n2592, [.int .i64 x2590.ID, v2591], 25⟩, ⟨b2569, [.int .i64 a1.ID, s2567], 25⟩], [], [((Ty.int .i64).fact x2589 [.int .i64 x2589]), ((Ty.int .i64).fact x2590.ID [.int .i64 x2590.ID]), ((Ty.slice ty69).fact x2590.Fields [v2591]), ((Ty.slice ty50).fact a0 [w2566]), ((Ty.int .i64).fact a1.ID [.int .i64 a1.ID]), ((Ty.slice ty69).fact a1.Fields [s2567]), (utf8F 1 2)]⟩ : St) _
    refine at_inv 0 rfl (fun l2617 => ?_)
    replace l2617 : (-9223372036854775808) ≤ x2589 ∧ x2589 ≤ 9223372036854775807 := l2617
    refine s_tsr (s_mv rfl (at_lt (lt_load_box 1 rfl ti25 rfl rfl rfl rfl rfl) rfl ?_))
    replace hr := obind hr
    obtain ⟨x2618, h2619, hr⟩ := hr
    refine at_derive [4, 5] (ty25.fact (⟨a1.ID, a1.Fields⟩ : D_api_Record) [.int .i64 a1.ID, s2567]) rfl (fun F w h => mk25 (x := (⟨a1.ID, a1.Fields⟩ : D_api_Record)) h) ?_
    refine at_hv rfl (hv_call0 [4, 0] (f28_spec h2619) rfl rfl rfl rfl ?_)
    rintro _ _ ⟨s2620, rfl, rfl⟩
    refine at_open (A := Unit) 0 rfl (fun _ => True) (fun _ => [((Ty.int .i64).fact x2618.1.ID [.int .i64 x2618.1.ID]), ((Ty.slice ty69).fact x2618.1.Fields [s2620])]) (fun F w h => ⟨(), trivial, ex25 h⟩) (fun _ _ => ?_)
    refine at_inv 0 rfl (fun l2621 => ?_)
    replace l2621 : (-9223372036854775808) ≤ x2618.1.ID ∧ x2618.1.ID ≤ 9223372036854775807 := l2621
    refine at_inv 3 rfl (fun l2622 => ?_)
    replace l2622 : (-9223372036854775808) ≤ x2618.2 ∧ x2618.2 ≤ 9223372036854775807 := l2622
    refine s_mv rfl (at_lt (lt_extract rfl rfl) rfl (at_lt (lt_extract rfl rfl) rfl (at_hv rfl ?_)))
    refine hv_alloc (cs := [.int .i64 0, (.slice none 0 0)]) ti25 rfl rfl (fun b2623 => ?_)
    refine at_one 1 rfl (fun ho2624 => ?_)
    refine at_hv rfl (hv_store_box 0 (cs' := [.int .i64 x2618.1.ID, s2620]) rfl rfl ti25 rfl rfl rfl rfl (allc rfl (allc ho2624 rfl)) (s_as rfl (s_nt (at_seq ?_))))
    replace hr := obind hr
    obtain ⟨r2639, hc2640, hr⟩ := hr
    refine at_cut (V := Value × Nat) (fun e => (⟨[(0, w2566), (3, .pointer (some (Addr.add ⟨b2569, 0, none⟩ 0))), (5, .pointer (some (Addr.add ⟨n2592, 0, none⟩ 0))), (6, .int .i64 x2589), (7, .pointer (some (Addr.add ⟨b2623, 0, none⟩ 0))), (8, .int .i64 x2618.2), (9, .pointer (some (Addr.add ⟨e.2, 0, none⟩ 0))), (10, .int .i64 r2639.1)], [⟨e.2, [.int .i64 r2639.2.ID, e.1], 25⟩, ⟨b2623, [.int .i64 x2618.1.ID, s2620], 25⟩, ⟨n2592, [.int .i64 x2590.ID, v2591], 25⟩, ⟨b2569, [.int .i64 a1.ID, s2567], 25⟩], [], [((Ty.int .i64).fact r2639.1 [.int .i64 r2639.1]), ((Ty.int .i64).fact r2639.2.ID [.int .i64 r2639.2.ID]), ((Ty.slice ty69).fact r2639.2.Fields [e.1]), ((Ty.slice ty50).fact a0 [w2566]), ((Ty.int .i64).fact x2589 [.int .i64 x2589]), ((Ty.int .i64).fact x2618.2 [.int .i64 x2618.2]), ((Ty.int .i64).fact a1.ID [.int .i64 a1.ID]), ((Ty.slice ty69).fact a1.Fields [s2567]), ((Ty.int .i64).fact x2618.1.ID [.int .i64 x2618.1.ID]), ((Ty.slice ty69).fact x2618.1.Fields [s2620]), ((Ty.int .i64).fact x2590.ID [.int .i64 x2590.ID]), ((Ty.slice ty69).fact x2590.Fields [v2591]), (utf8F 1 2)]⟩ : St)) ?_ ?_
    ·clear hr
     have hr := hc2640
     clear hc2640
     replace hr := obind hr
     obtain ⟨x2641, h2642, hr⟩ := hr
     replace hr := obind hr
     obtain ⟨x2644, h2645, hr⟩ := hr
     refine aa_start 10 (by kernel_rfl) ?_
     refine aa_p 0 rfl (lt_move rfl) (aa_l 2 rfl (lt_load_box 2 rfl ti25 rfl rfl rfl rfl rfl) ?_)
     refine aa_all (rs := [1, 7]) (by kernel_rfl) rfl (ts_in 0 0 rfl rfl) (List.forall_mem_cons.2 ⟨?_, (List.forall_mem_singleton.2 ?_)⟩)
     ·refine aa_op rfl rfl ?_
      refine hv_call0 [8] (f15_spec h2642) rfl rfl rfl rfl ?_
      rintro s2643 _ ⟨_, rfl, rfl⟩
      refine aa_all (rs := [3, 7]) (by kernel_rfl) rfl (ts_in 0 1 rfl rfl) (List.forall_mem_cons.2 ⟨?_, (List.forall_mem_singleton.2 ?_)⟩)
      ·refine aa_op rfl rfl ?_
       refine hv_call0 [0, 5, 12] (f16_spec h2645) rfl rfl rfl rfl ?_
       rintro _ _ ⟨s2646, rfl, rfl⟩
       refine at_open (A := Unit) 0 rfl (fun _ => True) (fun _ => [((Ty.int .i64).fact x2644.1.ID [.int .i64 x2644.1.ID]), ((Ty.slice ty69).fact x2644.1.Fields [s2646])]) (fun F w h => ⟨(), trivial, ex25 h⟩) (fun _ _ => ?_)
       refine at_inv 0 rfl (fun l2651 => ?_)
       replace l2651 : (-9223372036854775808) ≤ x2644.1.ID ∧ x2644.1.ID ≤ 9223372036854775807 := l2651
       refine at_inv 3 rfl (fun l2652 => ?_)
       replace l2652 : (-9223372036854775808) ≤ x2644.2 ∧ x2644.2 ≤ 9223372036854775807 := l2652
       refine aa_pure 4 rfl (by kernel_rfl) rfl rfl (lt_move rfl) rfl (ts_in 0 5 rfl rfl) ?_
       refine aa_pure 5 rfl (by kernel_rfl) rfl rfl (lt_extract rfl rfl) rfl (ts_in 0 5 rfl rfl) ?_
       refine aa_pure 6 rfl (by kernel_rfl) rfl rfl (lt_extract rfl rfl) rfl (ts_in 0 5 rfl rfl) ?_
       refine aa_all (rs := [7]) (by kernel_rfl) rfl (ts_in 0 5 rfl rfl) (List.forall_mem_singleton.2 ?_)
       refine aa_op rfl rfl ?_
       refine hv_alloc (cs := [.int .i64 0, (.slice none 0 0)]) ti25 rfl rfl (fun b2653 => ?_)
       refine aa_all (rs := [8]) (by kernel_rfl) rfl (ts_in 1 5 rfl rfl) (List.forall_mem_singleton.2 ?_)
       refine at_one 1 rfl (fun ho2654 => ?_)
       refine aa_op rfl rfl (hv_store_box 0 (cs' := [.int .i64 x2644.1.ID, s2646]) rfl rfl ti25 rfl rfl rfl rfl (allc rfl (allc ho2654 rfl)) ?_)
       refine aa_pure 9 rfl (by kernel_rfl) rfl rfl (lt_assign rfl) rfl (ts_in 1 5 rfl rfl) ?_
       refine aa_done (by kernel_rfl) (ts_in 1 5 rfl rfl) ?_
       have hq := oinj hr
       clear hr
       subst hq
       exact at_leaf (s2646, b2653) ⟨⟨rfl, ⟨rfl, ⟨rfl, ⟨rfl, ⟨rfl, ⟨rfl, ⟨rfl, ⟨rfl, trivial⟩⟩⟩⟩⟩⟩⟩⟩, ⟨[true, true, true, true], rfl⟩, ⟨[], rfl⟩, ⟨[3, 0, 1, 13, 10, 8, 14, 15, 5, 6, 11, 12, 16], rfl⟩⟩
      ·refine aa_op rfl rfl ?_
       refine hv_alloc (cs := [.int .i64 0, (.slice none 0 0)]) ti25 rfl rfl (fun b2655 => ?_)
       refine aa_all (rs := [3]) (by kernel_rfl) rfl (ts_in 1 1 rfl rfl) (List.forall_mem_singleton.2 ?_)
       refine aa_op rfl rfl (hv_call0 [0, 5, 12] (f16_spec h2645) rfl rfl rfl rfl ?_)
       rintro _ _ ⟨s2646, rfl, rfl⟩
       refine at_open (A := Unit) 0 rfl (fun _ => True) (fun _ => [((Ty.int .i64).fact x2644.1.ID [.int .i64 x2644.1.ID]), ((Ty.slice ty69).fact x2644.1.Fields [s2646])]) (fun F w h => ⟨(), trivial, ex25 h⟩) (fun _ _ => ?_)
       refine at_inv 0 rfl (fun l2656 => ?_)
       replace l2656 : (-9223372036854775808) ≤ x2644.1.ID ∧ x2644.1.ID ≤ 9223372036854775807 := l2656
       refine at_inv 3 rfl (fun l2657 => ?_)
       replace l2657 : (-9223372036854775808) ≤ x2644.2 ∧ x2644.2 ≤ 9223372036854775807 := l2657
       refine aa_pure 4 rfl (by kernel_rfl) rfl rfl (lt_move rfl) rfl (ts_in 1 5 rfl rfl) ?_
       refine aa_pure 5 rfl (by kernel_rfl) rfl rfl (lt_extract rfl rfl) rfl (ts_in 1 5 rfl rfl) ?_
       refine aa_pure 6 rfl (by kernel_rfl) rfl rfl (lt_extract rfl rfl) rfl (ts_in 1 5 rfl rfl) ?_
       refine aa_all (rs := [8]) (by kernel_rfl) rfl (ts_in 1 5 rfl rfl) (List.forall_mem_singleton.2 ?_)
       refine at_one 1 rfl (fun ho2658 => ?_)
       refine aa_op rfl rfl (hv_store_box 0 (cs' := [.int .i64 x2644.1.ID, s2646]) rfl rfl ti25 rfl rfl rfl rfl (allc rfl (allc ho2658 rfl)) ?_)
       refine aa_pure 9 rfl (by kernel_rfl) rfl rfl (lt_assign rfl) rfl (ts_in 1 5 rfl rfl) ?_
       refine aa_done (by kernel_rfl) (ts_in 1 5 rfl rfl) ?_
       have hq := oinj hr
       clear hr
       subst hq
       exact at_leaf (s2646, b2655) ⟨⟨rfl, ⟨rfl, ⟨rfl, ⟨rfl, ⟨rfl, ⟨rfl, ⟨rfl, ⟨rfl, trivial⟩⟩⟩⟩⟩⟩⟩⟩, ⟨[true, true, true, true], rfl⟩, ⟨[], rfl⟩, ⟨[3, 0, 1, 13, 10, 8, 14, 15, 5, 6, 11, 12, 16], rfl⟩⟩
     ·refine aa_op rfl rfl ?_
      refine hv_alloc (cs := [.int .i64 0, (.slice none 0 0)]) ti25 rfl rfl (fun b2659 => ?_)
      refine aa_all (rs := [1]) (by kernel_rfl) rfl (ts_in 1 0 rfl rfl) (List.forall_mem_singleton.2 ?_)
      refine aa_op rfl rfl (hv_call0 [8] (f15_spec h2642) rfl rfl rfl rfl ?_)
      rintro s2643 _ ⟨_, rfl, rfl⟩
      refine aa_all (rs := [3]) (by kernel_rfl) rfl (ts_in 1 1 rfl rfl) (List.forall_mem_singleton.2 ?_)
      refine aa_op rfl rfl (hv_call0 [0, 5, 12] (f16_spec h2645) rfl rfl rfl rfl ?_)
      rintro _ _ ⟨s2646, rfl, rfl⟩
      refine at_open (A := Unit) 0 rfl (fun _ => True) (fun _ => [((Ty.int .i64).fact x2644.1.ID [.int .i64 x2644.1.ID]), ((Ty.slice ty69).fact x2644.1.Fields [s2646])]) (fun F w h => ⟨(), trivial, ex25 h⟩) (fun _ _ => ?_)
      refine at_inv 0 rfl (fun l2660 => ?_)
      replace l2660 : (-9223372036854775808) ≤ x2644.1.ID ∧ x2644.1.ID ≤ 9223372036854775807 := l2660
      refine at_inv 3 rfl (fun l2661 => ?_)
      replace l2661 : (-9223372036854775808) ≤ x2644.2 ∧ x2644.2 ≤ 9223372036854775807 := l2661
      refine aa_pure 4 rfl (by kernel_rfl) rfl rfl (lt_move rfl) rfl (ts_in 1 5 rfl rfl) ?_
      refine aa_pure 5 rfl (by kernel_rfl) rfl rfl (lt_extract rfl rfl) rfl (ts_in 1 5 rfl rfl) ?_
      refine aa_pure 6 rfl (by kernel_rfl) rfl rfl (lt_extract rfl rfl) rfl (ts_in 1 5 rfl rfl) ?_
      refine aa_all (rs := [8]) (by kernel_rfl) rfl (ts_in 1 5 rfl rfl) (List.forall_mem_singleton.2 ?_)
      refine at_one 1 rfl (fun ho2662 => ?_)
      refine aa_op rfl rfl (hv_store_box 0 (cs' := [.int .i64 x2644.1.ID, s2646]) rfl rfl ti25 rfl rfl rfl rfl (allc rfl (allc ho2662 rfl)) ?_)
      refine aa_pure 9 rfl (by kernel_rfl) rfl rfl (lt_assign rfl) rfl (ts_in 1 5 rfl rfl) ?_
      refine aa_done (by kernel_rfl) (ts_in 1 5 rfl rfl) ?_
      have hq := oinj hr
      clear hr
      subst hq
      exact at_leaf (s2646, b2659) ⟨⟨rfl, ⟨rfl, ⟨rfl, ⟨rfl, ⟨rfl, ⟨rfl, ⟨rfl, ⟨rfl, trivial⟩⟩⟩⟩⟩⟩⟩⟩, ⟨[true, true, true, true], rfl⟩, ⟨[], rfl⟩, ⟨[3, 0, 1, 13, 10, 8, 14, 15, 5, 6, 11, 12, 16], rfl⟩⟩
    clear hc2640
    obtain ⟨x2635, x2636⟩ := r2639
    intro e
    obtain ⟨v2637, n2638⟩ := e
    change At _ _ (⟨[(0, w2566), (3, .pointer (some (Addr.add ⟨b2569, 0, none⟩ 0))), (5, .pointer (some (Addr.add ⟨n2592, 0, none⟩ 0))), (6, .int .i64 x2589), (7, .pointer (some (Addr.add ⟨b2623, 0, none⟩ 0))), (8, .int .i64 x2618.2), (9, .pointer (some (Addr.add ⟨n2638, 0, none⟩ 0))), (10, .int .i64 x2635)], [⟨n2638, [.int .i64 x2636.ID, v2637], 25⟩, ⟨b2623, [.int .i64 x2618.1.ID, s2620], 25⟩, ⟨n2592, [.int .i64 x2590.ID, v2591], 25⟩, ⟨b2569, [.int .i64 a1.ID, s2567], 25⟩], [], [((Ty.int .i64).fact x2635 [.int .i64 x2635]), ((Ty.int .i64).fact x2636.ID [.int .i64 x2636.ID]), ((Ty.slice ty69).fact x2636.Fields [v2637]), ((Ty.slice ty50).fact a0 [w2566]), ((Ty.int .i64).fact x2589 [.int .i64 x2589]), ((Ty.int .i64).fact x2618.2 [.int .i64 x2618.2]), ((Ty.int .i64).fact a1.ID [.int .i64 a1.ID]), ((Ty.slice ty69).fact a1.Fields [s2567]), ((Ty.int .i64).fact x2618.1.ID [.int .i64 x2618.1.ID]), ((Ty.slice ty69).fact x2618.1.Fields [s2620]), ((Ty.int .i64).fact x2590.ID [.int .i64 x2590.ID]), ((Ty.slice ty69).fact x2590.Fields [v2591]), (utf8F 1 2)]⟩ : St) _
    refine at_inv 0 rfl (fun l2663 => ?_)
    replace l2663 : (-9223372036854775808) ≤ x2635 ∧ x2635 ≤ 9223372036854775807 := l2663
    refine s_tsr (s_mv rfl (at_lt (lt_load_box 3 rfl ti25 rfl rfl rfl rfl rfl) rfl ?_))
    replace hr := obind hr
    obtain ⟨x2664, h2665, hr⟩ := hr
    refine at_derive [6, 7] (ty25.fact (⟨a1.ID, a1.Fields⟩ : D_api_Record) [.int .i64 a1.ID, s2567]) rfl (fun F w h => mk25 (x := (⟨a1.ID, a1.Fields⟩ : D_api_Record)) h) ?_
    refine at_hv rfl (hv_call0 [4, 0] (f29_spec h2665) rfl rfl rfl rfl ?_)
    rintro _ _ ⟨s2666, rfl, rfl⟩
    refine at_open (A := Unit) 0 rfl (fun _ => True) (fun _ => [((Ty.int .i64).fact x2664.1.ID [.int .i64 x2664.1.ID]), ((Ty.slice ty69).fact x2664.1.Fields [s2666])]) (fun F w h => ⟨(), trivial, ex25 h⟩) (fun _ _ => ?_)
    refine at_inv 0 rfl (fun l2667 => ?_)
    replace l2667 : (-9223372036854775808) ≤ x2664.1.ID ∧ x2664.1.ID ≤ 9223372036854775807 := l2667
    refine at_inv 3 rfl (fun l2668 => ?_)
    replace l2668 : (-9223372036854775808) ≤ x2664.2 ∧ x2664.2 ≤ 9223372036854775807 := l2668
    refine s_mv rfl (at_lt (lt_extract rfl rfl) rfl (at_lt (lt_extract rfl rfl) rfl (at_hv rfl ?_)))
    refine hv_alloc (cs := [.int .i64 0, (.slice none 0 0)]) ti25 rfl rfl (fun b2669 => ?_)
    refine at_one 1 rfl (fun ho2670 => ?_)
    refine at_hv rfl (hv_store_box 0 (cs' := [.int .i64 x2664.1.ID, s2666]) rfl rfl ti25 rfl rfl rfl rfl (allc rfl (allc ho2670 rfl)) (s_as rfl (s_nt (at_seq ?_))))
    replace hr := obind hr
    obtain ⟨x2671, h2672, hr⟩ := hr
    by_cases h2673 : x2671 = true
    ·replace hr := ipos h2673 hr
     by_cases h2674 : x2589 = x2618.2
     ·replace hr := ipos h2674 hr
      replace hr := obind hr
      obtain ⟨x2675, h2676, hr⟩ := hr
      by_cases h2677 : x2675 = true
      ·replace hr := ipos h2677 hr
       by_cases h2678 : x2635 = x2664.2
       ·replace hr := ipos h2678 hr
        replace hr := obind hr
        obtain ⟨x2679, h2680, hr⟩ := hr
        replace hr := obind hr
        obtain ⟨x2682, h2683, hr⟩ := hr
        replace hr := obind hr
        obtain ⟨x2684, h2685, hr⟩ := hr
        refine aa_start 29 (by kernel_rfl) ?_
        refine aa_l 0 rfl (lt_load_box 3 rfl ti25 rfl rfl rfl rfl rfl) (aa_l 1 rfl (lt_load_box 2 rfl ti25 rfl rfl rfl rfl rfl) (aa_one 2 ?_))
        refine at_derive [15, 16] (ty25.fact (⟨x2590.ID, x2590.Fields⟩ : D_api_Record) [.int .i64 x2590.ID, v2591]) rfl (fun F w h => mk25 (x := (⟨x2590.ID, x2590.Fields⟩ : D_api_Record)) h) ?_
        refine at_derive [14, 15] (ty25.fact (⟨x2618.1.ID, x2618.1.Fields⟩ : D_api_Record) [.int .i64 x2618.1.ID, s2620]) rfl (fun F w h => mk25 (x := (⟨x2618.1.ID, x2618.1.Fields⟩ : D_api_Record)) h) ?_
        refine aa_op rfl rfl (hv_call0 [1, 0] (f18_spec h2672) rfl rfl rfl rfl ?_)
        rintro _ _ ⟨rfl, rfl⟩
        refine aa_pure 3 rfl (by kernel_rfl) rfl rfl (lt_move rfl) rfl (ts_in 0 2 rfl rfl) ?_
        refine aa_pure 4 rfl (by kernel_rfl) rfl ⟨52, rfl, .inl ⟨_, rfl, gdq (v := true) h2673 rfl⟩⟩ (lt_move rfl) rfl (ts_in 0 2 rfl rfl) ?_
        refine aa_pure 5 rfl (by kernel_rfl) rfl ⟨52, rfl, .inl ⟨_, rfl, gdq (v := true) h2673 rfl⟩⟩ (lt_move rfl) rfl (ts_in 0 2 rfl rfl) ?_
        refine aa_pure 6 rfl (by kernel_rfl) rfl ⟨52, rfl, .inl ⟨_, rfl, gdq (v := true) h2673 rfl⟩⟩ (lt_eql rfl rfl) rfl (ts_in 0 2 rfl rfl) ?_
        refine aa_pure 7 rfl (by kernel_rfl) rfl rfl (lt_pick true rfl h2673 rfl) rfl (ts_in 0 2 rfl rfl) ?_
        refine aa_pure 8 rfl (by kernel_rfl) rfl rfl (lt_move rfl) rfl (ts_in 0 2 rfl rfl) ?_
        refine aa_load 9 rfl (by kernel_rfl) rfl ⟨57, rfl, .inl ⟨_, rfl, gdq (v := true) (decide_eq_true (by first | exact h2674 | omega)) rfl⟩⟩ (lt_load_box 1 rfl ti25 rfl rfl rfl rfl rfl) rfl (ts_in 0 2 rfl rfl) ?_
        refine aa_load 10 rfl (by kernel_rfl) rfl ⟨57, rfl, .inl ⟨_, rfl, gdq (v := true) (decide_eq_true (by first | exact h2674 | omega)) rfl⟩⟩ (lt_load_box 0 rfl ti25 rfl rfl rfl rfl rfl) rfl (ts_in 0 2 rfl rfl) ?_
        refine aa_all (rs := [11]) (by kernel_rfl) rfl (ts_in 0 2 rfl rfl) (List.forall_mem_singleton.2 ?_)
        refine at_derive [8, 9] (ty25.fact (⟨x2636.ID, x2636.Fields⟩ : D_api_Record) [.int .i64 x2636.ID, v2637]) rfl (fun F w h => mk25 (x := (⟨x2636.ID, x2636.Fields⟩ : D_api_Record)) h) ?_
        refine at_derive [3, 4] (ty25.fact (⟨x2664.1.ID, x2664.1.Fields⟩ : D_api_Record) [.int .i64 x2664.1.ID, s2666]) rfl (fun F w h => mk25 (x := (⟨x2664.1.ID, x2664.1.Fields⟩ : D_api_Record)) h) ?_
        refine aa_op rfl ⟨57, rfl, .inl ⟨_, rfl, gdq (v := true) (decide_eq_true (by first | exact h2674 | omega)) rfl⟩⟩ ?_
        refine hv_call0 [1, 0] (f18_spec h2676) rfl rfl rfl rfl ?_
        rintro _ _ ⟨rfl, rfl⟩
        refine aa_pure 12 rfl (by kernel_rfl) rfl rfl (lt_pick true rfl (decide_eq_true (by first | exact h2674 | omega)) rfl) rfl (ts_in 0 4 rfl rfl) ?_
        refine aa_pure 13 rfl (by kernel_rfl) rfl rfl (lt_move rfl) rfl (ts_in 0 4 rfl rfl) ?_
        refine aa_pure 14 rfl (by kernel_rfl) rfl ⟨62, rfl, .inl ⟨_, rfl, gdq (v := true) h2677 rfl⟩⟩ (lt_move rfl) rfl (ts_in 0 4 rfl rfl) ?_
        refine aa_pure 15 rfl (by kernel_rfl) rfl ⟨62, rfl, .inl ⟨_, rfl, gdq (v := true) h2677 rfl⟩⟩ (lt_move rfl) rfl (ts_in 0 4 rfl rfl) ?_
        refine aa_pure 16 rfl (by kernel_rfl) rfl ⟨62, rfl, .inl ⟨_, rfl, gdq (v := true) h2677 rfl⟩⟩ (lt_eql rfl rfl) rfl (ts_in 0 4 rfl rfl) ?_
        refine aa_pure 17 rfl (by kernel_rfl) rfl rfl (lt_pick true rfl h2677 rfl) rfl (ts_in 0 4 rfl rfl) ?_
        refine aa_pure 18 rfl (by kernel_rfl) rfl rfl (lt_move rfl) rfl (ts_in 0 4 rfl rfl) ?_
        refine aa_pure 19 rfl (by kernel_rfl) rfl ⟨67, rfl, .inl ⟨_, rfl, gdq (v := true) (decide_eq_true (by first | exact h2678 | omega)) rfl⟩⟩ (lt_move rfl) rfl (ts_in 0 4 rfl rfl) ?_
        refine aa_load 21 rfl (by kernel_rfl) rfl ⟨67, rfl, .inl ⟨_, rfl, gdq (v := true) (decide_eq_true (by first | exact h2678 | omega)) rfl⟩⟩ (lt_load_box 4 rfl ti25 rfl rfl rfl rfl rfl) rfl (ts_in 0 4 rfl rfl) ?_
        refine aa_pure 23 rfl (by kernel_rfl) rfl ⟨67, rfl, .inl ⟨_, rfl, gdq (v := true) (decide_eq_true (by first | exact h2678 | omega)) rfl⟩⟩ (lt_move rfl) rfl (ts_in 0 4 rfl rfl) ?_
        refine aa_load 24 rfl (by kernel_rfl) rfl ⟨67, rfl, .inl ⟨_, rfl, gdq (v := true) (decide_eq_true (by first | exact h2678 | omega)) rfl⟩⟩ (lt_load_box 4 rfl ti25 rfl rfl rfl rfl rfl) rfl (ts_in 0 4 rfl rfl) ?_
        refine aa_all (rs := [20]) (by kernel_rfl) rfl (ts_in 0 4 rfl rfl) (List.forall_mem_singleton.2 ?_)
        refine aa_op rfl ⟨67, rfl, .inl ⟨_, rfl, gdq (v := true) (decide_eq_true (by first | exact h2678 | omega)) rfl⟩⟩ ?_
        refine hv_call0 [12] (f15_spec h2680) rfl rfl rfl rfl ?_
        rintro s2681 _ ⟨_, rfl, rfl⟩
        refine aa_all (rs := [22]) (by kernel_rfl) rfl (ts_in 0 5 rfl rfl) (List.forall_mem_singleton.2 ?_)
        refine aa_op rfl ⟨67, rfl, .inl ⟨_, rfl, gdq (v := true) (decide_eq_true (by first | exact h2678 | omega)) rfl⟩⟩ ?_
        refine hv_call0 [0, 9, 22] (f30_spec h2683) rfl rfl rfl rfl ?_
        rintro _ _ ⟨rfl, rfl⟩
        refine aa_all (rs := [25]) (by kernel_rfl) rfl (ts_in 0 5 rfl rfl) (List.forall_mem_singleton.2 ?_)
        refine aa_op rfl ⟨67, rfl, .inl ⟨_, rfl, gdq (v := true) (decide_eq_true (by first | exact h2678 | omega)) rfl⟩⟩ ?_
        refine hv_call0 [13, 9] (f13_spec h2685) rfl rfl rfl rfl ?_
        rintro _ _ ⟨rfl, rfl⟩
        refine aa_pure 26 rfl (by kernel_rfl) rfl ⟨67, rfl, .inl ⟨_, rfl, gdq (v := true) (decide_eq_true (by first | exact h2678 | omega)) rfl⟩⟩ (lt_beq rfl rfl und4) rfl (ts_in 0 5 rfl rfl) ?_
        refine aa_pure 27 rfl (by kernel_rfl) rfl rfl (lt_pick true rfl (decide_eq_true (by first | exact h2678 | omega)) rfl) rfl (ts_in 0 5 rfl rfl) ?_
        refine aa_pure 28 rfl (by kernel_rfl) rfl rfl (lt_assign rfl) rfl (ts_in 0 5 rfl rfl) ?_
        refine aa_done (by kernel_rfl) (ts_in 0 5 rfl rfl) ?_
        refine at_then (at_ret ?_)
        have hq := oinj hr
        clear hr
        subst hq
        exact at_return (.bool (x2682 == x2684)) [] hS Tryz.results6 (.cons (.tmp rfl) .nil) rfl rfl ⟨rfl, rfl⟩
       replace hr := ineg h2678 hr
       refine aa_start 29 (by kernel_rfl) ?_
       refine aa_l 0 rfl (lt_load_box 3 rfl ti25 rfl rfl rfl rfl rfl) (aa_l 1 rfl (lt_load_box 2 rfl ti25 rfl rfl rfl rfl rfl) (aa_one 2 ?_))
       refine at_derive [15, 16] (ty25.fact (⟨x2590.ID, x2590.Fields⟩ : D_api_Record) [.int .i64 x2590.ID, v2591]) rfl (fun F w h => mk25 (x := (⟨x2590.ID, x2590.Fields⟩ : D_api_Record)) h) ?_
       refine at_derive [14, 15] (ty25.fact (⟨x2618.1.ID, x2618.1.Fields⟩ : D_api_Record) [.int .i64 x2618.1.ID, s2620]) rfl (fun F w h => mk25 (x := (⟨x2618.1.ID, x2618.1.Fields⟩ : D_api_Record)) h) ?_
       refine aa_op rfl rfl (hv_call0 [1, 0] (f18_spec h2672) rfl rfl rfl rfl ?_)
       rintro _ _ ⟨rfl, rfl⟩
       refine aa_pure 3 rfl (by kernel_rfl) rfl rfl (lt_move rfl) rfl (ts_in 0 2 rfl rfl) ?_
       refine aa_pure 4 rfl (by kernel_rfl) rfl ⟨52, rfl, .inl ⟨_, rfl, gdq (v := true) h2673 rfl⟩⟩ (lt_move rfl) rfl (ts_in 0 2 rfl rfl) ?_
       refine aa_pure 5 rfl (by kernel_rfl) rfl ⟨52, rfl, .inl ⟨_, rfl, gdq (v := true) h2673 rfl⟩⟩ (lt_move rfl) rfl (ts_in 0 2 rfl rfl) ?_
       refine aa_pure 6 rfl (by kernel_rfl) rfl ⟨52, rfl, .inl ⟨_, rfl, gdq (v := true) h2673 rfl⟩⟩ (lt_eql rfl rfl) rfl (ts_in 0 2 rfl rfl) ?_
       refine aa_pure 7 rfl (by kernel_rfl) rfl rfl (lt_pick true rfl h2673 rfl) rfl (ts_in 0 2 rfl rfl) ?_
       refine aa_pure 8 rfl (by kernel_rfl) rfl rfl (lt_move rfl) rfl (ts_in 0 2 rfl rfl) ?_
       refine aa_load 9 rfl (by kernel_rfl) rfl ⟨57, rfl, .inl ⟨_, rfl, gdq (v := true) (decide_eq_true (by first | exact h2674 | omega)) rfl⟩⟩ (lt_load_box 1 rfl ti25 rfl rfl rfl rfl rfl) rfl (ts_in 0 2 rfl rfl) ?_
       refine aa_load 10 rfl (by kernel_rfl) rfl ⟨57, rfl, .inl ⟨_, rfl, gdq (v := true) (decide_eq_true (by first | exact h2674 | omega)) rfl⟩⟩ (lt_load_box 0 rfl ti25 rfl rfl rfl rfl rfl) rfl (ts_in 0 2 rfl rfl) ?_
       refine aa_all (rs := [11]) (by kernel_rfl) rfl (ts_in 0 2 rfl rfl) (List.forall_mem_singleton.2 ?_)
       refine at_derive [8, 9] (ty25.fact (⟨x2636.ID, x2636.Fields⟩ : D_api_Record) [.int .i64 x2636.ID, v2637]) rfl (fun F w h => mk25 (x := (⟨x2636.ID, x2636.Fields⟩ : D_api_Record)) h) ?_
       refine at_derive [3, 4] (ty25.fact (⟨x2664.1.ID, x2664.1.Fields⟩ : D_api_Record) [.int .i64 x2664.1.ID, s2666]) rfl (fun F w h => mk25 (x := (⟨x2664.1.ID, x2664.1.Fields⟩ : D_api_Record)) h) ?_
       refine aa_op rfl ⟨57, rfl, .inl ⟨_, rfl, gdq (v := true) (decide_eq_true (by first | exact h2674 | omega)) rfl⟩⟩ ?_
       refine hv_call0 [1, 0] (f18_spec h2676) rfl rfl rfl rfl ?_
       rintro _ _ ⟨rfl, rfl⟩
       refine aa_pure 12 rfl (by kernel_rfl) rfl rfl (lt_pick true rfl (decide_eq_true (by first | exact h2674 | omega)) rfl) rfl (ts_in 0 4 rfl rfl) ?_
       refine aa_pure 13 rfl (by kernel_rfl) rfl rfl (lt_move rfl) rfl (ts_in 0 4 rfl rfl) ?_
       refine aa_pure 14 rfl (by kernel_rfl) rfl ⟨62, rfl, .inl ⟨_, rfl, gdq (v := true) h2677 rfl⟩⟩ (lt_move rfl) rfl (ts_in 0 4 rfl rfl) ?_
       refine aa_pure 15 rfl (by kernel_rfl) rfl ⟨62, rfl, .inl ⟨_, rfl, gdq (v := true) h2677 rfl⟩⟩ (lt_move rfl) rfl (ts_in 0 4 rfl rfl) ?_
       refine aa_pure 16 rfl (by kernel_rfl) rfl ⟨62, rfl, .inl ⟨_, rfl, gdq (v := true) h2677 rfl⟩⟩ (lt_eql rfl rfl) rfl (ts_in 0 4 rfl rfl) ?_
       refine aa_pure 17 rfl (by kernel_rfl) rfl rfl (lt_pick true rfl h2677 rfl) rfl (ts_in 0 4 rfl rfl) ?_
       refine aa_pure 18 rfl (by kernel_rfl) rfl rfl (lt_move rfl) rfl (ts_in 0 4 rfl rfl) ?_
       refine aa_off 19 rfl (by kernel_rfl) rfl ⟨67, rfl, .inl ⟨_, rfl, gdq (v := false) (decide_eq_false (by first | exact h2678 | omega)) rfl⟩⟩ rfl (ts_in 0 4 rfl rfl) ?_
       refine aa_off 20 rfl (by kernel_rfl) rfl ⟨67, rfl, .inl ⟨_, rfl, gdq (v := false) (decide_eq_false (by first | exact h2678 | omega)) rfl⟩⟩ rfl (ts_in 0 4 rfl rfl) ?_
       refine aa_off 21 rfl (by kernel_rfl) rfl ⟨67, rfl, .inl ⟨_, rfl, gdq (v := false) (decide_eq_false (by first | exact h2678 | omega)) rfl⟩⟩ rfl (ts_in 0 4 rfl rfl) ?_
       refine aa_off 22 rfl (by kernel_rfl) rfl ⟨67, rfl, .inl ⟨_, rfl, gdq (v := false) (decide_eq_false (by first | exact h2678 | omega)) rfl⟩⟩ rfl (ts_in 0 4 rfl rfl) ?_
       refine aa_off 23 rfl (by kernel_rfl) rfl ⟨67, rfl, .inl ⟨_, rfl, gdq (v := false) (decide_eq_false (by first | exact h2678 | omega)) rfl⟩⟩ rfl (ts_in 0 4 rfl rfl) ?_
       refine aa_off 24 rfl (by kernel_rfl) rfl ⟨67, rfl, .inl ⟨_, rfl, gdq (v := false) (decide_eq_false (by first | exact h2678 | omega)) rfl⟩⟩ rfl (ts_in 0 4 rfl rfl) ?_
       refine aa_off 25 rfl (by kernel_rfl) rfl ⟨67, rfl, .inl ⟨_, rfl, gdq (v := false) (decide_eq_false (by first | exact h2678 | omega)) rfl⟩⟩ rfl (ts_in 0 4 rfl rfl) ?_
       refine aa_off 26 rfl (by kernel_rfl) rfl ⟨67, rfl, .inl ⟨_, rfl, gdq (v := false) (decide_eq_false (by first | exact h2678 | omega)) rfl⟩⟩ rfl (ts_in 0 4 rfl rfl) ?_
       refine aa_pure 27 rfl (by kernel_rfl) rfl rfl (lt_pick false rfl (decide_eq_false (by first | exact h2678 | omega)) rfl) rfl (ts_in 0 4 rfl rfl) ?_
       refine aa_pure 28 rfl (by kernel_rfl) rfl rfl (lt_assign rfl) rfl (ts_in 0 4 rfl rfl) ?_
       refine aa_done (by kernel_rfl) (ts_in 0 4 rfl rfl) ?_
       refine at_then (at_ret ?_)
       have hq := oinj hr
       clear hr
       subst hq
       exact at_return (.bool false) [] hS Tryz.results6 (.cons (.tmp rfl) .nil) rfl rfl ⟨rfl, rfl⟩
      replace hr := ineg h2677 hr
      refine aa_start 29 (by kernel_rfl) ?_
      refine aa_l 0 rfl (lt_load_box 3 rfl ti25 rfl rfl rfl rfl rfl) (aa_l 1 rfl (lt_load_box 2 rfl ti25 rfl rfl rfl rfl rfl) (aa_one 2 ?_))
      refine at_derive [15, 16] (ty25.fact (⟨x2590.ID, x2590.Fields⟩ : D_api_Record) [.int .i64 x2590.ID, v2591]) rfl (fun F w h => mk25 (x := (⟨x2590.ID, x2590.Fields⟩ : D_api_Record)) h) ?_
      refine at_derive [14, 15] (ty25.fact (⟨x2618.1.ID, x2618.1.Fields⟩ : D_api_Record) [.int .i64 x2618.1.ID, s2620]) rfl (fun F w h => mk25 (x := (⟨x2618.1.ID, x2618.1.Fields⟩ : D_api_Record)) h) ?_
      refine aa_op rfl rfl (hv_call0 [1, 0] (f18_spec h2672) rfl rfl rfl rfl ?_)
      rintro _ _ ⟨rfl, rfl⟩
      refine aa_pure 3 rfl (by kernel_rfl) rfl rfl (lt_move rfl) rfl (ts_in 0 2 rfl rfl) ?_
      refine aa_pure 4 rfl (by kernel_rfl) rfl ⟨52, rfl, .inl ⟨_, rfl, gdq (v := true) h2673 rfl⟩⟩ (lt_move rfl) rfl (ts_in 0 2 rfl rfl) ?_
      refine aa_pure 5 rfl (by kernel_rfl) rfl ⟨52, rfl, .inl ⟨_, rfl, gdq (v := true) h2673 rfl⟩⟩ (lt_move rfl) rfl (ts_in 0 2 rfl rfl) ?_
      refine aa_pure 6 rfl (by kernel_rfl) rfl ⟨52, rfl, .inl ⟨_, rfl, gdq (v := true) h2673 rfl⟩⟩ (lt_eql rfl rfl) rfl (ts_in 0 2 rfl rfl) ?_
      refine aa_pure 7 rfl (by kernel_rfl) rfl rfl (lt_pick true rfl h2673 rfl) rfl (ts_in 0 2 rfl rfl) ?_
      refine aa_pure 8 rfl (by kernel_rfl) rfl rfl (lt_move rfl) rfl (ts_in 0 2 rfl rfl) ?_
      refine aa_load 9 rfl (by kernel_rfl) rfl ⟨57, rfl, .inl ⟨_, rfl, gdq (v := true) (decide_eq_true (by first | exact h2674 | omega)) rfl⟩⟩ (lt_load_box 1 rfl ti25 rfl rfl rfl rfl rfl) rfl (ts_in 0 2 rfl rfl) ?_
      refine aa_load 10 rfl (by kernel_rfl) rfl ⟨57, rfl, .inl ⟨_, rfl, gdq (v := true) (decide_eq_true (by first | exact h2674 | omega)) rfl⟩⟩ (lt_load_box 0 rfl ti25 rfl rfl rfl rfl rfl) rfl (ts_in 0 2 rfl rfl) ?_
      refine aa_all (rs := [11]) (by kernel_rfl) rfl (ts_in 0 2 rfl rfl) (List.forall_mem_singleton.2 ?_)
      refine at_derive [8, 9] (ty25.fact (⟨x2636.ID, x2636.Fields⟩ : D_api_Record) [.int .i64 x2636.ID, v2637]) rfl (fun F w h => mk25 (x := (⟨x2636.ID, x2636.Fields⟩ : D_api_Record)) h) ?_
      refine at_derive [3, 4] (ty25.fact (⟨x2664.1.ID, x2664.1.Fields⟩ : D_api_Record) [.int .i64 x2664.1.ID, s2666]) rfl (fun F w h => mk25 (x := (⟨x2664.1.ID, x2664.1.Fields⟩ : D_api_Record)) h) ?_
      refine aa_op rfl ⟨57, rfl, .inl ⟨_, rfl, gdq (v := true) (decide_eq_true (by first | exact h2674 | omega)) rfl⟩⟩ ?_
      refine hv_call0 [1, 0] (f18_spec h2676) rfl rfl rfl rfl ?_
      rintro _ _ ⟨rfl, rfl⟩
      refine aa_pure 12 rfl (by kernel_rfl) rfl rfl (lt_pick true rfl (decide_eq_true (by first | exact h2674 | omega)) rfl) rfl (ts_in 0 4 rfl rfl) ?_
      refine aa_pure 13 rfl (by kernel_rfl) rfl rfl (lt_move rfl) rfl (ts_in 0 4 rfl rfl) ?_
      refine aa_off 14 rfl (by kernel_rfl) rfl ⟨62, rfl, .inl ⟨_, rfl, gdq (v := false) (bf h2677) rfl⟩⟩ rfl (ts_in 0 4 rfl rfl) ?_
      refine aa_off 15 rfl (by kernel_rfl) rfl ⟨62, rfl, .inl ⟨_, rfl, gdq (v := false) (bf h2677) rfl⟩⟩ rfl (ts_in 0 4 rfl rfl) ?_
      refine aa_off 16 rfl (by kernel_rfl) rfl ⟨62, rfl, .inl ⟨_, rfl, gdq (v := false) (bf h2677) rfl⟩⟩ rfl (ts_in 0 4 rfl rfl) ?_
      refine aa_pure 17 rfl (by kernel_rfl) rfl rfl (lt_pick false rfl (bf h2677) rfl) rfl (ts_in 0 4 rfl rfl) ?_
      refine aa_pure 18 rfl (by kernel_rfl) rfl rfl (lt_move rfl) rfl (ts_in 0 4 rfl rfl) ?_
      refine aa_off 19 rfl (by kernel_rfl) rfl ⟨67, rfl, .inl ⟨_, rfl, gdq (v := false) rfl rfl⟩⟩ rfl (ts_in 0 4 rfl rfl) ?_
      refine aa_off 20 rfl (by kernel_rfl) rfl ⟨67, rfl, .inl ⟨_, rfl, gdq (v := false) rfl rfl⟩⟩ rfl (ts_in 0 4 rfl rfl) ?_
      refine aa_off 21 rfl (by kernel_rfl) rfl ⟨67, rfl, .inl ⟨_, rfl, gdq (v := false) rfl rfl⟩⟩ rfl (ts_in 0 4 rfl rfl) ?_
      refine aa_off 22 rfl (by kernel_rfl) rfl ⟨67, rfl, .inl ⟨_, rfl, gdq (v := false) rfl rfl⟩⟩ rfl (ts_in 0 4 rfl rfl) ?_
      refine aa_off 23 rfl (by kernel_rfl) rfl ⟨67, rfl, .inl ⟨_, rfl, gdq (v := false) rfl rfl⟩⟩ rfl (ts_in 0 4 rfl rfl) ?_
      refine aa_off 24 rfl (by kernel_rfl) rfl ⟨67, rfl, .inl ⟨_, rfl, gdq (v := false) rfl rfl⟩⟩ rfl (ts_in 0 4 rfl rfl) ?_
      refine aa_off 25 rfl (by kernel_rfl) rfl ⟨67, rfl, .inl ⟨_, rfl, gdq (v := false) rfl rfl⟩⟩ rfl (ts_in 0 4 rfl rfl) ?_
      refine aa_off 26 rfl (by kernel_rfl) rfl ⟨67, rfl, .inl ⟨_, rfl, gdq (v := false) rfl rfl⟩⟩ rfl (ts_in 0 4 rfl rfl) ?_
      refine aa_pure 27 rfl (by kernel_rfl) rfl rfl (lt_pick false rfl rfl rfl) rfl (ts_in 0 4 rfl rfl) ?_
      refine aa_pure 28 rfl (by kernel_rfl) rfl rfl (lt_assign rfl) rfl (ts_in 0 4 rfl rfl) ?_
      refine aa_done (by kernel_rfl) (ts_in 0 4 rfl rfl) ?_
      refine at_then (at_ret ?_)
      have hq := oinj hr
      clear hr
      subst hq
      exact at_return (.bool false) [] hS Tryz.results6 (.cons (.tmp rfl) .nil) rfl rfl ⟨rfl, rfl⟩
     replace hr := ineg h2674 hr
     refine aa_start 29 (by kernel_rfl) ?_
     refine aa_l 0 rfl (lt_load_box 3 rfl ti25 rfl rfl rfl rfl rfl) (aa_l 1 rfl (lt_load_box 2 rfl ti25 rfl rfl rfl rfl rfl) (aa_one 2 ?_))
     refine at_derive [15, 16] (ty25.fact (⟨x2590.ID, x2590.Fields⟩ : D_api_Record) [.int .i64 x2590.ID, v2591]) rfl (fun F w h => mk25 (x := (⟨x2590.ID, x2590.Fields⟩ : D_api_Record)) h) ?_
     refine at_derive [14, 15] (ty25.fact (⟨x2618.1.ID, x2618.1.Fields⟩ : D_api_Record) [.int .i64 x2618.1.ID, s2620]) rfl (fun F w h => mk25 (x := (⟨x2618.1.ID, x2618.1.Fields⟩ : D_api_Record)) h) ?_
     refine aa_op rfl rfl (hv_call0 [1, 0] (f18_spec h2672) rfl rfl rfl rfl ?_)
     rintro _ _ ⟨rfl, rfl⟩
     refine aa_pure 3 rfl (by kernel_rfl) rfl rfl (lt_move rfl) rfl (ts_in 0 2 rfl rfl) ?_
     refine aa_pure 4 rfl (by kernel_rfl) rfl ⟨52, rfl, .inl ⟨_, rfl, gdq (v := true) h2673 rfl⟩⟩ (lt_move rfl) rfl (ts_in 0 2 rfl rfl) ?_
     refine aa_pure 5 rfl (by kernel_rfl) rfl ⟨52, rfl, .inl ⟨_, rfl, gdq (v := true) h2673 rfl⟩⟩ (lt_move rfl) rfl (ts_in 0 2 rfl rfl) ?_
     refine aa_pure 6 rfl (by kernel_rfl) rfl ⟨52, rfl, .inl ⟨_, rfl, gdq (v := true) h2673 rfl⟩⟩ (lt_eql rfl rfl) rfl (ts_in 0 2 rfl rfl) ?_
     refine aa_pure 7 rfl (by kernel_rfl) rfl rfl (lt_pick true rfl h2673 rfl) rfl (ts_in 0 2 rfl rfl) ?_
     refine aa_pure 8 rfl (by kernel_rfl) rfl rfl (lt_move rfl) rfl (ts_in 0 2 rfl rfl) ?_
     refine aa_off 9 rfl (by kernel_rfl) rfl ⟨57, rfl, .inl ⟨_, rfl, gdq (v := false) (decide_eq_false (by first | exact h2674 | omega)) rfl⟩⟩ rfl (ts_in 0 2 rfl rfl) ?_
     refine aa_off 10 rfl (by kernel_rfl) rfl ⟨57, rfl, .inl ⟨_, rfl, gdq (v := false) (decide_eq_false (by first | exact h2674 | omega)) rfl⟩⟩ rfl (ts_in 0 2 rfl rfl) ?_
     refine aa_off 11 rfl (by kernel_rfl) rfl ⟨57, rfl, .inl ⟨_, rfl, gdq (v := false) (decide_eq_false (by first | exact h2674 | omega)) rfl⟩⟩ rfl (ts_in 0 2 rfl rfl) ?_
     refine aa_pure 12 rfl (by kernel_rfl) rfl rfl (lt_pick false rfl (decide_eq_false (by first | exact h2674 | omega)) rfl) rfl (ts_in 0 2 rfl rfl) ?_
     refine aa_pure 13 rfl (by kernel_rfl) rfl rfl (lt_move rfl) rfl (ts_in 0 2 rfl rfl) ?_
     refine aa_off 14 rfl (by kernel_rfl) rfl ⟨62, rfl, .inl ⟨_, rfl, gdq (v := false) rfl rfl⟩⟩ rfl (ts_in 0 2 rfl rfl) ?_
     refine aa_off 15 rfl (by kernel_rfl) rfl ⟨62, rfl, .inl ⟨_, rfl, gdq (v := false) rfl rfl⟩⟩ rfl (ts_in 0 2 rfl rfl) ?_
     refine aa_off 16 rfl (by kernel_rfl) rfl ⟨62, rfl, .inl ⟨_, rfl, gdq (v := false) rfl rfl⟩⟩ rfl (ts_in 0 2 rfl rfl) ?_
     refine aa_pure 17 rfl (by kernel_rfl) rfl rfl (lt_pick false rfl rfl rfl) rfl (ts_in 0 2 rfl rfl) ?_
     refine aa_pure 18 rfl (by kernel_rfl) rfl rfl (lt_move rfl) rfl (ts_in 0 2 rfl rfl) ?_
     refine aa_off 19 rfl (by kernel_rfl) rfl ⟨67, rfl, .inl ⟨_, rfl, gdq (v := false) rfl rfl⟩⟩ rfl (ts_in 0 2 rfl rfl) ?_
     refine aa_off 20 rfl (by kernel_rfl) rfl ⟨67, rfl, .inl ⟨_, rfl, gdq (v := false) rfl rfl⟩⟩ rfl (ts_in 0 2 rfl rfl) ?_
     refine aa_off 21 rfl (by kernel_rfl) rfl ⟨67, rfl, .inl ⟨_, rfl, gdq (v := false) rfl rfl⟩⟩ rfl (ts_in 0 2 rfl rfl) ?_
     refine aa_off 22 rfl (by kernel_rfl) rfl ⟨67, rfl, .inl ⟨_, rfl, gdq (v := false) rfl rfl⟩⟩ rfl (ts_in 0 2 rfl rfl) ?_
     refine aa_off 23 rfl (by kernel_rfl) rfl ⟨67, rfl, .inl ⟨_, rfl, gdq (v := false) rfl rfl⟩⟩ rfl (ts_in 0 2 rfl rfl) ?_
     refine aa_off 24 rfl (by kernel_rfl) rfl ⟨67, rfl, .inl ⟨_, rfl, gdq (v := false) rfl rfl⟩⟩ rfl (ts_in 0 2 rfl rfl) ?_
     refine aa_off 25 rfl (by kernel_rfl) rfl ⟨67, rfl, .inl ⟨_, rfl, gdq (v := false) rfl rfl⟩⟩ rfl (ts_in 0 2 rfl rfl) ?_
     refine aa_off 26 rfl (by kernel_rfl) rfl ⟨67, rfl, .inl ⟨_, rfl, gdq (v := false) rfl rfl⟩⟩ rfl (ts_in 0 2 rfl rfl) ?_
     refine aa_pure 27 rfl (by kernel_rfl) rfl rfl (lt_pick false rfl rfl rfl) rfl (ts_in 0 2 rfl rfl) ?_
     refine aa_pure 28 rfl (by kernel_rfl) rfl rfl (lt_assign rfl) rfl (ts_in 0 2 rfl rfl) ?_
     refine aa_done (by kernel_rfl) (ts_in 0 2 rfl rfl) ?_
     refine at_then (at_ret ?_)
     have hq := oinj hr
     clear hr
     subst hq
     exact at_return (.bool false) [] hS Tryz.results6 (.cons (.tmp rfl) .nil) rfl rfl ⟨rfl, rfl⟩
    replace hr := ineg h2673 hr
    refine aa_start 29 (by kernel_rfl) ?_
    refine aa_l 0 rfl (lt_load_box 3 rfl ti25 rfl rfl rfl rfl rfl) (aa_l 1 rfl (lt_load_box 2 rfl ti25 rfl rfl rfl rfl rfl) (aa_one 2 ?_))
    refine at_derive [15, 16] (ty25.fact (⟨x2590.ID, x2590.Fields⟩ : D_api_Record) [.int .i64 x2590.ID, v2591]) rfl (fun F w h => mk25 (x := (⟨x2590.ID, x2590.Fields⟩ : D_api_Record)) h) ?_
    refine at_derive [14, 15] (ty25.fact (⟨x2618.1.ID, x2618.1.Fields⟩ : D_api_Record) [.int .i64 x2618.1.ID, s2620]) rfl (fun F w h => mk25 (x := (⟨x2618.1.ID, x2618.1.Fields⟩ : D_api_Record)) h) ?_
    refine aa_op rfl rfl (hv_call0 [1, 0] (f18_spec h2672) rfl rfl rfl rfl ?_)
    rintro _ _ ⟨rfl, rfl⟩
    refine aa_pure 3 rfl (by kernel_rfl) rfl rfl (lt_move rfl) rfl (ts_in 0 2 rfl rfl) ?_
    refine aa_off 4 rfl (by kernel_rfl) rfl ⟨52, rfl, .inl ⟨_, rfl, gdq (v := false) (bf h2673) rfl⟩⟩ rfl (ts_in 0 2 rfl rfl) ?_
    refine aa_off 5 rfl (by kernel_rfl) rfl ⟨52, rfl, .inl ⟨_, rfl, gdq (v := false) (bf h2673) rfl⟩⟩ rfl (ts_in 0 2 rfl rfl) ?_
    refine aa_off 6 rfl (by kernel_rfl) rfl ⟨52, rfl, .inl ⟨_, rfl, gdq (v := false) (bf h2673) rfl⟩⟩ rfl (ts_in 0 2 rfl rfl) ?_
    refine aa_pure 7 rfl (by kernel_rfl) rfl rfl (lt_pick false rfl (bf h2673) rfl) rfl (ts_in 0 2 rfl rfl) ?_
    refine aa_pure 8 rfl (by kernel_rfl) rfl rfl (lt_move rfl) rfl (ts_in 0 2 rfl rfl) ?_
    refine aa_off 9 rfl (by kernel_rfl) rfl ⟨57, rfl, .inl ⟨_, rfl, gdq (v := false) rfl rfl⟩⟩ rfl (ts_in 0 2 rfl rfl) ?_
    refine aa_off 10 rfl (by kernel_rfl) rfl ⟨57, rfl, .inl ⟨_, rfl, gdq (v := false) rfl rfl⟩⟩ rfl (ts_in 0 2 rfl rfl) ?_
    refine aa_off 11 rfl (by kernel_rfl) rfl ⟨57, rfl, .inl ⟨_, rfl, gdq (v := false) rfl rfl⟩⟩ rfl (ts_in 0 2 rfl rfl) ?_
    refine aa_pure 12 rfl (by kernel_rfl) rfl rfl (lt_pick false rfl rfl rfl) rfl (ts_in 0 2 rfl rfl) ?_
    refine aa_pure 13 rfl (by kernel_rfl) rfl rfl (lt_move rfl) rfl (ts_in 0 2 rfl rfl) ?_
    refine aa_off 14 rfl (by kernel_rfl) rfl ⟨62, rfl, .inl ⟨_, rfl, gdq (v := false) rfl rfl⟩⟩ rfl (ts_in 0 2 rfl rfl) ?_
    refine aa_off 15 rfl (by kernel_rfl) rfl ⟨62, rfl, .inl ⟨_, rfl, gdq (v := false) rfl rfl⟩⟩ rfl (ts_in 0 2 rfl rfl) ?_
    refine aa_off 16 rfl (by kernel_rfl) rfl ⟨62, rfl, .inl ⟨_, rfl, gdq (v := false) rfl rfl⟩⟩ rfl (ts_in 0 2 rfl rfl) ?_
    refine aa_pure 17 rfl (by kernel_rfl) rfl rfl (lt_pick false rfl rfl rfl) rfl (ts_in 0 2 rfl rfl) ?_
    refine aa_pure 18 rfl (by kernel_rfl) rfl rfl (lt_move rfl) rfl (ts_in 0 2 rfl rfl) ?_
    refine aa_off 19 rfl (by kernel_rfl) rfl ⟨67, rfl, .inl ⟨_, rfl, gdq (v := false) rfl rfl⟩⟩ rfl (ts_in 0 2 rfl rfl) ?_
    refine aa_off 20 rfl (by kernel_rfl) rfl ⟨67, rfl, .inl ⟨_, rfl, gdq (v := false) rfl rfl⟩⟩ rfl (ts_in 0 2 rfl rfl) ?_
    refine aa_off 21 rfl (by kernel_rfl) rfl ⟨67, rfl, .inl ⟨_, rfl, gdq (v := false) rfl rfl⟩⟩ rfl (ts_in 0 2 rfl rfl) ?_
    refine aa_off 22 rfl (by kernel_rfl) rfl ⟨67, rfl, .inl ⟨_, rfl, gdq (v := false) rfl rfl⟩⟩ rfl (ts_in 0 2 rfl rfl) ?_
    refine aa_off 23 rfl (by kernel_rfl) rfl ⟨67, rfl, .inl ⟨_, rfl, gdq (v := false) rfl rfl⟩⟩ rfl (ts_in 0 2 rfl rfl) ?_
    refine aa_off 24 rfl (by kernel_rfl) rfl ⟨67, rfl, .inl ⟨_, rfl, gdq (v := false) rfl rfl⟩⟩ rfl (ts_in 0 2 rfl rfl) ?_
    refine aa_off 25 rfl (by kernel_rfl) rfl ⟨67, rfl, .inl ⟨_, rfl, gdq (v := false) rfl rfl⟩⟩ rfl (ts_in 0 2 rfl rfl) ?_
    refine aa_off 26 rfl (by kernel_rfl) rfl ⟨67, rfl, .inl ⟨_, rfl, gdq (v := false) rfl rfl⟩⟩ rfl (ts_in 0 2 rfl rfl) ?_
    refine aa_pure 27 rfl (by kernel_rfl) rfl rfl (lt_pick false rfl rfl rfl) rfl (ts_in 0 2 rfl rfl) ?_
    refine aa_pure 28 rfl (by kernel_rfl) rfl rfl (lt_assign rfl) rfl (ts_in 0 2 rfl rfl) ?_
    refine aa_done (by kernel_rfl) (ts_in 0 2 rfl rfl) ?_
    refine at_then (at_ret ?_)
    have hq := oinj hr
    clear hr
    subst hq
    exact at_return (.bool false) [] hS Tryz.results6 (.cons (.tmp rfl) .nil) rfl rfl ⟨rfl, rfl⟩
   replace hr := ineg h2578 hr
   refine at_true rfl (nf (bf h2578)) (s_sr (s_as rfl (s_nt (at_ret ?_))))
   have hq := oinj hr
   clear hr
   subst hq
   refine at_then_ret ?_
   exact at_return (.bool true) [] hS Tryz.results6 (.cons (.tmp rfl) .nil) rfl rfl ⟨rfl, rfl⟩
  replace hr := ineg h2575 hr
  refine at_off rfl rfl (nf (bf h2575)) rfl (at_off rfl rfl (nf (bf h2575)) rfl (at_off rfl rfl (nf (bf h2575)) rfl (at_lt (lt_pick true rfl (nf (bf h2575)) rfl) rfl (s_nt (at_true rfl rfl (s_sr (s_as rfl (s_nt (at_ret ?_)))))))))
  have hq := oinj hr
  clear hr
  subst hq
  refine at_then_ret ?_
  exact at_return (.bool true) [] hS Tryz.results6 (.cons (.tmp rfl) .nil) rfl rfl ⟨rfl, rfl⟩
 replace hr := ineg h2572 hr
 refine at_true rfl (nf (bf h2572)) (s_sr (s_as rfl (s_nt (at_ret ?_))))
 have hq := oinj hr
 clear hr
 subst hq
 refine at_then_ret ?_
 exact at_return (.bool false) [] hS Tryz.results6 (.cons (.tmp rfl) .nil) rfl rfl ⟨rfl, rfl⟩
end Go.WK.S
