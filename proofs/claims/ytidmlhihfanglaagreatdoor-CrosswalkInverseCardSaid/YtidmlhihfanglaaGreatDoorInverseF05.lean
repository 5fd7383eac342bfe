
/- What functions of this program compute: a model of each, and the proof that it is kept. -/
import Derived.Test.YtidmlhihfanglaaGreatDoorInverseF04
import Derived.KernelRfl
set_option linter.unusedSimpArgs false
set_option linter.unusedVariables false
namespace Go.WK.S
open Go Go.Proofs Go.WK Go.RowKit
set_option linter.unusedVariables false
set_option maxRecDepth 100000
set_option maxHeartbeats 4000000
def m8 (a0 : (List D_ref16_Entry)) (a1 : D_api_Record) : Option Bool :=
  (m10).bind fun x2112 =>
  if x2112 = true then
   (m11 a0).bind fun x2115 =>
   if x2115 = true then
    (m12 (⟨a1.ID, a1.Fields⟩ : D_api_Record) 12).bind fun x2118 =>
    if x2118 = true then
     (m32 a0).bind fun x2121 =>
     if x2121 = true then
      (m15 a0).bind fun x2124 =>
      (m33 x2124).bind fun x2127 =>
      (m33 x2127.1).bind fun x2131 =>
      (m14 x2127.1 (⟨a1.ID, a1.Fields⟩ : D_api_Record)).bind fun x2135 =>
      Option.bind (α := (Int × D_api_Record)) (
       (m15 a0).bind fun x2158 =>
       (m16 x2158 (⟨a1.ID, a1.Fields⟩ : D_api_Record)).bind fun x2161 =>
       some (x2161.2, (⟨x2161.1.ID, x2161.1.Fields⟩ : D_api_Record))
      ) fun (x2152, x2153) =>
      if x2127.2 = 0 then
       if x2131.2 = 0 then
        (m22 x2131.1).bind fun x2183 =>
        (m21 x2183 a0).bind fun x2186 =>
        if x2186 = true then
         (m18 (⟨x2135.1.ID, x2135.1.Fields⟩ : D_api_Record) (⟨x2153.ID, x2153.Fields⟩ : D_api_Record)).bind fun x2189 =>
         if x2189 = true then
          some (decide (x2135.2 = x2152))
         else
          some false
        else
         some false
       else
        some false
      else
       some false
     else
      some true
    else
     some true
   else
    some true
  else
   some false
def post8 (r : Bool) (v : Value) (fs : List Fact) : Prop := v = .bool r ∧ fs = []
theorem en8 : Enters Tryz.prog 8 := ⟨_, Tryz.func8, by kernel_rfl, rfl⟩
theorem f8_spec {a0 : (List D_ref16_Entry)} {a1 : D_api_Record} {w2108 : Value} {s2109 : Value} {r : Bool} (hr : m8 a0 a1 = some r) : Spec Tryz.prog 8 [w2108, .agg #[.int .i64 a1.ID, s2109]] [((Ty.slice ty50).fact a0 [w2108]), (ty25.fact a1 [.int .i64 a1.ID, s2109]), (utf8F 1 2)] (post8 r) := by
 refine spec_start (N := 74) Tryz.func8 (by kernel_rfl) rfl rfl rfl ?_
 intro g hS
 unfold m8 at hr
 refine at_open (A := Unit) 1 rfl (fun _ => True) (fun _ => [((Ty.int .i64).fact a1.ID [.int .i64 a1.ID]), ((Ty.slice ty69).fact a1.Fields [s2109])]) (fun F w h => ⟨(), trivial, ex25 h⟩) (fun _ _ => ?_)
 refine at_inv 0 rfl (fun l2110 => ?_)
 replace l2110 : (-9223372036854775808) ≤ a1.ID ∧ a1.ID ≤ 9223372036854775807 := l2110
 refine s_sr (at_hv rfl ?_)
 refine hv_box (cs := [.int .i64 a1.ID, s2109]) rfl rfl rfl (fun b2111 => ?_)
 refine s_as rfl (s_nt (at_seq (s_sr ?_)))
 replace hr := obind hr
 obtain ⟨x2112, h2113, hr⟩ := hr
 refine at_hv rfl (hv_call0 [4] (f10_spec h2113) rfl rfl rfl rfl ?_)
 rintro _ _ ⟨rfl, rfl⟩
 refine at_lt (lt_not rfl) rfl (s_nt ?_)
 by_cases h2114 : x2112 = true
 ·replace hr := ipos h2114 hr
  refine at_false rfl (nt h2114) (at_skip (at_then (at_seq (s_sr (s_mv rfl ?_)))))
  replace hr := obind hr
  obtain ⟨x2115, h2116, hr⟩ := hr
  refine at_hv rfl (hv_call0 [2] (f11_spec h2116) rfl rfl rfl rfl ?_)
  rintro _ _ ⟨rfl, rfl⟩
  refine at_lt (lt_not rfl) rfl (s_mv rfl ?_)
  by_cases h2117 : x2115 = true
  ·replace hr := ipos h2117 hr
   refine at_on rfl rfl (nt h2117) (at_lt (lt_load_box 0 rfl ti25 rfl rfl rfl rfl rfl) rfl ?_)
   replace hr := obind hr
   obtain ⟨x2118, h2119, hr⟩ := hr
   refine at_derive [0, 1] (ty25.fact (⟨a1.ID, a1.Fields⟩ : D_api_Record) [.int .i64 a1.ID, s2109]) rfl (fun F w h => mk25 (x := (⟨a1.ID, a1.Fields⟩ : D_api_Record)) h) ?_
   refine at_int .i64 12 (by simp only [lo, hi]; omega) (at_on rfl rfl (nt h2117) (at_hv rfl (hv_call0 [1, 0] (f12_spec h2119) rfl rfl rfl rfl ?_)))
   rintro _ _ ⟨rfl, rfl⟩
   refine at_on rfl rfl (nt h2117) (at_lt (lt_not rfl) rfl (at_lt (lt_pick false rfl (nt h2117) rfl) rfl (s_mv rfl ?_)))
   by_cases h2120 : x2118 = true
   ·replace hr := ipos h2120 hr
    refine at_on rfl rfl (nt h2120) (s_mv rfl ?_)
    replace hr := obind hr
    obtain ⟨x2121, h2122, hr⟩ := hr
    refine at_on rfl rfl (nt h2120) (at_hv rfl (hv_call0 [4] (f32_spec h2122) rfl rfl rfl rfl ?_))
    rintro _ _ ⟨rfl, rfl⟩
    refine at_on rfl rfl (nt h2120) (at_lt (lt_not rfl) rfl (at_lt (lt_pick false rfl (nt h2120) rfl) rfl (s_nt ?_)))
    by_cases h2123 : x2121 = true
    ·replace hr := ipos h2123 hr
     refine at_false rfl (nt h2123) (at_skip (s_tsr (s_mv rfl ?_)))
     replace hr := obind hr
     obtain ⟨x2124, h2125, hr⟩ := hr
     refine at_hv rfl (hv_call0 [4] (f15_spec h2125) rfl rfl rfl rfl ?_)
     rintro s2126 _ ⟨_, rfl, rfl⟩
     replace hr := obind hr
     obtain ⟨x2127, h2128, hr⟩ := hr
     refine at_hv rfl (hv_call0 [0] (f33_spec h2128) rfl rfl rfl rfl ?_)
     rintro _ _ ⟨s2129, rfl, rfl⟩
     refine at_inv 1 rfl (fun l2130 => ?_)
     replace l2130 : (-9223372036854775808) ≤ x2127.2 ∧ x2127.2 ≤ 9223372036854775807 := l2130
     refine s_mv rfl (at_lt (lt_extract rfl rfl) rfl (at_lt (lt_extract rfl rfl) rfl (s_as rfl (s_as rfl (s_ntsr (s_mv rfl ?_))))))
     replace hr := obind hr
     obtain ⟨x2131, h2132, hr⟩ := hr
     refine at_hv rfl (hv_call0 [0] (f33_spec h2132) rfl rfl rfl rfl ?_)
     rintro _ _ ⟨s2133, rfl, rfl⟩
     refine at_inv 1 rfl (fun l2134 => ?_)
     replace l2134 : (-9223372036854775808) ≤ x2131.2 ∧ x2131.2 ≤ 9223372036854775807 := l2134
     refine s_mv rfl (at_lt (lt_extract rfl rfl) rfl (at_lt (lt_extract rfl rfl) rfl (s_as rfl (s_as rfl (s_ntsr (s_mv rfl (at_lt (lt_load_box 0 rfl ti25 rfl rfl rfl rfl rfl) rfl ?_)))))))
     replace hr := obind hr
     obtain ⟨x2135, h2136, hr⟩ := hr
     refine at_hv rfl (hv_call0 [2, 6, 11] (f14_spec h2136) rfl rfl rfl rfl ?_)
     rintro _ _ ⟨s2137, rfl, rfl⟩
     refine at_open (A := Unit) 0 rfl (fun _ => True) (fun _ => [((Ty.int .i64).fact x2135.1.ID [.int .i64 x2135.1.ID]), ((Ty.slice ty69).fact x2135.1.Fields [s2137])]) (fun F w h => ⟨(), trivial, ex25 h⟩) (fun _ _ => ?_)
     refine at_inv 0 rfl (fun l2138 => ?_)
     replace l2138 : (-9223372036854775808) ≤ x2135.1.ID ∧ x2135.1.ID ≤ 9223372036854775807 := l2138
     refine at_inv 3 rfl (fun l2139 => ?_)
     replace l2139 : (-9223372036854775808) ≤ x2135.2 ∧ x2135.2 ≤ 9223372036854775807 := l2139
     refine s_mv rfl (at_lt (lt_extract rfl rfl) rfl (at_lt (lt_extract rfl rfl) rfl (at_hv rfl ?_)))
     refine hv_alloc (cs := [.int .i64 0, (.slice none 0 0)]) ti25 rfl rfl (fun b2140 => ?_)
     refine at_one 1 rfl (fun ho2141 => ?_)
     refine at_hv rfl (hv_store_box 0 (cs' := [.int .i64 x2135.1.ID, s2137]) rfl rfl ti25 rfl rfl rfl rfl (allc rfl (allc ho2141 rfl)) (s_as rfl (s_nt (at_seq ?_))))
     replace hr := obind hr
     obtain ⟨r2156, hc2157, hr⟩ := hr
     refine at_cut (V := Value × Nat) (fun e => (⟨[(0, w2108), (6, .int .i64 x2127.2), (7, s2133), (8, .int .i64 x2131.2), (9, .pointer (some (Addr.add ⟨b2140, 0, none⟩ 0))), (10, .int .i64 x2135.2), (11, .pointer (some (Addr.add ⟨e.2, 0, none⟩ 0))), (12, .int .i64 r2156.1)], [⟨e.2, [.int .i64 r2156.2.ID, e.1], 25⟩, ⟨b2140, [.int .i64 x2135.1.ID, s2137], 25⟩], [], [((Ty.int .i64).fact r2156.1 [.int .i64 r2156.1]), ((Ty.int .i64).fact r2156.2.ID [.int .i64 r2156.2.ID]), ((Ty.slice ty69).fact r2156.2.Fields [e.1]), ((Ty.slice ty50).fact a0 [w2108]), ((Ty.int .i64).fact x2127.2 [.int .i64 x2127.2]), ((Ty.slice ty76).fact x2131.1 [s2133]), ((Ty.int .i64).fact x2131.2 [.int .i64 x2131.2]), ((Ty.int .i64).fact x2135.2 [.int .i64 x2135.2]), ((Ty.int .i64).fact x2135.1.ID [.int .i64 x2135.1.ID]), ((Ty.slice ty69).fact x2135.1.Fields [s2137]), (utf8F 1 2)]⟩ : St)) ?_ ?_
     ·clear hr
      have hr := hc2157
      clear hc2157
      replace hr := obind hr
      obtain ⟨x2158, h2159, hr⟩ := hr
      replace hr := obind hr
      obtain ⟨x2161, h2162, hr⟩ := hr
      refine aa_start 10 (by kernel_rfl) ?_
      refine aa_p 0 rfl (lt_move rfl) (aa_l 2 rfl (lt_load_box 1 rfl ti25 rfl rfl rfl rfl rfl) ?_)
      refine aa_all (rs := [1, 7]) (by kernel_rfl) rfl (ts_in 0 0 rfl rfl) (List.forall_mem_cons.2 ⟨?_, (List.forall_mem_singleton.2 ?_)⟩)
      ·refine aa_op rfl rfl ?_
       refine hv_call0 [13] (f15_spec h2159) rfl rfl rfl rfl ?_
       rintro s2160 _ ⟨_, rfl, rfl⟩
       refine aa_all (rs := [3, 7]) (by kernel_rfl) rfl (ts_in 0 1 rfl rfl) (List.forall_mem_cons.2 ⟨?_, (List.forall_mem_singleton.2 ?_)⟩)
       ·refine aa_op rfl rfl ?_
        refine hv_call0 [0, 11, 16] (f16_spec h2162) rfl rfl rfl rfl ?_
        rintro _ _ ⟨s2163, rfl, rfl⟩
        refine at_open (A := Unit) 0 rfl (fun _ => True) (fun _ => [((Ty.int .i64).fact x2161.1.ID [.int .i64 x2161.1.ID]), ((Ty.slice ty69).fact x2161.1.Fields [s2163])]) (fun F w h => ⟨(), trivial, ex25 h⟩) (fun _ _ => ?_)
        refine at_inv 0 rfl (fun l2168 => ?_)
        replace l2168 : (-9223372036854775808) ≤ x2161.1.ID ∧ x2161.1.ID ≤ 9223372036854775807 := l2168
        refine at_inv 3 rfl (fun l2169 => ?_)
        replace l2169 : (-9223372036854775808) ≤ x2161.2 ∧ x2161.2 ≤ 9223372036854775807 := l2169
        refine aa_pure 4 rfl (by kernel_rfl) rfl rfl (lt_move rfl) rfl (ts_in 0 5 rfl rfl) ?_
        refine aa_pure 5 rfl (by kernel_rfl) rfl rfl (lt_extract rfl rfl) rfl (ts_in 0 5 rfl rfl) ?_
        refine aa_pure 6 rfl (by kernel_rfl) rfl rfl (lt_extract rfl rfl) rfl (ts_in 0 5 rfl rfl) ?_
        refine aa_all (rs := [7]) (by kernel_rfl) rfl (ts_in 0 5 rfl rfl) (List.forall_mem_singleton.2 ?_)
        refine aa_op rfl rfl ?_
        refine hv_alloc (cs := [.int .i64 0, (.slice none 0 0)]) ti25 rfl rfl (fun b2170 => ?_)
        refine aa_all (rs := [8]) (by kernel_rfl) rfl (ts_in 1 5 rfl rfl) (List.forall_mem_singleton.2 ?_)
        refine at_one 1 rfl (fun ho2171 => ?_)
        refine aa_op rfl rfl (hv_store_box 0 (cs' := [.int .i64 x2161.1.ID, s2163]) rfl rfl ti25 rfl rfl rfl rfl (allc rfl (allc ho2171 rfl)) ?_)
        refine aa_pure 9 rfl (by kernel_rfl) rfl rfl (lt_assign rfl) rfl (ts_in 1 5 rfl rfl) ?_
        refine aa_done (by kernel_rfl) (ts_in 1 5 rfl rfl) ?_
        have hq := oinj hr
        clear hr
        subst hq
        exact at_leaf (s2163, b2170) ⟨⟨rfl, ⟨rfl, ⟨rfl, ⟨rfl, ⟨rfl, ⟨rfl, ⟨rfl, ⟨rfl, trivial⟩⟩⟩⟩⟩⟩⟩⟩, ⟨[true, true, false], rfl⟩, ⟨[], rfl⟩, ⟨[3, 0, 1, 18, 12, 9, 10, 8, 5, 6, 20], rfl⟩⟩
       ·refine aa_op rfl rfl ?_
        refine hv_alloc (cs := [.int .i64 0, (.slice none 0 0)]) ti25 rfl rfl (fun b2172 => ?_)
        refine aa_all (rs := [3]) (by kernel_rfl) rfl (ts_in 1 1 rfl rfl) (List.forall_mem_singleton.2 ?_)
        refine aa_op rfl rfl (hv_call0 [0, 11, 16] (f16_spec h2162) rfl rfl rfl rfl ?_)
        rintro _ _ ⟨s2163, rfl, rfl⟩
        refine at_open (A := Unit) 0 rfl (fun _ => True) (fun _ => [((Ty.int .i64).fact x2161.1.ID [.int .i64 x2161.1.ID]), ((Ty.slice ty69).fact x2161.1.Fields [s2163])]) (fun F w h => ⟨(), trivial, ex25 h⟩) (fun _ _ => ?_)
        refine at_inv 0 rfl (fun l2173 => ?_)
        replace l2173 : (-9223372036854775808) ≤ x2161.1.ID ∧ x2161.1.ID ≤ 9223372036854775807 := l2173
        refine at_inv 3 rfl (fun l2174 => ?_)
        replace l2174 : (-9223372036854775808) ≤ x2161.2 ∧ x2161.2 ≤ 9223372036854775807 := l2174
        refine aa_pure 4 rfl (by kernel_rfl) rfl rfl (lt_move rfl) rfl (ts_in 1 5 rfl rfl) ?_
        refine aa_pure 5 rfl (by kernel_rfl) rfl rfl (lt_extract rfl rfl) rfl (ts_in 1 5 rfl rfl) ?_
        refine aa_pure 6 rfl (by kernel_rfl) rfl rfl (lt_extract rfl rfl) rfl (ts_in 1 5 rfl rfl) ?_
        refine aa_all (rs := [8]) (by kernel_rfl) rfl (ts_in 1 5 rfl rfl) (List.forall_mem_singleton.2 ?_)
        refine at_one 1 rfl (fun ho2175 => ?_)
        refine aa_op rfl rfl (hv_store_box 0 (cs' := [.int .i64 x2161.1.ID, s2163]) rfl rfl ti25 rfl rfl rfl rfl (allc rfl (allc ho2175 rfl)) ?_)
        refine aa_pure 9 rfl (by kernel_rfl) rfl rfl (lt_assign rfl) rfl (ts_in 1 5 rfl rfl) ?_
        refine aa_done (by kernel_rfl) (ts_in 1 5 rfl rfl) ?_
        have hq := oinj hr
        clear hr
        subst hq
        exact at_leaf (s2163, b2172) ⟨⟨rfl, ⟨rfl, ⟨rfl, ⟨rfl, ⟨rfl, ⟨rfl, ⟨rfl, ⟨rfl, trivial⟩⟩⟩⟩⟩⟩⟩⟩, ⟨[true, true, false], rfl⟩, ⟨[], rfl⟩, ⟨[3, 0, 1, 18, 12, 9, 10, 8, 5, 6, 20], rfl⟩⟩
      ·refine aa_op rfl rfl ?_
       refine hv_alloc (cs := [.int .i64 0, (.slice none 0 0)]) ti25 rfl rfl (fun b2176 => ?_)
       refine aa_all (rs := [1]) (by kernel_rfl) rfl (ts_in 1 0 rfl rfl) (List.forall_mem_singleton.2 ?_)
       refine aa_op rfl rfl (hv_call0 [13] (f15_spec h2159) rfl rfl rfl rfl ?_)
       rintro s2160 _ ⟨_, rfl, rfl⟩
       refine aa_all (rs := [3]) (by kernel_rfl) rfl (ts_in 1 1 rfl rfl) (List.forall_mem_singleton.2 ?_)
       refine aa_op rfl rfl (hv_call0 [0, 11, 16] (f16_spec h2162) rfl rfl rfl rfl ?_)
       rintro _ _ ⟨s2163, rfl, rfl⟩
       refine at_open (A := Unit) 0 rfl (fun _ => True) (fun _ => [((Ty.int .i64).fact x2161.1.ID [.int .i64 x2161.1.ID]), ((Ty.slice ty69).fact x2161.1.Fields [s2163])]) (fun F w h => ⟨(), trivial, ex25 h⟩) (fun _ _ => ?_)
       refine at_inv 0 rfl (fun l2177 => ?_)
       replace l2177 : (-9223372036854775808) ≤ x2161.1.ID ∧ x2161.1.ID ≤ 9223372036854775807 := l2177
       refine at_inv 3 rfl (fun l2178 => ?_)
       replace l2178 : (-9223372036854775808) ≤ x2161.2 ∧ x2161.2 ≤ 9223372036854775807 := l2178
       refine aa_pure 4 rfl (by kernel_rfl) rfl rfl (lt_move rfl) rfl (ts_in 1 5 rfl rfl) ?_
       refine aa_pure 5 rfl (by kernel_rfl) rfl rfl (lt_extract rfl rfl) rfl (ts_in 1 5 rfl rfl) ?_
       refine aa_pure 6 rfl (by kernel_rfl) rfl rfl (lt_extract rfl rfl) rfl (ts_in 1 5 rfl rfl) ?_
       refine aa_all (rs := [8]) (by kernel_rfl) rfl (ts_in 1 5 rfl rfl) (List.forall_mem_singleton.2 ?_)
       refine at_one 1 rfl (fun ho2179 => ?_)
       refine aa_op rfl rfl (hv_store_box 0 (cs' := [.int .i64 x2161.1.ID, s2163]) rfl rfl ti25 rfl rfl rfl rfl (allc rfl (allc ho2179 rfl)) ?_)
       refine aa_pure 9 rfl (by kernel_rfl) rfl rfl (lt_assign rfl) rfl (ts_in 1 5 rfl rfl) ?_
       refine aa_done (by kernel_rfl) (ts_in 1 5 rfl rfl) ?_
       have hq := oinj hr
       clear hr
       subst hq
       exact at_leaf (s2163, b2176) ⟨⟨rfl, ⟨rfl, ⟨rfl, ⟨rfl, ⟨rfl, ⟨rfl, ⟨rfl, ⟨rfl, trivial⟩⟩⟩⟩⟩⟩⟩⟩, ⟨[true, true, false], rfl⟩, ⟨[], rfl⟩, ⟨[3, 0, 1, 18, 12, 9, 10, 8, 5, 6, 20], rfl⟩⟩
     clear hc2157
     obtain ⟨x2152, x2153⟩ := r2156
     intro e
     obtain ⟨v2154, n2155⟩ := e
     change At _ _ (⟨[(0, w2108), (6, .int .i64 x2127.2), (7, s2133), (8, .int .i64 x2131.2), (9, .pointer (some (Addr.add ⟨b2140, 0, none⟩ 0))), (10, .int .i64 x2135.2), (11, .pointer (some (Addr.add ⟨n2155, 0, none⟩ 0))), (12, .int .i64 x2152)], [⟨n2155, [.int .i64 x2153.ID, v2154], 25⟩, ⟨b2140, [.int .i64 x2135.1.ID, s2137], 25⟩], [], [((Ty.int .i64).fact x2152 [.int .i64 x2152]), ((Ty.int .i64).fact x2153.ID [.int .i64 x2153.ID]), ((Ty.slice ty69).fact x2153.Fields [v2154]), ((Ty.slice ty50).fact a0 [w2108]), ((Ty.int .i64).fact x2127.2 [.int .i64 x2127.2]), ((Ty.slice ty76).fact x2131.1 [s2133]), ((Ty.int .i64).fact x2131.2 [.int .i64 x2131.2]), ((Ty.int .i64).fact x2135.2 [.int .i64 x2135.2]), ((Ty.int .i64).fact x2135.1.ID [.int .i64 x2135.1.ID]), ((Ty.slice ty69).fact x2135.1.Fields [s2137]), (utf8F 1 2)]⟩ : St) _
     refine at_inv 0 rfl (fun l2180 => ?_)
     replace l2180 : (-9223372036854775808) ≤ x2152 ∧ x2152 ≤ 9223372036854775807 := l2180
     refine s_tsr (s_mv rfl (at_lt (lt_eql rfl rfl) rfl (s_mv rfl ?_)))
     by_cases h2181 : x2127.2 = 0
     ·replace hr := ipos h2181 hr
      refine at_on rfl rfl (decide_eq_true (by first | exact h2181 | omega)) ?_
      refine s_mv rfl ?_
      refine at_on rfl rfl (decide_eq_true (by first | exact h2181 | omega)) ?_
      refine at_lt (lt_eql rfl rfl) rfl ?_
      refine at_lt (lt_pick true rfl (decide_eq_true (by first | exact h2181 | omega)) rfl) rfl ?_
      refine s_mv rfl ?_
      by_cases h2182 : x2131.2 = 0
      ·replace hr := ipos h2182 hr
       refine at_on rfl rfl (decide_eq_true (by first | exact h2182 | omega)) ?_
       refine s_mv rfl ?_
       replace hr := obind hr
       obtain ⟨x2183, h2184, hr⟩ := hr
       refine at_on rfl rfl (decide_eq_true (by first | exact h2182 | omega)) ?_
       refine at_hv rfl (hv_call0 [5] (f22_spec h2184) rfl rfl rfl rfl ?_)
       rintro s2185 _ ⟨_, rfl, rfl⟩
       refine at_on rfl rfl (decide_eq_true (by first | exact h2182 | omega)) ?_
       refine s_mv rfl ?_
       replace hr := obind hr
       obtain ⟨x2186, h2187, hr⟩ := hr
       refine at_on rfl rfl (decide_eq_true (by first | exact h2182 | omega)) ?_
       refine at_hv rfl (hv_call0 [0, 4] (f21_spec h2187) rfl rfl rfl rfl ?_)
       rintro _ _ ⟨rfl, rfl⟩
       refine at_lt (lt_pick true rfl (decide_eq_true (by first | exact h2182 | omega)) rfl) rfl ?_
       refine s_mv rfl ?_
       by_cases h2188 : x2186 = true
       ·replace hr := ipos h2188 hr
        refine at_on rfl rfl h2188 (at_lt (lt_load_box 1 rfl ti25 rfl rfl rfl rfl rfl) rfl (at_on rfl rfl h2188 (at_lt (lt_load_box 0 rfl ti25 rfl rfl rfl rfl rfl) rfl ?_)))
        replace hr := obind hr
        obtain ⟨x2189, h2190, hr⟩ := hr
        refine at_derive [9, 10] (ty25.fact (⟨x2135.1.ID, x2135.1.Fields⟩ : D_api_Record) [.int .i64 x2135.1.ID, s2137]) rfl (fun F w h => mk25 (x := (⟨x2135.1.ID, x2135.1.Fields⟩ : D_api_Record)) h) ?_
        refine at_derive [3, 4] (ty25.fact (⟨x2153.ID, x2153.Fields⟩ : D_api_Record) [.int .i64 x2153.ID, v2154]) rfl (fun F w h => mk25 (x := (⟨x2153.ID, x2153.Fields⟩ : D_api_Record)) h) ?_
        refine at_on rfl rfl h2188 (at_hv rfl (hv_call0 [1, 0] (f18_spec h2190) rfl rfl rfl rfl ?_))
        rintro _ _ ⟨rfl, rfl⟩
        refine at_lt (lt_pick true rfl h2188 rfl) rfl (s_mv rfl ?_)
        by_cases h2191 : x2189 = true
        ·replace hr := ipos h2191 hr
         refine at_on rfl rfl h2191 (s_mv rfl (at_on rfl rfl h2191 (s_mv rfl (at_on rfl rfl h2191 (at_lt (lt_eql rfl rfl) rfl (at_lt (lt_pick true rfl h2191 rfl) rfl (s_as rfl (s_nt (at_ret ?_)))))))))
         have hq := oinj hr
         clear hr
         subst hq
         exact at_return (.bool (decide (x2135.2 = x2152))) [] hS Tryz.results8 (.cons (.tmp rfl) .nil) rfl rfl ⟨rfl, rfl⟩
        replace hr := ineg h2191 hr
        refine at_off rfl rfl (bf h2191) rfl (at_off rfl rfl (bf h2191) rfl (at_off rfl rfl (bf h2191) rfl (at_lt (lt_pick false rfl (bf h2191) rfl) rfl (s_as rfl (s_nt (at_ret ?_))))))
        have hq := oinj hr
        clear hr
        subst hq
        exact at_return (.bool false) [] hS Tryz.results8 (.cons (.tmp rfl) .nil) rfl rfl ⟨rfl, rfl⟩
       replace hr := ineg h2188 hr
       refine at_off rfl rfl (bf h2188) rfl (at_off rfl rfl (bf h2188) rfl (at_off rfl rfl (bf h2188) rfl (at_lt (lt_pick false rfl (bf h2188) rfl) rfl (s_mv rfl (at_off rfl rfl rfl rfl (at_off rfl rfl rfl rfl (at_off rfl rfl rfl rfl (at_lt (lt_pick false rfl rfl rfl) rfl (s_as rfl ?_)))))))))
       refine s_nt (at_ret ?_)
       have hq := oinj hr
       clear hr
       subst hq
       exact at_return (.bool false) [] hS Tryz.results8 (.cons (.tmp rfl) .nil) rfl rfl ⟨rfl, rfl⟩
      replace hr := ineg h2182 hr
      refine at_off rfl rfl (decide_eq_false (by first | exact h2182 | omega)) rfl ?_
      refine at_off rfl rfl (decide_eq_false (by first | exact h2182 | omega)) rfl ?_
      refine at_off rfl rfl (decide_eq_false (by first | exact h2182 | omega)) rfl ?_
      refine at_off rfl rfl (decide_eq_false (by first | exact h2182 | omega)) rfl ?_
      refine at_lt (lt_pick false rfl (decide_eq_false (by first | exact h2182 | omega)) rfl) rfl ?_
      refine s_mv rfl (at_off rfl rfl rfl rfl (at_off rfl rfl rfl rfl (at_off rfl rfl rfl rfl (at_lt (lt_pick false rfl rfl rfl) rfl (s_mv rfl (at_off rfl rfl rfl rfl (at_off rfl rfl rfl rfl (at_off rfl rfl rfl rfl (at_lt (lt_pick false rfl rfl rfl) rfl ?_)))))))))
      refine s_as rfl (s_nt (at_ret ?_))
      have hq := oinj hr
      clear hr
      subst hq
      exact at_return (.bool false) [] hS Tryz.results8 (.cons (.tmp rfl) .nil) rfl rfl ⟨rfl, rfl⟩
     replace hr := ineg h2181 hr
     refine at_off rfl rfl (decide_eq_false (by first | exact h2181 | omega)) rfl ?_
     refine at_off rfl rfl (decide_eq_false (by first | exact h2181 | omega)) rfl ?_
     refine at_lt (lt_pick false rfl (decide_eq_false (by first | exact h2181 | omega)) rfl) rfl ?_
     refine s_mv rfl (at_off rfl rfl rfl rfl (at_off rfl rfl rfl rfl (at_off rfl rfl rfl rfl (at_off rfl rfl rfl rfl (at_lt (lt_pick false rfl rfl rfl) rfl (s_mv rfl (at_off rfl rfl rfl rfl (at_off rfl rfl rfl rfl (at_off rfl rfl rfl rfl ?_)))))))))
     refine at_lt (lt_pick false rfl rfl rfl) rfl (s_mv rfl (at_off rfl rfl rfl rfl (at_off rfl rfl rfl rfl (at_off rfl rfl rfl rfl (at_lt (lt_pick false rfl rfl rfl) rfl (s_as rfl (s_nt (at_ret ?_))))))))
     have hq := oinj hr
     clear hr
     subst hq
     exact at_return (.bool false) [] hS Tryz.results8 (.cons (.tmp rfl) .nil) rfl rfl ⟨rfl, rfl⟩
    replace hr := ineg h2123 hr
    refine at_true rfl (nf (bf h2123)) (s_sr (s_as rfl (s_nt (at_ret ?_))))
    have hq := oinj hr
    clear hr
    subst hq
    refine at_then_ret ?_
    exact at_return (.bool true) [] hS Tryz.results8 (.cons (.tmp rfl) .nil) rfl rfl ⟨rfl, rfl⟩
   replace hr := ineg h2120 hr
   refine at_off rfl rfl (nf (bf h2120)) rfl (at_off rfl rfl (nf (bf h2120)) rfl (at_off rfl rfl (nf (bf h2120)) rfl (at_lt (lt_pick true rfl (nf (bf h2120)) rfl) rfl (s_nt (at_true rfl rfl (s_sr (s_as rfl (s_nt (at_ret ?_)))))))))
   have hq := oinj hr
   clear hr
   subst hq
   refine at_then_ret ?_
   exact at_return (.bool true) [] hS Tryz.results8 (.cons (.tmp rfl) .nil) rfl rfl ⟨rfl, rfl⟩
  replace hr := ineg h2117 hr
  refine at_off rfl rfl (nf (bf h2117)) rfl (at_off rfl rfl (nf (bf h2117)) rfl (at_off rfl rfl (nf (bf h2117)) rfl (at_lt (lt_pick true rfl (nf (bf h2117)) rfl) rfl (s_mv rfl (at_off rfl rfl rfl rfl (at_off rfl rfl rfl rfl (at_off rfl rfl rfl rfl (at_lt (lt_pick true rfl rfl rfl) rfl (s_nt ?_)))))))))
  refine at_true rfl rfl (s_sr (s_as rfl (s_nt (at_ret ?_))))
  have hq := oinj hr
  clear hr
  subst hq
  refine at_then_ret ?_
  exact at_return (.bool true) [] hS Tryz.results8 (.cons (.tmp rfl) .nil) rfl rfl ⟨rfl, rfl⟩
 replace hr := ineg h2114 hr
 refine at_true rfl (nf (bf h2114)) (s_sr (s_as rfl (s_nt (at_ret ?_))))
 have hq := oinj hr
 clear hr
 subst hq
 refine at_then_ret ?_
 exact at_return (.bool false) [] hS Tryz.results8 (.cons (.tmp rfl) .nil) rfl rfl ⟨rfl, rfl⟩
end Go.WK.S
