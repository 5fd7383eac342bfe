
/- What functions of this program compute: a model of each, and the proof that it is kept. -/
import Derived.Test.YtidmlhihfanglaaGreatDoorMapsF04
import Derived.KernelRfl
set_option linter.unusedSimpArgs false
set_option linter.unusedVariables false
namespace Go.WK.S
open Go Go.Proofs Go.WK Go.RowKit
set_option linter.unusedVariables false
set_option maxRecDepth 100000
set_option maxHeartbeats 4000000
def m35_l3 (x2205 : (List D_ref16_Pair)) (x2224 : D_ref16_Pair) : Nat → Nat → Option Nat
  | 0, _ => none
  | k + 1, x2239 =>
    if x2239 < x2205.length then
     (x2205[x2239]?).bind fun x2246 =>
     if x2246.From.toNat < x2224.To.toNat then
      m35_l3 x2205 x2224 k (x2239 + 1)
     else
      some x2239
    else
     some x2239
def m35_l2 (a0 : (List D_ref16_Entry)) (x2183 : Nat) : Nat → Nat → (List D_ref16_Pair) → Option (List D_ref16_Pair)
  | 0, _, _ => none
  | k + 1, x2204, x2205 =>
    (a0[x2183]?).bind fun x2211 =>
    if x2204 < x2211.Codes.length then
     (a0[x2183]?).bind fun x2219 =>
     (x2219.Codes[x2204]?).bind fun x2224 =>
     (a0[x2183]?).bind fun x2228 =>
     (x2228.Codes[x2204]?).bind fun x2233 =>
     (m35_l3 x2205 x2224 (x2205.length + 1) 0).bind fun x2240 =>
     Option.bind (α := (List D_ref16_Pair)) (
      if x2240 ≤ x2205.length then
       if (x2205.take x2240).length ≤ 70368744177664 then
        if ([] ++ (x2205.take x2240)).length + 1 ≤ 70368744177664 then
         if ([] ++ (x2205.take x2240) ++ [(⟨x2224.To, x2233.From⟩ : D_ref16_Pair)]).length + (x2205.drop x2240).length ≤ 70368744177664 then
          some ([] ++ (x2205.take x2240) ++ [(⟨x2224.To, x2233.From⟩ : D_ref16_Pair)] ++ (x2205.drop x2240))
         else none
        else none
       else none
      else none
     ) fun x2270 =>
     if x2204 + 1 ≤ 9223372036854775807 then
      m35_l2 a0 x2183 k (x2204 + 1) x2270
     else none
    else
     some x2205
def m35_l1 (a0 : (List D_ref16_Entry)) : Nat → (List D_ref16_Entry) → Nat → Option (List D_ref16_Entry)
  | 0, _, _ => none
  | k + 1, x2182, x2183 =>
    if x2183 < a0.length then
     (a0[x2183]?).bind fun x2192 =>
     (a0[x2183]?).bind fun x2197 =>
     (m35_l2 a0 x2183 9223372036854775808 0 ([] : (List D_ref16_Pair))).bind fun x2207 =>
     (m72 x2182 (⟨x2192.To, x2197.From, x2207⟩ : D_ref16_Entry)).bind fun x2325 =>
     m35_l1 a0 k x2325 (x2183 + 1)
    else
     some x2182
def m35 (a0 : (List D_ref16_Entry)) : Option ((List D_ref16_Entry) × Int) :=
  (m24 a0).bind fun x2176 =>
  if x2176 = true then
   (m32 a0).bind fun x2179 =>
   if x2179 = true then
    (m35_l1 a0 (a0.length + 1) ([] : (List D_ref16_Entry)) 0).bind fun x2185 =>
    some (x2185, 0)
   else
    some (([] : (List D_ref16_Entry)), 16)
  else
   some (([] : (List D_ref16_Entry)), 1)
def post35 (r : ((List D_ref16_Entry) × Int)) (v : Value) (fs : List Fact) : Prop := ∃ s2328 : Value, v = .tuple #[s2328, .int .i64 r.2] ∧ fs = [((Ty.slice ty50).fact r.1 [s2328]), ((Ty.int .i64).fact r.2 [.int .i64 r.2])]
theorem en35 : Enters Tryz.prog 35 := ⟨_, Tryz.func35, by kernel_rfl, rfl⟩
theorem f35_spec {a0 : (List D_ref16_Entry)} {w2175 : Value} {r : ((List D_ref16_Entry) × Int)} (hr : m35 a0 = some r) : Spec Tryz.prog 35 [w2175] [((Ty.slice ty50).fact a0 [w2175])] (post35 r) := by
 refine spec_start (N := 99) Tryz.func35 (by kernel_rfl) rfl rfl rfl ?_
 intro g hS
 unfold m35 at hr
 refine s_sr (s_as rfl (s_as rfl (s_nt (at_seq (s_sr (s_mv rfl ?_))))))
 replace hr := obind hr
 obtain ⟨x2176, h2177, hr⟩ := hr
 refine at_hv rfl (hv_call0 [0] (f24_spec h2177) rfl rfl rfl rfl ?_)
 rintro _ _ ⟨rfl, rfl⟩
 refine at_lt (lt_not rfl) rfl (s_nt ?_)
 by_cases h2178 : x2176 = true
 ·replace hr := ipos h2178 hr
  refine at_false rfl (nt h2178) (at_skip (at_then (at_seq (s_sr (s_mv rfl ?_)))))
  replace hr := obind hr
  obtain ⟨x2179, h2180, hr⟩ := hr
  refine at_hv rfl (hv_call0 [0] (f32_spec h2180) rfl rfl rfl rfl ?_)
  rintro _ _ ⟨rfl, rfl⟩
  refine at_lt (lt_not rfl) rfl (s_nt ?_)
  by_cases h2181 : x2179 = true
  ·replace hr := ipos h2181 hr
   refine at_false rfl (nt h2181) (at_skip (s_tsr (s_as rfl (s_nt (at_seq (s_sr (s_as rfl (s_nt (at_fnil ty50 none ?_)))))))))
   refine at_int .i64 0 (by simp only [lo, hi]; omega) ?_
   replace hr := obind hr
   obtain ⟨x2185, hl2187, hr⟩ := hr
   refine at_cut (V := Value) (fun e => (⟨[(4, e)], [], [], [((Ty.slice ty50).fact x2185 [e])]⟩ : St)) ?_ ?_
   ·refine at_block ?_
    refine at_loopW (σ := ((List D_ref16_Entry) × Nat)) (V := Value) (r := x2185) (fun n s => m35_l1 a0 n s.1 s.2) (fun s e => (⟨[(0, w2175), (4, e), (5, .int .i64 (s.2 : Int))], [], [], [((Ty.slice ty50).fact s.1 [e]), ((Ty.int .i64).fact (s.2 : Int) [.int .i64 (s.2 : Int)]), ((Ty.slice ty50).fact a0 [w2175])]⟩ : St)) (fun _ => rfl) _ (([] : (List D_ref16_Entry)), 0) (.slice none 0 0) hl2187 ⟨⟨rfl, ⟨rfl, ⟨rfl, trivial⟩⟩⟩, ⟨[], rfl⟩, ⟨[], rfl⟩, ⟨[1, 0, 2], rfl⟩⟩ ?_
    clear hr hl2187
    intro n s hr v2184
    obtain ⟨x2182, x2183⟩ := s
    skip
    change m35_l1 a0 (n + 1) x2182 x2183 = some x2185 at hr
    change At _ _ (⟨[(0, w2175), (4, v2184), (5, .int .i64 (x2183 : Int))], [], [], [((Ty.slice ty50).fact x2182 [v2184]), ((Ty.int .i64).fact (x2183 : Int) [.int .i64 (x2183 : Int)]), ((Ty.slice ty50).fact a0 [w2175])]⟩ : St) _
    rw [m35_l1] at hr
    refine at_seq (s_sr (s_mv rfl (s_mv rfl ?_)))
    refine at_inv 2 rfl (fun i2189 => ?_)
    have l2190 := slice_len i2189
    refine at_lt (lt_flen 2 rfl rfl und22) rfl (at_lt (lt_lss rfl rfl) rfl (s_nt ?_))
    by_cases h2191 : x2183 < a0.length
    ·replace hr := ipos h2191 hr
     refine at_true rfl (decide_eq_true (by omega)) ?_
     refine at_skip (at_then (at_seq (at_block (at_seq ?_))))
     replace hr := obind hr
     obtain ⟨x2192, h2193, hr⟩ := hr
     have := (List.getElem?_eq_some_iff.1 h2193).1
     refine at_elem 2 rfl (nat_at' h2193) (fun p2195 ec pa2196 => ?_)
     refine at_open (A := Value) 0 rfl _ _ (fun F w h => op50 h) ?_
     rintro s2194 rfl
     replace hr := obind hr
     obtain ⟨x2197, h2198, hr⟩ := hr
     have := (List.getElem?_eq_some_iff.1 h2198).1
     refine at_elem 7 rfl (nat_at' h2198) (fun p2200 ec pa2201 => ?_)
     refine at_open (A := Value) 0 rfl _ _ (fun F w h => op50 h) ?_
     rintro s2199 rfl
     refine aa_start 13 (by kernel_rfl) ?_
     refine aa_p 0 rfl (lt_move rfl) (aa_p 1 rfl (lt_move rfl) (aa_p 2 rfl (lt_idx rfl rfl pa2196 und22 ti50) (aa_p 3 rfl (lt_fieldAddr 1 rfl fld50_1 rfl) (aa_l 4 rfl (lt_load_peek 9 rfl ti9 rfl rfl rfl rfl rfl) (aa_p 5 rfl (lt_move rfl) (aa_p 6 rfl (lt_move rfl) (aa_p 7 rfl (lt_idx rfl rfl pa2201 und22 ti50) (aa_p 8 rfl (lt_fieldAddr 0 rfl fld50_0 rfl) (aa_l 9 rfl (lt_load_peek 4 rfl ti9 rfl rfl rfl rfl rfl) ?_)))))))))
     refine aa_p 10 rfl (lt_build (cs := [str x2192.To, str x2197.From, (.slice none 0 0)]) rfl ti50 pl50 rfl) (aa_one 11 (aa_op rfl rfl ?_))
     refine hv_alloc (cs := [str ([] : Str), str ([] : Str), (.slice none 0 0)]) ti50 rfl rfl (fun b2203 => ?_)
     refine aa_all (rs := [12]) (by kernel_rfl) rfl (ts_in 1 0 rfl rfl) (List.forall_mem_singleton.2 ?_)
     refine aa_op rfl rfl (hv_store_box 0 (cs' := [str x2192.To, str x2197.From, (.slice none 0 0)]) rfl rfl ti50 rfl rfl rfl rfl rfl ?_)
     refine aa_done (by kernel_rfl) (ts_in 1 0 rfl rfl) ?_
     refine at_then (at_seq (s_sr (s_as rfl (s_nt (at_int .i64 0 (by simp only [lo, hi]; omega) (at_fnil ty83 none ?_))))))
     replace hr := obind hr
     obtain ⟨x2207, hl2209, hr⟩ := hr
     refine at_cut (V := Value) (fun e => (⟨[(0, w2175), (4, v2184), (5, .int .i64 (x2183 : Int)), (6, .pointer (some (Addr.add ⟨b2203, 0, none⟩ 0)))], [⟨b2203, [str x2192.To, str x2197.From, e], 50⟩], [], [((Ty.slice ty83).fact x2207 [e]), ((Ty.slice ty50).fact a0 [w2175]), ((Ty.slice ty50).fact x2182 [v2184]), ((Ty.int .i64).fact (x2183 : Int) [.int .i64 (x2183 : Int)]), (Ty.str.fact x2192.To [str x2192.To]), (Ty.str.fact x2197.From [str x2197.From])]⟩ : St)) ?_ ?_
     ·refine at_block ?_
      refine at_loopW (σ := (Nat × (List D_ref16_Pair))) (V := Value) (r := x2207) (fun n s => m35_l2 a0 x2183 n s.1 s.2) (fun s e => (⟨[(0, w2175), (4, v2184), (5, .int .i64 (x2183 : Int)), (6, .pointer (some (Addr.add ⟨b2203, 0, none⟩ 0))), (7, .int .i64 (s.1 : Int))], [⟨b2203, [str x2192.To, str x2197.From, e], 50⟩], [], [((Ty.int .i64).fact (s.1 : Int) [.int .i64 (s.1 : Int)]), ((Ty.slice ty83).fact s.2 [e]), ((Ty.slice ty50).fact a0 [w2175]), ((Ty.slice ty50).fact x2182 [v2184]), ((Ty.int .i64).fact (x2183 : Int) [.int .i64 (x2183 : Int)]), (Ty.str.fact x2192.To [str x2192.To]), (Ty.str.fact x2197.From [str x2197.From])]⟩ : St)) (fun _ => rfl) _ (0, ([] : (List D_ref16_Pair))) (.slice none 0 0) hl2209 ⟨⟨rfl, ⟨rfl, ⟨rfl, ⟨rfl, ⟨rfl, trivial⟩⟩⟩⟩⟩, ⟨[true], rfl⟩, ⟨[], rfl⟩, ⟨[1, 0, 14, 12, 13, 8, 2], rfl⟩⟩ ?_
      clear hr hl2209
      intro n s hr v2206
      obtain ⟨x2204, x2205⟩ := s
      skip
      change m35_l2 a0 x2183 (n + 1) x2204 x2205 = some x2207 at hr
      change At _ _ (⟨[(0, w2175), (4, v2184), (5, .int .i64 (x2183 : Int)), (6, .pointer (some (Addr.add ⟨b2203, 0, none⟩ 0))), (7, .int .i64 (x2204 : Int))], [⟨b2203, [str x2192.To, str x2197.From, v2206], 50⟩], [], [((Ty.int .i64).fact (x2204 : Int) [.int .i64 (x2204 : Int)]), ((Ty.slice ty83).fact x2205 [v2206]), ((Ty.slice ty50).fact a0 [w2175]), ((Ty.slice ty50).fact x2182 [v2184]), ((Ty.int .i64).fact (x2183 : Int) [.int .i64 (x2183 : Int)]), (Ty.str.fact x2192.To [str x2192.To]), (Ty.str.fact x2197.From [str x2197.From])]⟩ : St) _
      rw [m35_l2] at hr
      refine at_seq (s_sr (s_mv rfl (s_mv rfl (s_mv rfl ?_))))
      replace hr := obind hr
      obtain ⟨x2211, h2212, hr⟩ := hr
      have := (List.getElem?_eq_some_iff.1 h2212).1
      refine at_elem 2 rfl (nat_at' h2212) (fun p2214 ec pa2215 => ?_)
      refine at_open (A := Value) 0 rfl _ _ (fun F w h => op50 h) ?_
      rintro s2213 rfl
      refine at_lt (lt_idx rfl rfl pa2215 und22 ti50) rfl (at_lt (lt_fieldAddr 2 rfl fld50_2 rfl) rfl (at_lt (lt_load_peek 4 rfl ti48 rfl rfl rfl rfl rfl) rfl ?_))
      refine at_inv 2 rfl (fun i2216 => ?_)
      have l2217 := slice_len i2216
      refine at_lt (lt_flen 2 rfl rfl und48) rfl (at_lt (lt_lss rfl rfl) rfl (s_nt ?_))
      by_cases h2218 : x2204 < x2211.Codes.length
      ·replace hr := ipos h2218 hr
       refine at_true rfl (decide_eq_true (by omega)) ?_
       refine at_skip (at_then (at_seq (at_block (s_sr (s_as rfl (s_nt (at_seq ?_)))))))
       replace hr := obind hr
       obtain ⟨x2219, h2220, hr⟩ := hr
       have := (List.getElem?_eq_some_iff.1 h2220).1
       refine at_elem 7 rfl (nat_at' h2220) (fun p2222 ec pa2223 => ?_)
       refine at_open (A := Value) 0 rfl _ _ (fun F w h => op50 h) ?_
       rintro s2221 rfl
       replace hr := obind hr
       obtain ⟨x2224, h2225, hr⟩ := hr
       have := (List.getElem?_eq_some_iff.1 h2225).1
       refine at_elem 2 rfl (nat_at' h2225) (fun p2226 ec pa2227 => ?_)
       refine at_open (A := Unit) 0 rfl _ _ (fun F w h => op83 h) ?_
       rintro _ rfl
       replace hr := obind hr
       obtain ⟨x2228, h2229, hr⟩ := hr
       have := (List.getElem?_eq_some_iff.1 h2229).1
       refine at_elem 14 rfl (nat_at' h2229) (fun p2231 ec pa2232 => ?_)
       refine at_open (A := Value) 0 rfl _ _ (fun F w h => op50 h) ?_
       rintro s2230 rfl
       replace hr := obind hr
       obtain ⟨x2233, h2234, hr⟩ := hr
       have := (List.getElem?_eq_some_iff.1 h2234).1
       refine at_elem 2 rfl (nat_at' h2234) (fun p2235 ec pa2236 => ?_)
       refine at_open (A := Unit) 0 rfl _ _ (fun F w h => op83 h) ?_
       rintro _ rfl
       refine aa_start 21 (by kernel_rfl) ?_
       refine aa_p 0 rfl (lt_move rfl) (aa_p 1 rfl (lt_move rfl) (aa_p 2 rfl (lt_idx rfl rfl pa2223 und22 ti50) (aa_p 3 rfl (lt_fieldAddr 2 rfl fld50_2 rfl) (aa_l 4 rfl (lt_load_peek 13 rfl ti48 rfl rfl rfl rfl rfl) (aa_p 5 rfl (lt_move rfl) (aa_p 6 rfl (lt_idx rfl rfl pa2227 und48 ti83) (aa_p 7 rfl (lt_fieldAddr 1 rfl fld83_1 rfl) (aa_l 8 rfl (lt_load_peek 8 rfl ti5 rfl rfl rfl rfl rfl) (aa_p 9 rfl (lt_move rfl) ?_)))))))))
       refine aa_p 10 rfl (lt_move rfl) (aa_p 11 rfl (lt_idx rfl rfl pa2232 und22 ti50) (aa_p 12 rfl (lt_fieldAddr 2 rfl fld50_2 rfl) (aa_l 13 rfl (lt_load_peek 6 rfl ti48 rfl rfl rfl rfl rfl) (aa_p 14 rfl (lt_move rfl) (aa_p 15 rfl (lt_idx rfl rfl pa2236 und48 ti83) (aa_p 16 rfl (lt_fieldAddr 0 rfl fld83_0 rfl) (aa_l 17 rfl (lt_load_peek 1 rfl ti5 rfl rfl rfl rfl rfl) (aa_p 18 rfl (lt_build (cs := [.int .u8 (x2224.To.toNat : Int), .int .u8 (x2233.From.toNat : Int)]) rfl ti83 pl83 rfl) (aa_one 19 ?_)))))))))
       refine aa_op rfl rfl ?_
       refine hv_alloc (cs := [.int .u8 0, .int .u8 0]) ti83 rfl rfl (fun b2238 => ?_)
       refine aa_all (rs := [20]) (by kernel_rfl) rfl (ts_in 1 0 rfl rfl) (List.forall_mem_singleton.2 ?_)
       refine aa_op rfl rfl (hv_store_box 0 (cs' := [.int .u8 (x2224.To.toNat : Int), .int .u8 (x2233.From.toNat : Int)]) rfl rfl ti83 rfl rfl rfl rfl rfl ?_)
       refine aa_done (by kernel_rfl) (ts_in 1 0 rfl rfl) ?_
       refine at_then (at_seq (at_int .i64 0 (by simp only [lo, hi]; omega) ?_))
       replace hr := obind hr
       obtain ⟨x2240, hl2241, hr⟩ := hr
       refine at_cut (V := Unit) (fun e => (⟨[(0, w2175), (4, v2184), (5, .int .i64 (x2183 : Int)), (6, .pointer (some (Addr.add ⟨b2203, 0, none⟩ 0))), (7, .int .i64 (x2204 : Int)), (8, .int .i64 (x2240 : Int)), (9, .pointer (some (Addr.add ⟨b2238, 0, none⟩ 0)))], [⟨b2238, [.int .u8 (x2224.To.toNat : Int), .int .u8 (x2233.From.toNat : Int)], 83⟩, ⟨b2203, [str x2192.To, str x2197.From, v2206], 50⟩], [], [((Ty.int .i64).fact (x2240 : Int) [.int .i64 (x2240 : Int)]), ((Ty.slice ty50).fact a0 [w2175]), ((Ty.slice ty50).fact x2182 [v2184]), ((Ty.int .i64).fact (x2183 : Int) [.int .i64 (x2183 : Int)]), ((Ty.int .i64).fact (x2204 : Int) [.int .i64 (x2204 : Int)]), (Ty.str.fact x2192.To [str x2192.To]), (Ty.str.fact x2197.From [str x2197.From]), ((Ty.slice ty83).fact x2205 [v2206])]⟩ : St)) ?_ ?_
       ·refine at_block ?_
        refine at_loopW (σ := Nat) (V := Unit) (r := x2240) (fun n s => m35_l3 x2205 x2224 n s) (fun s e => (⟨[(0, w2175), (4, v2184), (5, .int .i64 (x2183 : Int)), (6, .pointer (some (Addr.add ⟨b2203, 0, none⟩ 0))), (7, .int .i64 (x2204 : Int)), (8, .int .i64 (s : Int)), (9, .pointer (some (Addr.add ⟨b2238, 0, none⟩ 0)))], [⟨b2238, [.int .u8 (x2224.To.toNat : Int), .int .u8 (x2233.From.toNat : Int)], 83⟩, ⟨b2203, [str x2192.To, str x2197.From, v2206], 50⟩], [], [((Ty.int .i64).fact (s : Int) [.int .i64 (s : Int)]), ((Ty.slice ty50).fact a0 [w2175]), ((Ty.slice ty50).fact x2182 [v2184]), ((Ty.int .i64).fact (x2183 : Int) [.int .i64 (x2183 : Int)]), ((Ty.int .i64).fact (x2204 : Int) [.int .i64 (x2204 : Int)]), (Ty.str.fact x2192.To [str x2192.To]), (Ty.str.fact x2197.From [str x2197.From]), ((Ty.slice ty83).fact x2205 [v2206])]⟩ : St)) (fun _ => rfl) _ 0 () hl2241 ⟨⟨rfl, ⟨rfl, ⟨rfl, ⟨rfl, ⟨rfl, ⟨rfl, ⟨rfl, trivial⟩⟩⟩⟩⟩⟩⟩, ⟨[true, true], rfl⟩, ⟨[], rfl⟩, ⟨[0, 22, 23, 24, 20, 25, 26, 21], rfl⟩⟩ ?_
        clear hr hl2241
        intro n x2239 hr e
        skip
        skip
        change m35_l3 x2205 x2224 (n + 1) x2239 = some x2240 at hr
        change At _ _ (⟨[(0, w2175), (4, v2184), (5, .int .i64 (x2183 : Int)), (6, .pointer (some (Addr.add ⟨b2203, 0, none⟩ 0))), (7, .int .i64 (x2204 : Int)), (8, .int .i64 (x2239 : Int)), (9, .pointer (some (Addr.add ⟨b2238, 0, none⟩ 0)))], [⟨b2238, [.int .u8 (x2224.To.toNat : Int), .int .u8 (x2233.From.toNat : Int)], 83⟩, ⟨b2203, [str x2192.To, str x2197.From, v2206], 50⟩], [], [((Ty.int .i64).fact (x2239 : Int) [.int .i64 (x2239 : Int)]), ((Ty.slice ty50).fact a0 [w2175]), ((Ty.slice ty50).fact x2182 [v2184]), ((Ty.int .i64).fact (x2183 : Int) [.int .i64 (x2183 : Int)]), ((Ty.int .i64).fact (x2204 : Int) [.int .i64 (x2204 : Int)]), (Ty.str.fact x2192.To [str x2192.To]), (Ty.str.fact x2197.From [str x2197.From]), ((Ty.slice ty83).fact x2205 [v2206])]⟩ : St) _
        rw [m35_l3] at hr
        refine at_seq (at_seq ?_)
        refine at_inv 7 rfl (fun i2243 => ?_)
        have l2244 := slice_len i2243
        by_cases h2245 : x2239 < x2205.length
        ·replace hr := ipos h2245 hr
         replace hr := obind hr
         obtain ⟨x2246, h2247, hr⟩ := hr
         have := (List.getElem?_eq_some_iff.1 h2247).1
         refine at_elem 7 rfl (nat_at' h2247) (fun p2248 ec pa2249 => ?_)
         refine at_open (A := Unit) 0 rfl _ _ (fun F w h => op83 h) ?_
         rintro _ rfl
         refine aa_start 16 (by kernel_rfl) ?_
         refine aa_p 0 rfl (lt_move rfl) (aa_p 1 rfl (lt_fieldAddr 2 rfl fld50_2 rfl) (aa_l 2 rfl (lt_load_box 1 rfl ti48 rfl rfl rfl rfl rfl) (aa_l 3 rfl (lt_flen 9 rfl rfl und48) (aa_p 4 rfl (lt_lss rfl rfl) (aa_p 5 rfl (lt_move rfl) ?_)))))
         refine aa_pg 6 rfl ⟨67, rfl, .inl ⟨_, rfl, gdq (v := true) (decide_eq_true (by omega)) rfl⟩⟩ (lt_fieldAddr 2 rfl fld50_2 rfl) ?_
         refine aa_lg 7 rfl ⟨67, rfl, .inl ⟨_, rfl, gdq (v := true) (decide_eq_true (by omega)) rfl⟩⟩ (lt_load_box 1 rfl ti48 rfl rfl rfl rfl rfl) ?_
         refine aa_pg 8 rfl ⟨67, rfl, .inl ⟨_, rfl, gdq (v := true) (decide_eq_true (by omega)) rfl⟩⟩ (lt_move rfl) ?_
         refine aa_pg 9 rfl ⟨67, rfl, .inl ⟨_, rfl, gdq (v := true) (decide_eq_true (by omega)) rfl⟩⟩ (lt_idx rfl rfl pa2249 und48 ti83) ?_
         refine aa_pg 10 rfl ⟨67, rfl, .inl ⟨_, rfl, gdq (v := true) (decide_eq_true (by omega)) rfl⟩⟩ (lt_fieldAddr 0 rfl fld83_0 rfl) ?_
         refine aa_lg 11 rfl ⟨67, rfl, .inl ⟨_, rfl, gdq (v := true) (decide_eq_true (by omega)) rfl⟩⟩ (lt_load_peek 1 rfl ti5 rfl rfl rfl rfl rfl) ?_
         refine aa_pg 12 rfl ⟨67, rfl, .inl ⟨_, rfl, gdq (v := true) (decide_eq_true (by omega)) rfl⟩⟩ (lt_fieldAddr 0 rfl fld83_0 rfl) ?_
         refine aa_lg 13 rfl ⟨67, rfl, .inl ⟨_, rfl, gdq (v := true) (decide_eq_true (by omega)) rfl⟩⟩ (lt_load_box 0 rfl ti5 rfl rfl rfl rfl rfl) ?_
         refine aa_pg 14 rfl ⟨67, rfl, .inl ⟨_, rfl, gdq (v := true) (decide_eq_true (by omega)) rfl⟩⟩ (lt_lss rfl rfl) ?_
         refine aa_p 15 rfl (lt_pick true rfl (decide_eq_true (by omega)) rfl) ?_
         refine aa_done (by kernel_rfl) (ts_in 0 0 rfl rfl) ?_
         refine at_then ?_
         by_cases h2250 : x2246.From.toNat < x2224.To.toNat
         ·replace hr := ipos h2250 hr
          refine at_true rfl (decide_eq_true (by omega)) ?_
          refine at_skip (at_then (at_block (at_region (s_mv rfl (at_lt (lt_add rfl rfl (by simp only [lo, hi]; omega)) rfl (s_as rfl (at_nil (at_in (at_int .i64 (x2239 + 1 : Int) (by simp only [lo, hi]; omega) ?_)))))))))
          exact at_again (σ := Nat) (V := Unit) (lp := fun n s => m35_l3 x2205 x2224 n s) (S := fun s e => (⟨[(0, w2175), (4, v2184), (5, .int .i64 (x2183 : Int)), (6, .pointer (some (Addr.add ⟨b2203, 0, none⟩ 0))), (7, .int .i64 (x2204 : Int)), (8, .int .i64 (s : Int)), (9, .pointer (some (Addr.add ⟨b2238, 0, none⟩ 0)))], [⟨b2238, [.int .u8 (x2224.To.toNat : Int), .int .u8 (x2233.From.toNat : Int)], 83⟩, ⟨b2203, [str x2192.To, str x2197.From, v2206], 50⟩], [], [((Ty.int .i64).fact (s : Int) [.int .i64 (s : Int)]), ((Ty.slice ty50).fact a0 [w2175]), ((Ty.slice ty50).fact x2182 [v2184]), ((Ty.int .i64).fact (x2183 : Int) [.int .i64 (x2183 : Int)]), ((Ty.int .i64).fact (x2204 : Int) [.int .i64 (x2204 : Int)]), (Ty.str.fact x2192.To [str x2192.To]), (Ty.str.fact x2197.From [str x2197.From]), ((Ty.slice ty83).fact x2205 [v2206])]⟩ : St)) (x2239 + 1) () hr ⟨⟨rfl, ⟨rfl, ⟨rfl, ⟨rfl, ⟨rfl, ⟨rfl, ⟨rfl, trivial⟩⟩⟩⟩⟩⟩⟩, ⟨[true, true], rfl⟩, ⟨[], rfl⟩, ⟨[0, 4, 5, 6, 7, 8, 9, 10], rfl⟩⟩
         replace hr := ineg h2250 hr
         refine at_false rfl (decide_eq_false (by omega)) ?_
         refine at_exit (at_then_exit (at_then_exit (at_in_exit ?_)))
         have hq := oinj hr
         clear hr
         subst hq
         exact at_leaf () ⟨⟨rfl, ⟨rfl, ⟨rfl, ⟨rfl, ⟨rfl, ⟨rfl, ⟨rfl, trivial⟩⟩⟩⟩⟩⟩⟩, ⟨[true, true], rfl⟩, ⟨[], rfl⟩, ⟨[2, 3, 4, 5, 6, 7, 8, 9], rfl⟩⟩
        replace hr := ineg h2245 hr
        refine aa_start 16 (by kernel_rfl) ?_
        refine aa_p 0 rfl (lt_move rfl) (aa_p 1 rfl (lt_fieldAddr 2 rfl fld50_2 rfl) (aa_l 2 rfl (lt_load_box 1 rfl ti48 rfl rfl rfl rfl rfl) (aa_l 3 rfl (lt_flen 7 rfl rfl und48) (aa_p 4 rfl (lt_lss rfl rfl) (aa_p 5 rfl (lt_move rfl) ?_)))))
        refine aa_o 6 rfl ⟨67, rfl, .inl ⟨_, rfl, gdq (v := false) (decide_eq_false (by omega)) rfl⟩⟩ ?_
        refine aa_o 7 rfl ⟨67, rfl, .inl ⟨_, rfl, gdq (v := false) (decide_eq_false (by omega)) rfl⟩⟩ ?_
        refine aa_o 8 rfl ⟨67, rfl, .inl ⟨_, rfl, gdq (v := false) (decide_eq_false (by omega)) rfl⟩⟩ ?_
        refine aa_o 9 rfl ⟨67, rfl, .inl ⟨_, rfl, gdq (v := false) (decide_eq_false (by omega)) rfl⟩⟩ ?_
        refine aa_o 10 rfl ⟨67, rfl, .inl ⟨_, rfl, gdq (v := false) (decide_eq_false (by omega)) rfl⟩⟩ ?_
        refine aa_o 11 rfl ⟨67, rfl, .inl ⟨_, rfl, gdq (v := false) (decide_eq_false (by omega)) rfl⟩⟩ ?_
        refine aa_o 12 rfl ⟨67, rfl, .inl ⟨_, rfl, gdq (v := false) (decide_eq_false (by omega)) rfl⟩⟩ ?_
        refine aa_o 13 rfl ⟨67, rfl, .inl ⟨_, rfl, gdq (v := false) (decide_eq_false (by omega)) rfl⟩⟩ ?_
        refine aa_o 14 rfl ⟨67, rfl, .inl ⟨_, rfl, gdq (v := false) (decide_eq_false (by omega)) rfl⟩⟩ ?_
        refine aa_p 15 rfl (lt_pick false rfl (decide_eq_false (by omega)) rfl) ?_
        refine aa_done (by kernel_rfl) (ts_in 0 0 rfl rfl) ?_
        refine at_then (at_false rfl rfl (at_exit (at_then_exit (at_then_exit (at_in_exit ?_)))))
        have hq := oinj hr
        clear hr
        subst hq
        exact at_leaf () ⟨⟨rfl, ⟨rfl, ⟨rfl, ⟨rfl, ⟨rfl, ⟨rfl, ⟨rfl, trivial⟩⟩⟩⟩⟩⟩⟩, ⟨[true, true], rfl⟩, ⟨[], rfl⟩, ⟨[0, 1, 2, 3, 4, 5, 6, 7], rfl⟩⟩
       clear hl2241
       intro e
       change At _ _ (⟨[(0, w2175), (4, v2184), (5, .int .i64 (x2183 : Int)), (6, .pointer (some (Addr.add ⟨b2203, 0, none⟩ 0))), (7, .int .i64 (x2204 : Int)), (8, .int .i64 (x2240 : Int)), (9, .pointer (some (Addr.add ⟨b2238, 0, none⟩ 0)))], [⟨b2238, [.int .u8 (x2224.To.toNat : Int), .int .u8 (x2233.From.toNat : Int)], 83⟩, ⟨b2203, [str x2192.To, str x2197.From, v2206], 50⟩], [], [((Ty.int .i64).fact (x2240 : Int) [.int .i64 (x2240 : Int)]), ((Ty.slice ty50).fact a0 [w2175]), ((Ty.slice ty50).fact x2182 [v2184]), ((Ty.int .i64).fact (x2183 : Int) [.int .i64 (x2183 : Int)]), ((Ty.int .i64).fact (x2204 : Int) [.int .i64 (x2204 : Int)]), (Ty.str.fact x2192.To [str x2192.To]), (Ty.str.fact x2197.From [str x2197.From]), ((Ty.slice ty83).fact x2205 [v2206])]⟩ : St) _
       refine at_then ?_
       replace hr := obind hr
       obtain ⟨x2270, hc2272, hr⟩ := hr
       refine at_cut (V := Value) (fun e => (⟨[(0, w2175), (4, v2184), (5, .int .i64 (x2183 : Int)), (6, .pointer (some (Addr.add ⟨b2203, 0, none⟩ 0))), (7, .int .i64 (x2204 : Int))], [⟨b2203, [str x2192.To, str x2197.From, e], 50⟩], [], [((Ty.slice ty83).fact x2270 [e]), ((Ty.slice ty50).fact a0 [w2175]), ((Ty.slice ty50).fact x2182 [v2184]), ((Ty.int .i64).fact (x2183 : Int) [.int .i64 (x2183 : Int)]), ((Ty.int .i64).fact (x2204 : Int) [.int .i64 (x2204 : Int)]), (Ty.str.fact x2192.To [str x2192.To]), (Ty.str.fact x2197.From [str x2197.From])]⟩ : St)) ?_ ?_
       ·clear hr
        have hr := hc2272
        clear hc2272
        replace hr := imust hr
        obtain ⟨h2274, hr⟩ := hr
        refine at_cutf_h 7 x2240 rfl (by omega) (fun s2275 hc2276 => ?_)
        replace hr := imust hr
        obtain ⟨h2277, hr⟩ := hr
        replace hr := imust hr
        obtain ⟨h2282, hr⟩ := hr
        refine at_cutf_l 8 x2240 rfl (by omega) (fun s2285 hc2286 => ?_)
        replace hr := imust hr
        obtain ⟨h2287, hr⟩ := hr
        refine aa_start 15 (by kernel_rfl) ?_
        refine aa_p 1 rfl (lt_fieldAddr 2 rfl fld50_2 rfl) (aa_l 2 rfl (lt_load_box 1 rfl ti48 rfl rfl rfl rfl rfl) (aa_p 3 rfl (lt_move rfl) ?_))
        refine aa_p 4 rfl (lt_cut_h x2240 rfl rfl (by omega) und48 ti83 hc2276) ?_
        refine aa_l 6 rfl (lt_load_box 0 rfl ti83 rfl rfl rfl rfl rfl) (aa_p 9 rfl (lt_fieldAddr 2 rfl fld50_2 rfl) (aa_l 10 rfl (lt_load_box 1 rfl ti48 rfl rfl rfl rfl rfl) (aa_p 11 rfl (lt_move rfl) ?_)))
        refine aa_p 12 rfl (lt_cut_l x2240 rfl rfl (by omega) und48 ti83 (by omega) hc2286) ?_
        refine aa_all (rs := [0, 7]) (by kernel_rfl) rfl (ts_in 0 0 rfl rfl) (List.forall_mem_cons.2 ⟨?_, (List.forall_mem_singleton.2 ?_)⟩)
        ·refine aa_op rfl rfl ?_
         refine hv_bslice (cs := []) rfl und48 ti83 rfl rfl rfl rfl rfl (fun s2292 => ?_)
         refine aa_all (rs := [5, 7]) (by kernel_rfl) rfl (ts_in 0 0 rfl rfl) (List.forall_mem_cons.2 ⟨?_, (List.forall_mem_singleton.2 ?_)⟩)
         ·refine at_rownil ty83 ?_
          refine at_rown 0 0 rfl rfl rfl (fun hn2295 => ?_)
          refine aa_op rfl rfl ?_
          refine hv_append_f 0 2 rfl rfl rfl rfl und48 ti83 rfl rfl (by omega) (by omega) rfl (fun s2293 u2294 => ?_)
          refine at_rowcat 1 0 rfl rfl ?_
          refine aa_all (rs := [7]) (by kernel_rfl) rfl (ts_in 0 3 rfl rfl) (List.forall_mem_singleton.2 ?_)
          refine aa_op rfl rfl ?_
          refine hv_bslice (cs := [.int .u8 (x2224.To.toNat : Int), .int .u8 (x2233.From.toNat : Int)]) rfl und48 ti83 rfl rfl rfl rfl rfl (fun s2296 => ?_)
          refine aa_all (rs := [8]) (by kernel_rfl) rfl (ts_in 0 3 rfl rfl) (List.forall_mem_singleton.2 ?_)
          refine at_derive [] (ty83.fact (⟨x2224.To, x2233.From⟩ : D_ref16_Pair) [.int .u8 (x2224.To.toNat : Int), .int .u8 (x2233.From.toNat : Int)]) rfl (fun F w h => mk83 (x := (⟨x2224.To, x2233.From⟩ : D_ref16_Pair)) h) ?_
          refine at_rown 1 1 rfl rfl rfl (fun hn2298 => ?_)
          refine aa_op rfl rfl ?_
          refine hv_append 1 0 rfl rfl rfl rfl und48 ti83 rfl rfl rfl (by omega) (by omega) rfl (fun s2297 => ?_)
          refine at_rowsnoc 1 0 rfl rfl ?_
          refine aa_all (rs := [13]) (by kernel_rfl) rfl (ts_in 0 5 rfl rfl) (List.forall_mem_singleton.2 ?_)
          refine at_rown 1 0 rfl rfl rfl (fun hn2301 => ?_)
          refine aa_op rfl rfl ?_
          refine hv_append_f 1 5 rfl rfl rfl rfl und48 ti83 rfl rfl (by omega) (by omega) rfl (fun s2299 u2300 => ?_)
          refine at_rowcat 1 0 rfl rfl ?_
          refine aa_pure 14 rfl (by kernel_rfl) rfl rfl (lt_fieldAddr 2 rfl fld50_2 rfl) rfl (ts_in 0 7 rfl rfl) ?_
          refine aa_all (rs := [15]) (by kernel_rfl) rfl (ts_in 0 7 rfl rfl) (List.forall_mem_singleton.2 ?_)
          refine at_rowv 1 rfl (fun ho2302 => ?_)
          replace ho2302 := row_one (by obtain ⟨a, c, h⟩ := ho2302; exact ⟨a, _, c, h⟩)
          refine aa_op rfl rfl (hv_store1 1 (cs' := [str x2192.To, str x2197.From, s2299]) rfl rfl ti48 rfl rfl rfl rfl ho2302 ?_)
          refine aa_done (by kernel_rfl) (ts_out rfl) ?_
          have hq := oinj hr
          clear hr
          subst hq
          refine at_release 1 0 rfl rfl rfl (by simp only [List.length_append, List.length_cons, List.length_nil, ty83_bytes] <;> omega) ?_
          exact at_leaf s2299 ⟨⟨rfl, ⟨rfl, ⟨rfl, ⟨rfl, ⟨rfl, trivial⟩⟩⟩⟩⟩, ⟨[false, true], rfl⟩, ⟨[false], rfl⟩, ⟨[0, 11, 12, 13, 14, 15, 16], rfl⟩⟩
         ·refine aa_op rfl rfl ?_
          refine hv_bslice (cs := [.int .u8 (x2224.To.toNat : Int), .int .u8 (x2233.From.toNat : Int)]) rfl und48 ti83 rfl rfl rfl rfl rfl (fun s2303 => ?_)
          refine aa_one 5 (at_rownil ty83 ?_)
          refine at_rown 1 0 rfl rfl rfl (fun hn2306 => ?_)
          refine aa_op rfl rfl ?_
          refine hv_append_f 1 2 rfl rfl rfl rfl und48 ti83 rfl rfl (by omega) (by omega) rfl (fun s2304 u2305 => ?_)
          refine at_rowcat 1 0 rfl rfl ?_
          refine aa_all (rs := [8]) (by kernel_rfl) rfl (ts_in 0 3 rfl rfl) (List.forall_mem_singleton.2 ?_)
          refine at_derive [] (ty83.fact (⟨x2224.To, x2233.From⟩ : D_ref16_Pair) [.int .u8 (x2224.To.toNat : Int), .int .u8 (x2233.From.toNat : Int)]) rfl (fun F w h => mk83 (x := (⟨x2224.To, x2233.From⟩ : D_ref16_Pair)) h) ?_
          refine at_rown 1 1 rfl rfl rfl (fun hn2308 => ?_)
          refine aa_op rfl rfl ?_
          refine hv_append 1 0 rfl rfl rfl rfl und48 ti83 rfl rfl rfl (by omega) (by omega) rfl (fun s2307 => ?_)
          refine at_rowsnoc 1 0 rfl rfl ?_
          refine aa_all (rs := [13]) (by kernel_rfl) rfl (ts_in 0 5 rfl rfl) (List.forall_mem_singleton.2 ?_)
          refine at_rown 1 0 rfl rfl rfl (fun hn2311 => ?_)
          refine aa_op rfl rfl ?_
          refine hv_append_f 1 5 rfl rfl rfl rfl und48 ti83 rfl rfl (by omega) (by omega) rfl (fun s2309 u2310 => ?_)
          refine at_rowcat 1 0 rfl rfl ?_
          refine aa_pure 14 rfl (by kernel_rfl) rfl rfl (lt_fieldAddr 2 rfl fld50_2 rfl) rfl (ts_in 0 7 rfl rfl) ?_
          refine aa_all (rs := [15]) (by kernel_rfl) rfl (ts_in 0 7 rfl rfl) (List.forall_mem_singleton.2 ?_)
          refine at_rowv 1 rfl (fun ho2312 => ?_)
          replace ho2312 := row_one (by obtain ⟨a, c, h⟩ := ho2312; exact ⟨a, _, c, h⟩)
          refine aa_op rfl rfl (hv_store1 1 (cs' := [str x2192.To, str x2197.From, s2309]) rfl rfl ti48 rfl rfl rfl rfl ho2312 ?_)
          refine aa_done (by kernel_rfl) (ts_out rfl) ?_
          have hq := oinj hr
          clear hr
          subst hq
          refine at_release 1 0 rfl rfl rfl (by simp only [List.length_append, List.length_cons, List.length_nil, ty83_bytes] <;> omega) ?_
          exact at_leaf s2309 ⟨⟨rfl, ⟨rfl, ⟨rfl, ⟨rfl, ⟨rfl, trivial⟩⟩⟩⟩⟩, ⟨[false, true], rfl⟩, ⟨[false], rfl⟩, ⟨[0, 11, 12, 13, 14, 15, 16], rfl⟩⟩
        ·refine aa_op rfl rfl ?_
         refine hv_bslice (cs := [.int .u8 (x2224.To.toNat : Int), .int .u8 (x2233.From.toNat : Int)]) rfl und48 ti83 rfl rfl rfl rfl rfl (fun s2313 => ?_)
         refine aa_one 0 (aa_op rfl rfl ?_)
         refine hv_bslice (cs := []) rfl und48 ti83 rfl rfl rfl rfl rfl (fun s2314 => ?_)
         refine aa_one 5 (at_rownil ty83 ?_)
         refine at_rown 0 0 rfl rfl rfl (fun hn2317 => ?_)
         refine aa_op rfl rfl ?_
         refine hv_append_f 0 2 rfl rfl rfl rfl und48 ti83 rfl rfl (by omega) (by omega) rfl (fun s2315 u2316 => ?_)
         refine at_rowcat 1 0 rfl rfl ?_
         refine aa_all (rs := [8]) (by kernel_rfl) rfl (ts_in 0 3 rfl rfl) (List.forall_mem_singleton.2 ?_)
         refine at_derive [] (ty83.fact (⟨x2224.To, x2233.From⟩ : D_ref16_Pair) [.int .u8 (x2224.To.toNat : Int), .int .u8 (x2233.From.toNat : Int)]) rfl (fun F w h => mk83 (x := (⟨x2224.To, x2233.From⟩ : D_ref16_Pair)) h) ?_
         refine at_rown 0 1 rfl rfl rfl (fun hn2319 => ?_)
         refine aa_op rfl rfl ?_
         refine hv_append 0 1 rfl rfl rfl rfl und48 ti83 rfl rfl rfl (by omega) (by omega) rfl (fun s2318 => ?_)
         refine at_rowsnoc 1 0 rfl rfl ?_
         refine aa_all (rs := [13]) (by kernel_rfl) rfl (ts_in 0 5 rfl rfl) (List.forall_mem_singleton.2 ?_)
         refine at_rown 0 0 rfl rfl rfl (fun hn2322 => ?_)
         refine aa_op rfl rfl ?_
         refine hv_append_f 0 5 rfl rfl rfl rfl und48 ti83 rfl rfl (by omega) (by omega) rfl (fun s2320 u2321 => ?_)
         refine at_rowcat 1 0 rfl rfl ?_
         refine aa_pure 14 rfl (by kernel_rfl) rfl rfl (lt_fieldAddr 2 rfl fld50_2 rfl) rfl (ts_in 0 7 rfl rfl) ?_
         refine aa_all (rs := [15]) (by kernel_rfl) rfl (ts_in 0 7 rfl rfl) (List.forall_mem_singleton.2 ?_)
         refine at_rowv 0 rfl (fun ho2323 => ?_)
         replace ho2323 := row_one (by obtain ⟨a, c, h⟩ := ho2323; exact ⟨a, _, c, h⟩)
         refine aa_op rfl rfl (hv_store1 1 (cs' := [str x2192.To, str x2197.From, s2320]) rfl rfl ti48 rfl rfl rfl rfl ho2323 ?_)
         refine aa_done (by kernel_rfl) (ts_out rfl) ?_
         have hq := oinj hr
         clear hr
         subst hq
         refine at_release 0 0 rfl rfl rfl (by simp only [List.length_append, List.length_cons, List.length_nil, ty83_bytes] <;> omega) ?_
         exact at_leaf s2320 ⟨⟨rfl, ⟨rfl, ⟨rfl, ⟨rfl, ⟨rfl, trivial⟩⟩⟩⟩⟩, ⟨[false, true], rfl⟩, ⟨[false], rfl⟩, ⟨[0, 11, 12, 13, 14, 15, 16], rfl⟩⟩
       clear hc2272
       intro v2271
       change At _ _ (⟨[(0, w2175), (4, v2184), (5, .int .i64 (x2183 : Int)), (6, .pointer (some (Addr.add ⟨b2203, 0, none⟩ 0))), (7, .int .i64 (x2204 : Int))], [⟨b2203, [str x2192.To, str x2197.From, v2271], 50⟩], [], [((Ty.slice ty83).fact x2270 [v2271]), ((Ty.slice ty50).fact a0 [w2175]), ((Ty.slice ty50).fact x2182 [v2184]), ((Ty.int .i64).fact (x2183 : Int) [.int .i64 (x2183 : Int)]), ((Ty.int .i64).fact (x2204 : Int) [.int .i64 (x2204 : Int)]), (Ty.str.fact x2192.To [str x2192.To]), (Ty.str.fact x2197.From [str x2197.From])]⟩ : St) _
       refine at_in (s_tr (s_mv rfl ?_))
       replace hr := imust hr
       obtain ⟨h2324, hr⟩ := hr
       refine at_lt (lt_add rfl rfl (by simp only [lo, hi]; omega)) rfl (s_as rfl (at_nil (at_int .i64 (x2204 + 1 : Int) (by simp only [lo, hi]; omega) ?_)))
       exact at_again (σ := (Nat × (List D_ref16_Pair))) (V := Value) (lp := fun n s => m35_l2 a0 x2183 n s.1 s.2) (S := fun s e => (⟨[(0, w2175), (4, v2184), (5, .int .i64 (x2183 : Int)), (6, .pointer (some (Addr.add ⟨b2203, 0, none⟩ 0))), (7, .int .i64 (s.1 : Int))], [⟨b2203, [str x2192.To, str x2197.From, e], 50⟩], [], [((Ty.int .i64).fact (s.1 : Int) [.int .i64 (s.1 : Int)]), ((Ty.slice ty83).fact s.2 [e]), ((Ty.slice ty50).fact a0 [w2175]), ((Ty.slice ty50).fact x2182 [v2184]), ((Ty.int .i64).fact (x2183 : Int) [.int .i64 (x2183 : Int)]), (Ty.str.fact x2192.To [str x2192.To]), (Ty.str.fact x2197.From [str x2197.From])]⟩ : St)) (x2204 + 1, x2270) v2271 hr ⟨⟨rfl, ⟨rfl, ⟨rfl, ⟨rfl, ⟨rfl, trivial⟩⟩⟩⟩⟩, ⟨[true], rfl⟩, ⟨[], rfl⟩, ⟨[0, 1, 2, 3, 4, 6, 7], rfl⟩⟩
      replace hr := ineg h2218 hr
      refine at_false rfl (decide_eq_false (by omega)) ?_
      refine at_exit (at_then_exit (at_then_exit (at_in_exit ?_)))
      have hq := oinj hr
      clear hr
      subst hq
      exact at_leaf v2206 ⟨⟨rfl, ⟨rfl, ⟨rfl, ⟨rfl, trivial⟩⟩⟩⟩, ⟨[true], rfl⟩, ⟨[], rfl⟩, ⟨[6, 7, 8, 9, 10, 11], rfl⟩⟩
     clear hl2209
     intro v2208
     change At _ _ (⟨[(0, w2175), (4, v2184), (5, .int .i64 (x2183 : Int)), (6, .pointer (some (Addr.add ⟨b2203, 0, none⟩ 0)))], [⟨b2203, [str x2192.To, str x2197.From, v2208], 50⟩], [], [((Ty.slice ty83).fact x2207 [v2208]), ((Ty.slice ty50).fact a0 [w2175]), ((Ty.slice ty50).fact x2182 [v2184]), ((Ty.int .i64).fact (x2183 : Int) [.int .i64 (x2183 : Int)]), (Ty.str.fact x2192.To [str x2192.To]), (Ty.str.fact x2197.From [str x2197.From])]⟩ : St) _
     refine s_tr (s_mv rfl (at_lt (lt_load_box 0 rfl ti50 rfl rfl rfl rfl rfl) rfl ?_))
     replace hr := obind hr
     obtain ⟨x2325, h2326, hr⟩ := hr
     refine at_derive [4, 5, 0] (ty50.fact (⟨x2192.To, x2197.From, x2207⟩ : D_ref16_Entry) [str x2192.To, str x2197.From, v2208]) rfl (fun F w h => mk50 (x := (⟨x2192.To, x2197.From, x2207⟩ : D_ref16_Entry)) h) ?_
     refine at_hv rfl (hv_call0 [3, 0] (f72_spec h2326) rfl rfl rfl rfl ?_)
     rintro s2327 _ ⟨_, rfl, rfl⟩
     refine s_as rfl (at_nil (at_in (s_tr (s_mv rfl (at_lt (lt_add rfl rfl (by simp only [lo, hi]; omega)) rfl (s_as rfl (at_nil (at_int .i64 (x2183 + 1 : Int) (by simp only [lo, hi]; omega) ?_))))))))
     exact at_again (σ := ((List D_ref16_Entry) × Nat)) (V := Value) (lp := fun n s => m35_l1 a0 n s.1 s.2) (S := fun s e => (⟨[(0, w2175), (4, e), (5, .int .i64 (s.2 : Int))], [], [], [((Ty.slice ty50).fact s.1 [e]), ((Ty.int .i64).fact (s.2 : Int) [.int .i64 (s.2 : Int)]), ((Ty.slice ty50).fact a0 [w2175])]⟩ : St)) (x2325, x2183 + 1) s2327 hr ⟨⟨rfl, ⟨rfl, ⟨rfl, trivial⟩⟩⟩, ⟨[false], rfl⟩, ⟨[], rfl⟩, ⟨[1, 0, 4], rfl⟩⟩
    replace hr := ineg h2191 hr
    refine at_false rfl (decide_eq_false (by omega)) ?_
    refine at_exit (at_then_exit (at_then_exit (at_in_exit ?_)))
    have hq := oinj hr
    clear hr
    subst hq
    exact at_leaf v2184 ⟨⟨rfl, trivial⟩, ⟨[], rfl⟩, ⟨[], rfl⟩, ⟨[0], rfl⟩⟩
   clear hl2187
   intro v2186
   change At _ _ (⟨[(4, v2186)], [], [], [((Ty.slice ty50).fact x2185 [v2186])]⟩ : St) _
   refine s_tsr (s_mv rfl (s_as rfl (s_as rfl (s_nt (at_ret ?_)))))
   have hq := oinj hr
   clear hr
   subst hq
   refine at_int .i64 0 (by simp only [lo, hi]; omega) ?_
   exact at_return (.tuple #[v2186, .int .i64 0]) [1, 0] hS Tryz.results35 (.cons (.tmp rfl) (.cons (.tmp rfl) .nil)) rfl rfl ⟨v2186, rfl, rfl⟩
  replace hr := ineg h2181 hr
  refine at_true rfl (nf (bf h2181)) (s_sr (s_as rfl (s_as rfl (s_nt (at_ret ?_)))))
  have hq := oinj hr
  clear hr
  subst hq
  refine at_then_ret (at_fnil ty50 none (at_int .i64 16 (by simp only [lo, hi]; omega) ?_))
  exact at_return (.tuple #[(.slice none 0 0), .int .i64 16]) [1, 0] hS Tryz.results35 (.cons (.tmp rfl) (.cons (.tmp rfl) .nil)) rfl rfl ⟨((.slice none 0 0)), rfl, rfl⟩
 replace hr := ineg h2178 hr
 refine at_true rfl (nf (bf h2178)) (s_sr (s_as rfl (s_as rfl (s_nt (at_ret ?_)))))
 have hq := oinj hr
 clear hr
 subst hq
 refine at_then_ret (at_fnil ty50 none (at_int .i64 1 (by simp only [lo, hi]; omega) ?_))
 exact at_return (.tuple #[(.slice none 0 0), .int .i64 1]) [1, 0] hS Tryz.results35 (.cons (.tmp rfl) (.cons (.tmp rfl) .nil)) rfl rfl ⟨((.slice none 0 0)), rfl, rfl⟩
def m36_l2 (a0 : (List D_ref16_Entry)) (a1 : (List D_ref16_Entry)) (x2338 : Nat) (x2356 : Int) : Nat → Nat → (List D_ref16_Pair) → Option (List D_ref16_Pair)
  | 0, _, _ => none
  | k + 1, x2372, x2373 =>
    (a0[x2338]?).bind fun x2383 =>
    if x2372 < x2383.Codes.length then
     (at? a1 x2356).bind fun x2391 =>
     (a0[x2338]?).bind fun x2396 =>
     (x2396.Codes[x2372]?).bind fun x2401 =>
     (m40 x2391.Codes x2401.To false).bind fun x2405 =>
     Option.bind (α := (List D_ref16_Pair)) (
      if x2405.toNat = 0 then
       some x2373
      else
       (a0[x2338]?).bind fun x2413 =>
       (x2413.Codes[x2372]?).bind fun x2418 =>
       if x2373.length + 1 ≤ 70368744177664 then
        some (x2373 ++ [(⟨x2418.From, x2405⟩ : D_ref16_Pair)])
       else none
     ) fun x2407 =>
     if x2372 + 1 ≤ 9223372036854775807 then
      m36_l2 a0 a1 x2338 x2356 k (x2372 + 1) x2407
     else none
    else
     some x2373
def m36_l1 (a0 : (List D_ref16_Entry)) (a1 : (List D_ref16_Entry)) : Nat → (List D_ref16_Entry) → Nat → Option (List D_ref16_Entry)
  | 0, _, _ => none
  | k + 1, x2337, x2338 =>
    if x2338 < a0.length then
     (a0[x2338]?).bind fun x2351 =>
     (m39 a1 x2351.To false).bind fun x2356 =>
     if x2356 < 0 then
      m36_l1 a0 a1 k x2337 (x2338 + 1)
     else
      (a0[x2338]?).bind fun x2360 =>
      (at? a1 x2356).bind fun x2365 =>
      (m36_l2 a0 a1 x2338 x2356 9223372036854775808 0 ([] : (List D_ref16_Pair))).bind fun x2377 =>
      Option.bind (α := (List D_ref16_Entry)) (
       if 0 < x2377.length then
        if x2337.length + 1 ≤ 2513169434916 then
         some (x2337 ++ [(⟨x2360.From, x2365.To, x2377⟩ : D_ref16_Entry)])
        else none
       else
        some x2337
      ) fun x2434 =>
      m36_l1 a0 a1 k x2434 (x2338 + 1)
    else
     some x2337
def m36 (a0 : (List D_ref16_Entry)) (a1 : (List D_ref16_Entry)) : Option ((List D_ref16_Entry) × Int) :=
  (m24 a0).bind fun x2331 =>
  if x2331 = true then
   (m24 a1).bind fun x2334 =>
   if x2334 = true then
    (m36_l1 a0 a1 (a0.length + 1) ([] : (List D_ref16_Entry)) 0).bind fun x2342 =>
    some (x2342, 0)
   else
    some (([] : (List D_ref16_Entry)), 1)
  else
   some (([] : (List D_ref16_Entry)), 1)
def post36 (r : ((List D_ref16_Entry) × Int)) (v : Value) (fs : List Fact) : Prop := ∃ s2447 : Value, v = .tuple #[s2447, .int .i64 r.2] ∧ fs = [((Ty.slice ty50).fact r.1 [s2447]), ((Ty.int .i64).fact r.2 [.int .i64 r.2])]
theorem en36 : Enters Tryz.prog 36 := ⟨_, Tryz.func36, by kernel_rfl, rfl⟩
theorem f36_spec {a0 : (List D_ref16_Entry)} {a1 : (List D_ref16_Entry)} {w2329 : Value} {w2330 : Value} {r : ((List D_ref16_Entry) × Int)} (hr : m36 a0 a1 = some r) : Spec Tryz.prog 36 [w2329, w2330] [((Ty.slice ty50).fact a0 [w2329]), ((Ty.slice ty50).fact a1 [w2330])] (post36 r) := by
 refine spec_start (N := 98) Tryz.func36 (by kernel_rfl) rfl rfl rfl ?_
 intro g hS
 unfold m36 at hr
 refine s_sr (s_as rfl (s_as rfl (s_nt (at_seq (s_sr (s_mv rfl ?_))))))
 replace hr := obind hr
 obtain ⟨x2331, h2332, hr⟩ := hr
 refine at_hv rfl (hv_call0 [0] (f24_spec h2332) rfl rfl rfl rfl ?_)
 rintro _ _ ⟨rfl, rfl⟩
 refine at_lt (lt_not rfl) rfl (s_mv rfl ?_)
 by_cases h2333 : x2331 = true
 ·replace hr := ipos h2333 hr
  refine at_on rfl rfl (nt h2333) (s_mv rfl ?_)
  replace hr := obind hr
  obtain ⟨x2334, h2335, hr⟩ := hr
  refine at_on rfl rfl (nt h2333) (at_hv rfl (hv_call0 [1] (f24_spec h2335) rfl rfl rfl rfl ?_))
  rintro _ _ ⟨rfl, rfl⟩
  refine at_on rfl rfl (nt h2333) (at_lt (lt_not rfl) rfl (at_lt (lt_pick false rfl (nt h2333) rfl) rfl (s_nt ?_)))
  by_cases h2336 : x2334 = true
  ·replace hr := ipos h2336 hr
   refine at_false rfl (nt h2336) (at_skip (s_tsr (s_as rfl (s_nt (at_seq (s_sr (s_as rfl (s_nt (at_rownew none 50 3 ?_)))))))))
   refine at_rownil ty50 ?_
   refine at_mkpure (q := (([] : (List D_ref16_Entry)).length * ty50.bytes ≤ 140737488355328)) (by simp only [List.nil_append, List.cons_append, List.length_cons, List.length_nil, ty50_bytes] <;> omega) ?_
   refine at_int .i64 0 (by simp only [lo, hi]; omega) ?_
   replace hr := obind hr
   obtain ⟨x2342, hl2346, hr⟩ := hr
   refine at_cut (V := Value × Nat × (List Value)) (fun e => (⟨[(6, e.1)], [], [⟨e.1, 50, 3, e.2.1, e.2.2⟩], [(ty50.row x2342 e.2.2), (pureF (x2342.length * ty50.bytes ≤ 140737488355328))]⟩ : St)) ?_ ?_
   ·refine at_block ?_
    refine at_loopW (σ := ((List D_ref16_Entry) × Nat)) (V := Value × Nat × (List Value)) (r := x2342) (fun n s => m36_l1 a0 a1 n s.1 s.2) (fun s e => (⟨[(0, w2329), (1, w2330), (6, e.1), (7, .int .i64 (s.2 : Int))], [], [⟨e.1, 50, 3, e.2.1, e.2.2⟩], [(ty50.row s.1 e.2.2), (pureF (s.1.length * ty50.bytes ≤ 140737488355328)), ((Ty.int .i64).fact (s.2 : Int) [.int .i64 (s.2 : Int)]), ((Ty.slice ty50).fact a0 [w2329]), ((Ty.slice ty50).fact a1 [w2330])]⟩ : St)) (fun _ => rfl) _ (([] : (List D_ref16_Entry)), 0) ((.slice none 0 0), 0, []) hl2346 ⟨⟨rfl, ⟨rfl, ⟨rfl, ⟨rfl, trivial⟩⟩⟩⟩, ⟨[], rfl⟩, ⟨[true], rfl⟩, ⟨[2, 1, 0, 3, 4], rfl⟩⟩ ?_
    clear hr hl2346
    intro n s hr e
    obtain ⟨x2337, x2338⟩ := s
    obtain ⟨v2339, n2340, i2341⟩ := e
    change m36_l1 a0 a1 (n + 1) x2337 x2338 = some x2342 at hr
    change At _ _ (⟨[(0, w2329), (1, w2330), (6, v2339), (7, .int .i64 (x2338 : Int))], [], [⟨v2339, 50, 3, n2340, i2341⟩], [(ty50.row x2337 i2341), (pureF (x2337.length * ty50.bytes ≤ 140737488355328)), ((Ty.int .i64).fact (x2338 : Int) [.int .i64 (x2338 : Int)]), ((Ty.slice ty50).fact a0 [w2329]), ((Ty.slice ty50).fact a1 [w2330])]⟩ : St) _
    rw [m36_l1] at hr
    refine at_seq (s_sr (s_mv rfl (s_mv rfl ?_)))
    refine at_inv 3 rfl (fun i2348 => ?_)
    have l2349 := slice_len i2348
    refine at_lt (lt_flen 3 rfl rfl und22) rfl (at_lt (lt_lss rfl rfl) rfl (s_nt ?_))
    by_cases h2350 : x2338 < a0.length
    ·replace hr := ipos h2350 hr
     refine at_true rfl (decide_eq_true (by omega)) ?_
     refine at_skip (at_then (at_seq (at_block (s_sr (s_mv rfl (s_mv rfl (s_mv rfl ?_)))))))
     replace hr := obind hr
     obtain ⟨x2351, h2352, hr⟩ := hr
     have := (List.getElem?_eq_some_iff.1 h2352).1
     refine at_elem 3 rfl (nat_at' h2352) (fun p2354 ec pa2355 => ?_)
     refine at_open (A := Value) 0 rfl _ _ (fun F w h => op50 h) ?_
     rintro s2353 rfl
     refine at_lt (lt_idx rfl rfl pa2355 und22 ti50) rfl (at_lt (lt_fieldAddr 1 rfl fld50_1 rfl) rfl (at_lt (lt_load_peek 4 rfl ti9 rfl rfl rfl rfl rfl) rfl ?_))
     replace hr := obind hr
     obtain ⟨x2356, h2357, hr⟩ := hr
     refine at_hv rfl (hv_call0 [9, 1] (f39_spec h2357) rfl rfl rfl rfl ?_)
     rintro _ _ ⟨rfl, rfl⟩
     refine at_inv 0 rfl (fun l2358 => ?_)
     replace l2358 : (-9223372036854775808) ≤ x2356 ∧ x2356 ≤ 9223372036854775807 := l2358
     refine s_as rfl (s_nt (at_seq (s_sr (s_mv rfl (at_lt (lt_lss rfl rfl) rfl (s_nt ?_))))))
     by_cases h2359 : x2356 < 0
     ·replace hr := ipos h2359 hr
      refine at_true rfl (decide_eq_true (by first | exact h2359 | omega)) ?_
      refine at_exit (at_then_exit (at_in_exit (s_tr (s_mv rfl (at_lt (lt_add rfl rfl (by simp only [lo, hi]; omega)) rfl (s_as rfl (at_nil (at_int .i64 (x2338 + 1 : Int) (by simp only [lo, hi]; omega) ?_))))))))
      exact at_again (σ := ((List D_ref16_Entry) × Nat)) (V := Value × Nat × (List Value)) (lp := fun n s => m36_l1 a0 a1 n s.1 s.2) (S := fun s e => (⟨[(0, w2329), (1, w2330), (6, e.1), (7, .int .i64 (s.2 : Int))], [], [⟨e.1, 50, 3, e.2.1, e.2.2⟩], [(ty50.row s.1 e.2.2), (pureF (s.1.length * ty50.bytes ≤ 140737488355328)), ((Ty.int .i64).fact (s.2 : Int) [.int .i64 (s.2 : Int)]), ((Ty.slice ty50).fact a0 [w2329]), ((Ty.slice ty50).fact a1 [w2330])]⟩ : St)) (x2337, x2338 + 1) (v2339, n2340, i2341) hr ⟨⟨rfl, ⟨rfl, ⟨rfl, ⟨rfl, trivial⟩⟩⟩⟩, ⟨[], rfl⟩, ⟨[true], rfl⟩, ⟨[7, 8, 0, 10, 11], rfl⟩⟩
     replace hr := ineg h2359 hr
     refine at_false rfl (decide_eq_false (by first | exact h2359 | omega)) ?_
     refine at_skip (at_then (at_seq ?_))
     replace hr := obind hr
     obtain ⟨x2360, h2361, hr⟩ := hr
     have := (List.getElem?_eq_some_iff.1 h2361).1
     refine at_elem 9 rfl (nat_at' h2361) (fun p2363 ec pa2364 => ?_)
     refine at_open (A := Value) 0 rfl _ _ (fun F w h => op50 h) ?_
     rintro s2362 rfl
     replace hr := obind hr
     obtain ⟨x2365, h2366, hr⟩ := hr
     have := at?_lt h2366
     refine at_elem 15 rfl h2366 (fun p2368 ec pa2369 => ?_)
     refine at_open (A := Value) 0 rfl _ _ (fun F w h => op50 h) ?_
     rintro s2367 rfl
     refine aa_start 13 (by kernel_rfl) ?_
     refine aa_p 0 rfl (lt_move rfl) (aa_p 1 rfl (lt_move rfl) (aa_p 2 rfl (lt_idx rfl rfl pa2364 und22 ti50) (aa_p 3 rfl (lt_fieldAddr 0 rfl fld50_0 rfl) (aa_l 4 rfl (lt_load_peek 9 rfl ti9 rfl rfl rfl rfl rfl) (aa_p 5 rfl (lt_move rfl) (aa_p 6 rfl (lt_move rfl) (aa_p 7 rfl (lt_idx rfl rfl pa2369 und22 ti50) (aa_p 8 rfl (lt_fieldAddr 1 rfl fld50_1 rfl) (aa_l 9 rfl (lt_load_peek 4 rfl ti9 rfl rfl rfl rfl rfl) ?_)))))))))
     refine aa_p 10 rfl (lt_build (cs := [str x2360.From, str x2365.To, (.slice none 0 0)]) rfl ti50 pl50 rfl) (aa_one 11 (aa_op rfl rfl ?_))
     refine hv_alloc (cs := [str ([] : Str), str ([] : Str), (.slice none 0 0)]) ti50 rfl rfl (fun b2371 => ?_)
     refine aa_all (rs := [12]) (by kernel_rfl) rfl (ts_in 1 0 rfl rfl) (List.forall_mem_singleton.2 ?_)
     refine aa_op rfl rfl (hv_store_box 0 (cs' := [str x2360.From, str x2365.To, (.slice none 0 0)]) rfl rfl ti50 rfl rfl rfl rfl rfl ?_)
     refine aa_done (by kernel_rfl) (ts_in 1 0 rfl rfl) ?_
     refine at_then (at_seq (s_sr (s_as rfl (s_nt (at_int .i64 0 (by simp only [lo, hi]; omega) (at_rownew none 83 2 (at_rownil ty83 ?_)))))))
     refine at_mkpure (q := (([] : (List D_ref16_Pair)).length * ty83.bytes ≤ 140737488355328)) (by simp only [List.nil_append, List.cons_append, List.length_cons, List.length_nil, ty83_bytes] <;> omega) ?_
     replace hr := obind hr
     obtain ⟨x2377, hl2381, hr⟩ := hr
     refine at_cut (V := Value × Nat × (List Value)) (fun e => (⟨[(0, w2329), (1, w2330), (6, v2339), (7, .int .i64 (x2338 : Int)), (9, .pointer (some (Addr.add ⟨b2371, 0, none⟩ 0)))], [⟨b2371, [str x2360.From, str x2365.To, e.1], 50⟩], [⟨e.1, 83, 2, e.2.1, e.2.2⟩, ⟨v2339, 50, 3, n2340, i2341⟩], [(ty83.row x2377 e.2.2), (pureF (x2377.length * ty83.bytes ≤ 140737488355328)), ((Ty.slice ty50).fact a0 [w2329]), ((Ty.slice ty50).fact a1 [w2330]), (ty50.row x2337 i2341), (pureF (x2337.length * ty50.bytes ≤ 140737488355328)), ((Ty.int .i64).fact (x2338 : Int) [.int .i64 (x2338 : Int)]), (Ty.str.fact x2360.From [str x2360.From]), (Ty.str.fact x2365.To [str x2365.To])]⟩ : St)) ?_ ?_
     ·refine at_block ?_
      refine at_loopW (σ := (Nat × (List D_ref16_Pair))) (V := Value × Nat × (List Value)) (r := x2377) (fun n s => m36_l2 a0 a1 x2338 x2356 n s.1 s.2) (fun s e => (⟨[(0, w2329), (1, w2330), (6, v2339), (7, .int .i64 (x2338 : Int)), (8, .int .i64 x2356), (9, .pointer (some (Addr.add ⟨b2371, 0, none⟩ 0))), (10, .int .i64 (s.1 : Int))], [⟨b2371, [str x2360.From, str x2365.To, e.1], 50⟩], [⟨e.1, 83, 2, e.2.1, e.2.2⟩, ⟨v2339, 50, 3, n2340, i2341⟩], [((Ty.int .i64).fact (s.1 : Int) [.int .i64 (s.1 : Int)]), (ty83.row s.2 e.2.2), (pureF (s.2.length * ty83.bytes ≤ 140737488355328)), ((Ty.slice ty50).fact a0 [w2329]), ((Ty.slice ty50).fact a1 [w2330]), (ty50.row x2337 i2341), (pureF (x2337.length * ty50.bytes ≤ 140737488355328)), ((Ty.int .i64).fact (x2338 : Int) [.int .i64 (x2338 : Int)]), ((Ty.int .i64).fact x2356 [.int .i64 x2356]), (Ty.str.fact x2360.From [str x2360.From]), (Ty.str.fact x2365.To [str x2365.To])]⟩ : St)) (fun _ => rfl) _ (0, ([] : (List D_ref16_Pair))) ((.slice none 0 0), 0, []) hl2381 ⟨⟨rfl, ⟨rfl, ⟨rfl, ⟨rfl, ⟨rfl, ⟨rfl, ⟨rfl, trivial⟩⟩⟩⟩⟩⟩⟩, ⟨[true], rfl⟩, ⟨[true, true], rfl⟩, ⟨[2, 1, 0, 22, 23, 19, 20, 21, 13, 8, 4], rfl⟩⟩ ?_
      clear hr hl2381
      intro n s hr e
      obtain ⟨x2372, x2373⟩ := s
      obtain ⟨v2374, n2375, i2376⟩ := e
      change m36_l2 a0 a1 x2338 x2356 (n + 1) x2372 x2373 = some x2377 at hr
      change At _ _ (⟨[(0, w2329), (1, w2330), (6, v2339), (7, .int .i64 (x2338 : Int)), (8, .int .i64 x2356), (9, .pointer (some (Addr.add ⟨b2371, 0, none⟩ 0))), (10, .int .i64 (x2372 : Int))], [⟨b2371, [str x2360.From, str x2365.To, v2374], 50⟩], [⟨v2374, 83, 2, n2375, i2376⟩, ⟨v2339, 50, 3, n2340, i2341⟩], [((Ty.int .i64).fact (x2372 : Int) [.int .i64 (x2372 : Int)]), (ty83.row x2373 i2376), (pureF (x2373.length * ty83.bytes ≤ 140737488355328)), ((Ty.slice ty50).fact a0 [w2329]), ((Ty.slice ty50).fact a1 [w2330]), (ty50.row x2337 i2341), (pureF (x2337.length * ty50.bytes ≤ 140737488355328)), ((Ty.int .i64).fact (x2338 : Int) [.int .i64 (x2338 : Int)]), ((Ty.int .i64).fact x2356 [.int .i64 x2356]), (Ty.str.fact x2360.From [str x2360.From]), (Ty.str.fact x2365.To [str x2365.To])]⟩ : St) _
      rw [m36_l2] at hr
      refine at_seq (s_sr (s_mv rfl (s_mv rfl (s_mv rfl ?_))))
      replace hr := obind hr
      obtain ⟨x2383, h2384, hr⟩ := hr
      have := (List.getElem?_eq_some_iff.1 h2384).1
      refine at_elem 3 rfl (nat_at' h2384) (fun p2386 ec pa2387 => ?_)
      refine at_open (A := Value) 0 rfl _ _ (fun F w h => op50 h) ?_
      rintro s2385 rfl
      refine at_lt (lt_idx rfl rfl pa2387 und22 ti50) rfl (at_lt (lt_fieldAddr 2 rfl fld50_2 rfl) rfl (at_lt (lt_load_peek 4 rfl ti48 rfl rfl rfl rfl rfl) rfl ?_))
      refine at_inv 2 rfl (fun i2388 => ?_)
      have l2389 := slice_len i2388
      refine at_lt (lt_flen 2 rfl rfl und48) rfl (at_lt (lt_lss rfl rfl) rfl (s_nt ?_))
      by_cases h2390 : x2372 < x2383.Codes.length
      ·replace hr := ipos h2390 hr
       refine at_true rfl (decide_eq_true (by omega)) ?_
       refine at_skip (at_then (at_seq (at_block (at_seq ?_))))
       replace hr := obind hr
       obtain ⟨x2391, h2392, hr⟩ := hr
       have := at?_lt h2392
       refine at_elem 9 rfl h2392 (fun p2394 ec pa2395 => ?_)
       refine at_open (A := Value) 0 rfl _ _ (fun F w h => op50 h) ?_
       rintro s2393 rfl
       replace hr := obind hr
       obtain ⟨x2396, h2397, hr⟩ := hr
       have := (List.getElem?_eq_some_iff.1 h2397).1
       refine at_elem 13 rfl (nat_at' h2397) (fun p2399 ec pa2400 => ?_)
       refine at_open (A := Value) 0 rfl _ _ (fun F w h => op50 h) ?_
       rintro s2398 rfl
       replace hr := obind hr
       obtain ⟨x2401, h2402, hr⟩ := hr
       have := (List.getElem?_eq_some_iff.1 h2402).1
       refine at_elem 2 rfl (nat_at' h2402) (fun p2403 ec pa2404 => ?_)
       refine at_open (A := Unit) 0 rfl _ _ (fun F w h => op83 h) ?_
       rintro _ rfl
       replace hr := obind hr
       obtain ⟨x2405, h2406, hr⟩ := hr
       refine aa_start 16 (by kernel_rfl) ?_
       refine aa_p 0 rfl (lt_move rfl) (aa_p 1 rfl (lt_move rfl) (aa_p 2 rfl (lt_idx rfl rfl pa2395 und22 ti50) (aa_p 3 rfl (lt_fieldAddr 2 rfl fld50_2 rfl) (aa_l 4 rfl (lt_load_peek 11 rfl ti48 rfl rfl rfl rfl rfl) (aa_p 5 rfl (lt_move rfl) (aa_p 6 rfl (lt_move rfl) (aa_p 7 rfl (lt_idx rfl rfl pa2400 und22 ti50) (aa_p 8 rfl (lt_fieldAddr 2 rfl fld50_2 rfl) (aa_l 9 rfl (lt_load_peek 6 rfl ti48 rfl rfl rfl rfl rfl) ?_)))))))))
       refine aa_p 10 rfl (lt_move rfl) (aa_p 11 rfl (lt_idx rfl rfl pa2404 und48 ti83) (aa_p 12 rfl (lt_fieldAddr 1 rfl fld83_1 rfl) (aa_l 13 rfl (lt_load_peek 1 rfl ti5 rfl rfl rfl rfl rfl) (aa_one 14 (aa_op rfl rfl (hv_call0 [9] (f40_spec h2406) rfl rfl rfl rfl ?_))))))
       rintro _ _ ⟨rfl, rfl⟩
       refine aa_p 15 rfl (lt_assign rfl) ?_
       refine aa_done (by kernel_rfl) (ts_in 0 0 rfl rfl) ?_
       refine s_tsr (s_mv rfl (at_lt (lt_neq rfl rfl) rfl (s_nt ?_)))
       replace hr := obind hr
       obtain ⟨x2407, hc2411, hr⟩ := hr
       refine at_cut (V := Value × Nat × (List Value)) (fun e => (⟨[(0, w2329), (1, w2330), (6, v2339), (7, .int .i64 (x2338 : Int)), (8, .int .i64 x2356), (9, .pointer (some (Addr.add ⟨b2371, 0, none⟩ 0))), (10, .int .i64 (x2372 : Int))], [⟨b2371, [str x2360.From, str x2365.To, e.1], 50⟩], [⟨e.1, 83, 2, e.2.1, e.2.2⟩, ⟨v2339, 50, 3, n2340, i2341⟩], [(ty83.row x2407 e.2.2), (pureF (x2407.length * ty83.bytes ≤ 140737488355328)), ((Ty.slice ty50).fact a0 [w2329]), ((Ty.slice ty50).fact a1 [w2330]), (ty50.row x2337 i2341), (pureF (x2337.length * ty50.bytes ≤ 140737488355328)), ((Ty.int .i64).fact (x2338 : Int) [.int .i64 (x2338 : Int)]), ((Ty.int .i64).fact x2356 [.int .i64 x2356]), ((Ty.int .i64).fact (x2372 : Int) [.int .i64 (x2372 : Int)]), (Ty.str.fact x2360.From [str x2360.From]), (Ty.str.fact x2365.To [str x2365.To])]⟩ : St)) ?_ ?_
       ·clear hr
        have hr := hc2411
        clear hc2411
        by_cases h2412 : x2405.toNat = 0
        ·replace hr := ipos h2412 hr
         refine at_false rfl (nt (decide_eq_true (by omega))) ?_
         refine at_skip ?_
         have hq := oinj hr
         clear hr
         subst hq
         exact at_leaf (v2374, n2375, i2376) ⟨⟨rfl, ⟨rfl, ⟨rfl, ⟨rfl, ⟨rfl, ⟨rfl, ⟨rfl, trivial⟩⟩⟩⟩⟩⟩⟩, ⟨[true], rfl⟩, ⟨[true, true], rfl⟩, ⟨[18, 19, 20, 21, 22, 23, 24, 25, 17, 26, 27], rfl⟩⟩
        replace hr := ineg h2412 hr
        refine at_true rfl (nf (decide_eq_false (by omega))) ?_
        replace hr := obind hr
        obtain ⟨x2413, h2414, hr⟩ := hr
        have := (List.getElem?_eq_some_iff.1 h2414).1
        refine at_elem 20 rfl (nat_at' h2414) (fun p2416 ec pa2417 => ?_)
        refine at_open (A := Value) 0 rfl _ _ (fun F w h => op50 h) ?_
        rintro s2415 rfl
        replace hr := obind hr
        obtain ⟨x2418, h2419, hr⟩ := hr
        have := (List.getElem?_eq_some_iff.1 h2419).1
        refine at_elem 2 rfl (nat_at' h2419) (fun p2420 ec pa2421 => ?_)
        refine at_open (A := Unit) 0 rfl _ _ (fun F w h => op83 h) ?_
        rintro _ rfl
        replace hr := imust hr
        obtain ⟨h2423, hr⟩ := hr
        refine aa_start 16 (by kernel_rfl) ?_
        refine aa_p 0 rfl (lt_fieldAddr 2 rfl fld50_2 rfl) (aa_l 1 rfl (lt_load_box 0 rfl ti48 rfl rfl rfl rfl rfl) (aa_p 2 rfl (lt_move rfl) (aa_p 3 rfl (lt_move rfl) (aa_p 4 rfl (lt_idx rfl rfl pa2417 und22 ti50) (aa_p 5 rfl (lt_fieldAddr 2 rfl fld50_2 rfl) (aa_l 6 rfl (lt_load_peek 6 rfl ti48 rfl rfl rfl rfl rfl) (aa_p 7 rfl (lt_move rfl) (aa_p 8 rfl (lt_idx rfl rfl pa2421 und48 ti83) (aa_p 9 rfl (lt_fieldAddr 0 rfl fld83_0 rfl) ?_)))))))))
        refine aa_l 10 rfl (lt_load_peek 1 rfl ti5 rfl rfl rfl rfl rfl) (aa_p 11 rfl (lt_move rfl) (aa_p 12 rfl (lt_build (cs := [.int .u8 (x2418.From.toNat : Int), .int .u8 (x2405.toNat : Int)]) rfl ti83 pl83 rfl) (aa_one 13 (aa_op rfl rfl ?_))))
        refine hv_bslice (cs := [.int .u8 (x2418.From.toNat : Int), .int .u8 (x2405.toNat : Int)]) rfl und48 ti83 rfl rfl rfl rfl rfl (fun s2427 => ?_)
        refine aa_one 14 ?_
        refine at_derive [] (ty83.fact (⟨x2418.From, x2405⟩ : D_ref16_Pair) [.int .u8 (x2418.From.toNat : Int), .int .u8 (x2405.toNat : Int)]) rfl (fun F w h => mk83 (x := (⟨x2418.From, x2405⟩ : D_ref16_Pair)) h) ?_
        refine at_rown 1 26 rfl rfl rfl (fun hn2429 => ?_)
        refine aa_op rfl rfl ?_
        refine hv_append 1 0 rfl rfl rfl rfl und48 ti83 rfl rfl rfl (by omega) (by omega) rfl (fun s2428 => ?_)
        refine at_rowsnoc 26 0 rfl rfl ?_
        refine aa_pure 15 rfl (by kernel_rfl) rfl rfl (lt_fieldAddr 2 rfl fld50_2 rfl) rfl (ts_in 0 2 rfl rfl) ?_
        refine aa_all (rs := [16]) (by kernel_rfl) rfl (ts_in 0 2 rfl rfl) (List.forall_mem_singleton.2 ?_)
        refine at_rowv 1 rfl (fun ho2430 => ?_)
        replace ho2430 := row_one (by obtain ⟨a, c, h⟩ := ho2430; exact ⟨a, _, c, h⟩)
        refine aa_op rfl rfl (hv_store1 0 (cs' := [str x2360.From, str x2365.To, s2428]) rfl rfl ti48 rfl rfl rfl rfl ho2430 ?_)
        refine aa_done (by kernel_rfl) (ts_out rfl) ?_
        have hq := oinj hr
        clear hr
        subst hq
        refine at_mkpure (q := ((x2373 ++ [(⟨x2418.From, x2405⟩ : D_ref16_Pair)]).length * ty83.bytes ≤ 140737488355328)) (by simp only [List.length_append, List.length_cons, List.length_nil, ty83_bytes] <;> omega) ?_
        exact at_leaf (s2428, n2375 + 1, i2376 ++ [.int .u8 (x2418.From.toNat : Int), .int .u8 (x2405.toNat : Int)]) ⟨⟨rfl, ⟨rfl, ⟨rfl, ⟨rfl, ⟨rfl, ⟨rfl, ⟨rfl, trivial⟩⟩⟩⟩⟩⟩⟩, ⟨[true], rfl⟩, ⟨[false, true, true], rfl⟩, ⟨[1, 0, 30, 31, 32, 33, 34, 35, 27, 36, 37], rfl⟩⟩
       clear hc2411
       intro e
       obtain ⟨v2408, n2409, i2410⟩ := e
       change At _ _ (⟨[(0, w2329), (1, w2330), (6, v2339), (7, .int .i64 (x2338 : Int)), (8, .int .i64 x2356), (9, .pointer (some (Addr.add ⟨b2371, 0, none⟩ 0))), (10, .int .i64 (x2372 : Int))], [⟨b2371, [str x2360.From, str x2365.To, v2408], 50⟩], [⟨v2408, 83, 2, n2409, i2410⟩, ⟨v2339, 50, 3, n2340, i2341⟩], [(ty83.row x2407 i2410), (pureF (x2407.length * ty83.bytes ≤ 140737488355328)), ((Ty.slice ty50).fact a0 [w2329]), ((Ty.slice ty50).fact a1 [w2330]), (ty50.row x2337 i2341), (pureF (x2337.length * ty50.bytes ≤ 140737488355328)), ((Ty.int .i64).fact (x2338 : Int) [.int .i64 (x2338 : Int)]), ((Ty.int .i64).fact x2356 [.int .i64 x2356]), ((Ty.int .i64).fact (x2372 : Int) [.int .i64 (x2372 : Int)]), (Ty.str.fact x2360.From [str x2360.From]), (Ty.str.fact x2365.To [str x2365.To])]⟩ : St) _
       refine at_in (s_tr (s_mv rfl ?_))
       replace hr := imust hr
       obtain ⟨h2431, hr⟩ := hr
       refine at_lt (lt_add rfl rfl (by simp only [lo, hi]; omega)) rfl (s_as rfl (at_nil (at_int .i64 (x2372 + 1 : Int) (by simp only [lo, hi]; omega) ?_)))
       exact at_again (σ := (Nat × (List D_ref16_Pair))) (V := Value × Nat × (List Value)) (lp := fun n s => m36_l2 a0 a1 x2338 x2356 n s.1 s.2) (S := fun s e => (⟨[(0, w2329), (1, w2330), (6, v2339), (7, .int .i64 (x2338 : Int)), (8, .int .i64 x2356), (9, .pointer (some (Addr.add ⟨b2371, 0, none⟩ 0))), (10, .int .i64 (s.1 : Int))], [⟨b2371, [str x2360.From, str x2365.To, e.1], 50⟩], [⟨e.1, 83, 2, e.2.1, e.2.2⟩, ⟨v2339, 50, 3, n2340, i2341⟩], [((Ty.int .i64).fact (s.1 : Int) [.int .i64 (s.1 : Int)]), (ty83.row s.2 e.2.2), (pureF (s.2.length * ty83.bytes ≤ 140737488355328)), ((Ty.slice ty50).fact a0 [w2329]), ((Ty.slice ty50).fact a1 [w2330]), (ty50.row x2337 i2341), (pureF (x2337.length * ty50.bytes ≤ 140737488355328)), ((Ty.int .i64).fact (x2338 : Int) [.int .i64 (x2338 : Int)]), ((Ty.int .i64).fact x2356 [.int .i64 x2356]), (Ty.str.fact x2360.From [str x2360.From]), (Ty.str.fact x2365.To [str x2365.To])]⟩ : St)) (x2372 + 1, x2407) (v2408, n2409, i2410) hr ⟨⟨rfl, ⟨rfl, ⟨rfl, ⟨rfl, ⟨rfl, ⟨rfl, ⟨rfl, trivial⟩⟩⟩⟩⟩⟩⟩, ⟨[true], rfl⟩, ⟨[true, true], rfl⟩, ⟨[0, 1, 2, 3, 4, 5, 6, 7, 8, 10, 11], rfl⟩⟩
      replace hr := ineg h2390 hr
      refine at_false rfl (decide_eq_false (by omega)) ?_
      refine at_exit (at_then_exit (at_then_exit (at_in_exit ?_)))
      have hq := oinj hr
      clear hr
      subst hq
      exact at_leaf (v2374, n2375, i2376) ⟨⟨rfl, ⟨rfl, ⟨rfl, ⟨rfl, ⟨rfl, trivial⟩⟩⟩⟩⟩, ⟨[true], rfl⟩, ⟨[true, true], rfl⟩, ⟨[6, 7, 8, 9, 10, 11, 12, 14, 15], rfl⟩⟩
     clear hl2381
     intro e
     obtain ⟨v2378, n2379, i2380⟩ := e
     change At _ _ (⟨[(0, w2329), (1, w2330), (6, v2339), (7, .int .i64 (x2338 : Int)), (9, .pointer (some (Addr.add ⟨b2371, 0, none⟩ 0)))], [⟨b2371, [str x2360.From, str x2365.To, v2378], 50⟩], [⟨v2378, 83, 2, n2379, i2380⟩, ⟨v2339, 50, 3, n2340, i2341⟩], [(ty83.row x2377 i2380), (pureF (x2377.length * ty83.bytes ≤ 140737488355328)), ((Ty.slice ty50).fact a0 [w2329]), ((Ty.slice ty50).fact a1 [w2330]), (ty50.row x2337 i2341), (pureF (x2337.length * ty50.bytes ≤ 140737488355328)), ((Ty.int .i64).fact (x2338 : Int) [.int .i64 (x2338 : Int)]), (Ty.str.fact x2360.From [str x2360.From]), (Ty.str.fact x2365.To [str x2365.To])]⟩ : St) _
     refine s_tsr (at_lt (lt_fieldAddr 2 rfl fld50_2 rfl) rfl (at_lt (lt_load_box 0 rfl ti48 rfl rfl rfl rfl rfl) rfl ?_))
     refine at_rown 0 0 rfl rfl rfl (fun hn2432 => ?_)
     refine at_rowv 0 rfl (fun hv2433 => ?_)
     refine at_lt (lt_rlen rfl hv2433 und48 hn2432) rfl (at_lt (lt_gtr rfl rfl) rfl (s_nt ?_))
     replace hr := obind hr
     obtain ⟨x2434, hc2438, hr⟩ := hr
     refine at_cut (V := Value × Nat × (List Value)) (fun e => (⟨[(0, w2329), (1, w2330), (6, e.1), (7, .int .i64 (x2338 : Int))], [], [⟨e.1, 50, 3, e.2.1, e.2.2⟩], [(ty50.row x2434 e.2.2), (pureF (x2434.length * ty50.bytes ≤ 140737488355328)), ((Ty.slice ty50).fact a0 [w2329]), ((Ty.slice ty50).fact a1 [w2330]), ((Ty.int .i64).fact (x2338 : Int) [.int .i64 (x2338 : Int)])]⟩ : St)) ?_ ?_
     ·clear hr
      have hr := hc2438
      clear hc2438
      by_cases h2439 : 0 < x2377.length
      ·replace hr := ipos h2439 hr
       refine at_true rfl (decide_eq_true (by omega)) ?_
       refine at_region (s_mv rfl (at_lt (lt_load_box 0 rfl ti50 rfl rfl rfl rfl rfl) rfl (at_hv rfl ?_)))
       refine hv_bslice (cs := [str x2360.From, str x2365.To, v2378]) rfl und22 ti50 rfl rfl rfl rfl rfl (fun s2440 => ?_)
       replace hr := imust hr
       obtain ⟨h2441, hr⟩ := hr
       refine at_pure 1 rfl (fun hb2443 => ?_)
       refine at_release 1 0 rfl rfl rfl hb2443 ?_
       refine at_derive [8, 9, 0] (ty50.fact (⟨x2360.From, x2365.To, x2377⟩ : D_ref16_Entry) [str x2360.From, str x2365.To, v2378]) rfl (fun F w h => mk50 (x := (⟨x2360.From, x2365.To, x2377⟩ : D_ref16_Entry)) h) ?_
       refine at_rown 1 6 rfl rfl rfl (fun hn2444 => ?_)
       refine at_one 1 rfl (fun ho2445 => ?_)
       refine at_hv rfl ?_
       refine hv_append 1 0 rfl rfl rfl rfl und22 ti50 rfl rfl (allc rfl (allc rfl (allc ho2445 rfl))) (by omega) (by omega) rfl (fun s2442 => ?_)
       refine at_rowsnoc 6 0 rfl rfl (s_as rfl (at_nil ?_))
       have hq := oinj hr
       clear hr
       subst hq
       refine at_mkpure (q := ((x2337 ++ [(⟨x2360.From, x2365.To, x2377⟩ : D_ref16_Entry)]).length * ty50.bytes ≤ 140737488355328)) (by simp only [List.length_append, List.length_cons, List.length_nil, ty50_bytes] <;> omega) ?_
       exact at_leaf (s2442, n2340 + 1, i2341 ++ [str x2360.From, str x2365.To, v2378]) ⟨⟨rfl, ⟨rfl, ⟨rfl, ⟨rfl, trivial⟩⟩⟩⟩, ⟨[false], rfl⟩, ⟨[false, true], rfl⟩, ⟨[1, 0, 6, 7, 10], rfl⟩⟩
      replace hr := ineg h2439 hr
      refine at_false rfl (decide_eq_false (by omega)) ?_
      refine at_skip ?_
      have hq := oinj hr
      clear hr
      subst hq
      exact at_leaf (v2339, n2340, i2341) ⟨⟨rfl, ⟨rfl, ⟨rfl, ⟨rfl, trivial⟩⟩⟩⟩, ⟨[false], rfl⟩, ⟨[false, true], rfl⟩, ⟨[4, 5, 2, 3, 6], rfl⟩⟩
     clear hc2438
     intro e
     obtain ⟨v2435, n2436, i2437⟩ := e
     change At _ _ (⟨[(0, w2329), (1, w2330), (6, v2435), (7, .int .i64 (x2338 : Int))], [], [⟨v2435, 50, 3, n2436, i2437⟩], [(ty50.row x2434 i2437), (pureF (x2434.length * ty50.bytes ≤ 140737488355328)), ((Ty.slice ty50).fact a0 [w2329]), ((Ty.slice ty50).fact a1 [w2330]), ((Ty.int .i64).fact (x2338 : Int) [.int .i64 (x2338 : Int)])]⟩ : St) _
     refine at_in (s_tr (s_mv rfl (at_lt (lt_add rfl rfl (by simp only [lo, hi]; omega)) rfl (s_as rfl (at_nil (at_int .i64 (x2338 + 1 : Int) (by simp only [lo, hi]; omega) ?_))))))
     exact at_again (σ := ((List D_ref16_Entry) × Nat)) (V := Value × Nat × (List Value)) (lp := fun n s => m36_l1 a0 a1 n s.1 s.2) (S := fun s e => (⟨[(0, w2329), (1, w2330), (6, e.1), (7, .int .i64 (s.2 : Int))], [], [⟨e.1, 50, 3, e.2.1, e.2.2⟩], [(ty50.row s.1 e.2.2), (pureF (s.1.length * ty50.bytes ≤ 140737488355328)), ((Ty.int .i64).fact (s.2 : Int) [.int .i64 (s.2 : Int)]), ((Ty.slice ty50).fact a0 [w2329]), ((Ty.slice ty50).fact a1 [w2330])]⟩ : St)) (x2434, x2338 + 1) (v2435, n2436, i2437) hr ⟨⟨rfl, ⟨rfl, ⟨rfl, ⟨rfl, trivial⟩⟩⟩⟩, ⟨[], rfl⟩, ⟨[true], rfl⟩, ⟨[1, 2, 0, 3, 4], rfl⟩⟩
    replace hr := ineg h2350 hr
    refine at_false rfl (decide_eq_false (by omega)) ?_
    refine at_exit (at_then_exit (at_then_exit (at_in_exit ?_)))
    have hq := oinj hr
    clear hr
    subst hq
    exact at_leaf (v2339, n2340, i2341) ⟨⟨rfl, trivial⟩, ⟨[], rfl⟩, ⟨[true], rfl⟩, ⟨[0, 1], rfl⟩⟩
   clear hl2346
   intro e
   obtain ⟨v2343, n2344, i2345⟩ := e
   change At _ _ (⟨[(6, v2343)], [], [⟨v2343, 50, 3, n2344, i2345⟩], [(ty50.row x2342 i2345), (pureF (x2342.length * ty50.bytes ≤ 140737488355328))]⟩ : St) _
   refine s_tsr (s_mv rfl (s_as rfl (s_as rfl (s_nt (at_ret ?_)))))
   have hq := oinj hr
   clear hr
   subst hq
   refine at_pure 1 rfl (fun hb2446 => ?_)
   refine at_release 0 0 rfl rfl rfl hb2446 (at_int .i64 0 (by simp only [lo, hi]; omega) ?_)
   exact at_return (.tuple #[v2343, .int .i64 0]) [1, 0] hS Tryz.results36 (.cons (.tmp rfl) (.cons (.tmp rfl) .nil)) rfl rfl ⟨v2343, rfl, rfl⟩
  replace hr := ineg h2336 hr
  refine at_true rfl (nf (bf h2336)) (s_sr (s_as rfl (s_as rfl (s_nt (at_ret ?_)))))
  have hq := oinj hr
  clear hr
  subst hq
  refine at_then_ret (at_fnil ty50 none (at_int .i64 1 (by simp only [lo, hi]; omega) ?_))
  exact at_return (.tuple #[(.slice none 0 0), .int .i64 1]) [1, 0] hS Tryz.results36 (.cons (.tmp rfl) (.cons (.tmp rfl) .nil)) rfl rfl ⟨((.slice none 0 0)), rfl, rfl⟩
 replace hr := ineg h2333 hr
 refine at_off rfl rfl (nf (bf h2333)) rfl (at_off rfl rfl (nf (bf h2333)) rfl (at_off rfl rfl (nf (bf h2333)) rfl (at_lt (lt_pick true rfl (nf (bf h2333)) rfl) rfl (s_nt (at_true rfl rfl (s_sr (s_as rfl (s_as rfl (s_nt ?_)))))))))
 refine at_ret ?_
 have hq := oinj hr
 clear hr
 subst hq
 refine at_then_ret (at_fnil ty50 none (at_int .i64 1 (by simp only [lo, hi]; omega) ?_))
 exact at_return (.tuple #[(.slice none 0 0), .int .i64 1]) [1, 0] hS Tryz.results36 (.cons (.tmp rfl) (.cons (.tmp rfl) .nil)) rfl rfl ⟨((.slice none 0 0)), rfl, rfl⟩
def m73_l1 (a0 : D_ref16_Entry) : Nat → Str → Nat → Option Str
  | 0, _, _ => none
  | k + 1, x2452, x2453 =>
    if x2453 < a0.Codes.length then
     (a0.Codes[x2453]?).bind fun x2460 =>
     (a0.Codes[x2453]?).bind fun x2464 =>
     if ([32] : Str).length + ([x2460.From, 62, x2464.To] : Str).length ≤ 9223372036854775807 then
      if x2452.length + (([32] : Str) ++ ([x2460.From, 62, x2464.To] : Str)).length ≤ 9223372036854775807 then
       m73_l1 a0 k (x2452 ++ (([32] : Str) ++ ([x2460.From, 62, x2464.To] : Str))) (x2453 + 1)
      else none
     else none
    else
     some x2452
def m73 (a0 : D_ref16_Entry) : Option Str :=
  if a0.From.length + ([32, 62, 32] : Str).length ≤ 9223372036854775807 then
   if (a0.From ++ ([32, 62, 32] : Str)).length + a0.To.length ≤ 9223372036854775807 then
    (m73_l1 a0 (a0.Codes.length + 1) (a0.From ++ ([32, 62, 32] : Str) ++ a0.To) 0).bind fun x2454 =>
    some x2454
   else none
  else none
def post73 (r : Str) (v : Value) (fs : List Fact) : Prop := v = str r ∧ fs = [(Ty.str.fact r [str r])]
theorem en73 : Enters Tryz.prog 73 := ⟨_, Tryz.func73, by kernel_rfl, rfl⟩
theorem f73_spec {a0 : D_ref16_Entry} {s2448 : Value} {r : Str} (hr : m73 a0 = some r) : Spec Tryz.prog 73 [.agg #[str a0.From, str a0.To, s2448]] [(ty50.fact a0 [str a0.From, str a0.To, s2448])] (post73 r) := by
 refine spec_start (N := 36) Tryz.func73 (by kernel_rfl) rfl rfl rfl ?_
 intro g hS
 unfold m73 at hr
 refine at_open (A := Unit) 0 rfl (fun _ => True) (fun _ => [(Ty.str.fact a0.From [str a0.From]), (Ty.str.fact a0.To [str a0.To]), ((Ty.slice ty83).fact a0.Codes [s2448])]) (fun F w h => ⟨(), trivial, ex50 h⟩) (fun _ _ => ?_)
 refine s_sr (at_hv rfl ?_)
 refine hv_box (cs := [str a0.From, str a0.To, s2448]) rfl rfl rfl (fun b2449 => ?_)
 refine s_as rfl (s_ntsr (at_lt (lt_fieldAddr 0 rfl fld50_0 rfl) rfl (at_lt (lt_load_box 0 rfl ti9 rfl rfl rfl rfl rfl) rfl ?_)))
 replace hr := imust hr
 obtain ⟨h2450, hr⟩ := hr
 refine at_lt (lt_sadd rfl rfl h2450) rfl (at_lt (lt_fieldAddr 1 rfl fld50_1 rfl) rfl (at_lt (lt_load_box 0 rfl ti9 rfl rfl rfl rfl rfl) rfl ?_))
 replace hr := imust hr
 obtain ⟨h2451, hr⟩ := hr
 refine at_lt (lt_sadd rfl rfl h2451) rfl (s_as rfl (s_nt (at_seq (s_sr (s_as rfl (s_nt ?_))))))
 refine at_str (a0.From ++ ([32, 62, 32] : Str) ++ a0.To) (by rw [List.length_append]; exact h2451) ?_
 refine at_int .i64 0 (by simp only [lo, hi]; omega) ?_
 replace hr := obind hr
 obtain ⟨x2454, hl2455, hr⟩ := hr
 refine at_cut (V := Unit) (fun e => (⟨[(3, str x2454)], [], [], [(Ty.str.fact x2454 [str x2454])]⟩ : St)) ?_ ?_
 ·refine at_block ?_
  refine at_loopW (σ := (Str × Nat)) (V := Unit) (r := x2454) (fun n s => m73_l1 a0 n s.1 s.2) (fun s e => (⟨[(1, .pointer (some (Addr.add ⟨b2449, 0, none⟩ 0))), (3, str s.1), (4, .int .i64 (s.2 : Int))], [⟨b2449, [str a0.From, str a0.To, s2448], 50⟩], [], [(Ty.str.fact s.1 [str s.1]), ((Ty.int .i64).fact (s.2 : Int) [.int .i64 (s.2 : Int)]), (Ty.str.fact a0.From [str a0.From]), (Ty.str.fact a0.To [str a0.To]), ((Ty.slice ty83).fact a0.Codes [s2448])]⟩ : St)) (fun _ => rfl) _ (a0.From ++ ([32, 62, 32] : Str) ++ a0.To, 0) () hl2455 ⟨⟨rfl, ⟨rfl, ⟨rfl, trivial⟩⟩⟩, ⟨[true], rfl⟩, ⟨[], rfl⟩, ⟨[1, 0, 2, 3, 4], rfl⟩⟩ ?_
  clear hr hl2455
  intro n s hr e
  obtain ⟨x2452, x2453⟩ := s
  skip
  change m73_l1 a0 (n + 1) x2452 x2453 = some x2454 at hr
  change At _ _ (⟨[(1, .pointer (some (Addr.add ⟨b2449, 0, none⟩ 0))), (3, str x2452), (4, .int .i64 (x2453 : Int))], [⟨b2449, [str a0.From, str a0.To, s2448], 50⟩], [], [(Ty.str.fact x2452 [str x2452]), ((Ty.int .i64).fact (x2453 : Int) [.int .i64 (x2453 : Int)]), (Ty.str.fact a0.From [str a0.From]), (Ty.str.fact a0.To [str a0.To]), ((Ty.slice ty83).fact a0.Codes [s2448])]⟩ : St) _
  rw [m73_l1] at hr
  refine at_seq (s_sr (s_mv rfl (at_lt (lt_fieldAddr 2 rfl fld50_2 rfl) rfl (at_lt (lt_load_box 0 rfl ti48 rfl rfl rfl rfl rfl) rfl ?_))))
  refine at_inv 4 rfl (fun i2457 => ?_)
  have l2458 := slice_len i2457
  refine at_lt (lt_flen 4 rfl rfl und48) rfl (at_lt (lt_lss rfl rfl) rfl (s_nt ?_))
  by_cases h2459 : x2453 < a0.Codes.length
  ·replace hr := ipos h2459 hr
   refine at_true rfl (decide_eq_true (by omega)) ?_
   refine at_skip (at_then (at_seq (at_block ?_)))
   replace hr := obind hr
   obtain ⟨x2460, h2461, hr⟩ := hr
   have := (List.getElem?_eq_some_iff.1 h2461).1
   refine at_elem 4 rfl (nat_at' h2461) (fun p2462 ec pa2463 => ?_)
   refine at_open (A := Unit) 0 rfl _ _ (fun F w h => op83 h) ?_
   rintro _ rfl
   replace hr := obind hr
   obtain ⟨x2464, h2465, hr⟩ := hr
   have := (List.getElem?_eq_some_iff.1 h2465).1
   refine at_elem 6 rfl (nat_at' h2465) (fun p2466 ec pa2467 => ?_)
   refine at_open (A := Unit) 0 rfl _ _ (fun F w h => op83 h) ?_
   rintro _ rfl
   replace hr := imust hr
   obtain ⟨h2469, hr⟩ := hr
   replace hr := imust hr
   obtain ⟨h2470, hr⟩ := hr
   refine aa_start 18 (by kernel_rfl) ?_
   refine aa_p 0 rfl (lt_move rfl) (aa_p 1 rfl (lt_fieldAddr 2 rfl fld50_2 rfl) (aa_l 2 rfl (lt_load_box 0 rfl ti48 rfl rfl rfl rfl rfl) (aa_p 3 rfl (lt_move rfl) (aa_p 4 rfl (lt_idx rfl rfl pa2463 und48 ti83) (aa_p 5 rfl (lt_fieldAddr 0 rfl fld83_0 rfl) (aa_l 6 rfl (lt_load_peek 3 rfl ti5 rfl rfl rfl rfl rfl) (aa_p 7 rfl (lt_fieldAddr 2 rfl fld50_2 rfl) (aa_l 8 rfl (lt_load_box 0 rfl ti48 rfl rfl rfl rfl rfl) (aa_p 9 rfl (lt_move rfl) ?_)))))))))
   refine aa_p 10 rfl (lt_idx rfl rfl pa2467 und48 ti83) (aa_p 11 rfl (lt_fieldAddr 1 rfl fld83_1 rfl) (aa_l 12 rfl (lt_load_peek 1 rfl ti5 rfl rfl rfl rfl rfl) (aa_one 13 (aa_op rfl rfl ?_))))
   refine hv_bslice (cs := [.int .u8 (x2460.From.toNat : Int), .int .u8 62, .int .u8 (x2464.To.toNat : Int)]) rfl und123 ti5 rfl rfl rfl rfl rfl (fun s2471 => ?_)
   refine aa_one 14 (aa_op rfl rfl (lt_bstr 0 [x2460.From, 62, x2464.To] rfl rfl rfl und123 und5 und9 rfl (aa_p 15 rfl (lt_sadd rfl rfl h2469) (aa_p 16 rfl (lt_sadd rfl rfl h2470) (aa_p 17 rfl (lt_assign rfl) ?_)))))
   refine aa_done (by kernel_rfl) (ts_in 0 0 rfl rfl) ?_
   refine at_in (s_tr (s_mv rfl ?_))
   refine at_inv 4 rfl (fun l2472 => ?_)
   replace l2472 : x2452.length ≤ 9223372036854775807 := l2472
   refine at_inv 6 rfl (fun l2473 => ?_)
   replace l2473 : a0.From.length ≤ 9223372036854775807 := l2473
   refine at_inv 7 rfl (fun l2474 => ?_)
   replace l2474 : a0.To.length ≤ 9223372036854775807 := l2474
   refine at_lt (lt_add rfl rfl (by simp only [lo, hi]; omega)) rfl (s_as rfl (at_nil ?_))
   refine at_str (x2452 ++ (([32] : Str) ++ ([x2460.From, 62, x2464.To] : Str))) (by rw [List.length_append]; exact h2470) ?_
   refine at_int .i64 (x2453 + 1 : Int) (by simp only [lo, hi]; omega) ?_
   exact at_again (σ := (Str × Nat)) (V := Unit) (lp := fun n s => m73_l1 a0 n s.1 s.2) (S := fun s e => (⟨[(1, .pointer (some (Addr.add ⟨b2449, 0, none⟩ 0))), (3, str s.1), (4, .int .i64 (s.2 : Int))], [⟨b2449, [str a0.From, str a0.To, s2448], 50⟩], [], [(Ty.str.fact s.1 [str s.1]), ((Ty.int .i64).fact (s.2 : Int) [.int .i64 (s.2 : Int)]), (Ty.str.fact a0.From [str a0.From]), (Ty.str.fact a0.To [str a0.To]), ((Ty.slice ty83).fact a0.Codes [s2448])]⟩ : St)) (x2452 ++ (([32] : Str) ++ ([x2460.From, 62, x2464.To] : Str)), x2453 + 1) () hr ⟨⟨rfl, ⟨rfl, ⟨rfl, trivial⟩⟩⟩, ⟨[true], rfl⟩, ⟨[false], rfl⟩, ⟨[1, 0, 8, 9, 10], rfl⟩⟩
  replace hr := ineg h2459 hr
  refine at_false rfl (decide_eq_false (by omega)) ?_
  refine at_exit (at_then_exit (at_then_exit (at_in_exit ?_)))
  have hq := oinj hr
  clear hr
  subst hq
  exact at_leaf () ⟨⟨rfl, trivial⟩, ⟨[false], rfl⟩, ⟨[], rfl⟩, ⟨[0], rfl⟩⟩
 clear hl2455
 intro e
 change At _ _ (⟨[(3, str x2454)], [], [], [(Ty.str.fact x2454 [str x2454])]⟩ : St) _
 refine s_tsr (s_mv rfl (s_as rfl (s_nt (at_ret ?_))))
 have hq := oinj hr
 clear hr
 subst hq
 exact at_return (str x2454) [0] hS Tryz.results73 (.cons (.tmp rfl) .nil) rfl rfl ⟨rfl, rfl⟩
def m37_l1 (a0 : (List D_ref16_Entry)) : Nat → Str → Nat → Option Str
  | 0, _, _ => none
  | k + 1, x2479, x2480 =>
    if x2480 < a0.length then
     (a0[x2480]?).bind fun x2487 =>
     (m73 x2487).bind fun x2492 =>
     if x2492.length + ([10] : Str).length ≤ 9223372036854775807 then
      if x2479.length + (x2492 ++ ([10] : Str)).length ≤ 9223372036854775807 then
       m37_l1 a0 k (x2479 ++ (x2492 ++ ([10] : Str))) (x2480 + 1)
      else none
     else none
    else
     some x2479
def m37 (a0 : (List D_ref16_Entry)) : Option (Str × Int) :=
  (m24 a0).bind fun x2476 =>
  if x2476 = true then
   (m37_l1 a0 (a0.length + 1) ([] : Str) 0).bind fun x2481 =>
   some (x2481, 0)
  else
   some (([] : Str), 1)
def post37 (r : (Str × Int)) (v : Value) (fs : List Fact) : Prop := v = .tuple #[str r.1, .int .i64 r.2] ∧ fs = [(Ty.str.fact r.1 [str r.1]), ((Ty.int .i64).fact r.2 [.int .i64 r.2])]
theorem en37 : Enters Tryz.prog 37 := ⟨_, Tryz.func37, by kernel_rfl, rfl⟩
theorem f37_spec {a0 : (List D_ref16_Entry)} {w2475 : Value} {r : (Str × Int)} (hr : m37 a0 = some r) : Spec Tryz.prog 37 [w2475] [((Ty.slice ty50).fact a0 [w2475])] (post37 r) := by
 refine spec_start (N := 24) Tryz.func37 (by kernel_rfl) rfl rfl rfl ?_
 intro g hS
 unfold m37 at hr
 refine s_sr (s_as rfl (s_as rfl (s_nt (at_seq (s_sr (s_mv rfl ?_))))))
 replace hr := obind hr
 obtain ⟨x2476, h2477, hr⟩ := hr
 refine at_hv rfl (hv_call0 [0] (f24_spec h2477) rfl rfl rfl rfl ?_)
 rintro _ _ ⟨rfl, rfl⟩
 refine at_lt (lt_not rfl) rfl (s_nt ?_)
 by_cases h2478 : x2476 = true
 ·replace hr := ipos h2478 hr
  refine at_false rfl (nt h2478) (at_skip (s_tsr (s_as rfl (s_nt (at_seq (s_sr (s_as rfl (s_nt ?_))))))))
  refine at_str ([] : Str) (by decide) ?_
  refine at_int .i64 0 (by simp only [lo, hi]; omega) ?_
  replace hr := obind hr
  obtain ⟨x2481, hl2482, hr⟩ := hr
  refine at_cut (V := Unit) (fun e => (⟨[(4, str x2481)], [], [], [(Ty.str.fact x2481 [str x2481])]⟩ : St)) ?_ ?_
  ·refine at_block ?_
   refine at_loopW (σ := (Str × Nat)) (V := Unit) (r := x2481) (fun n s => m37_l1 a0 n s.1 s.2) (fun s e => (⟨[(0, w2475), (4, str s.1), (5, .int .i64 (s.2 : Int))], [], [], [(Ty.str.fact s.1 [str s.1]), ((Ty.int .i64).fact (s.2 : Int) [.int .i64 (s.2 : Int)]), ((Ty.slice ty50).fact a0 [w2475])]⟩ : St)) (fun _ => rfl) _ (([] : Str), 0) () hl2482 ⟨⟨rfl, ⟨rfl, ⟨rfl, trivial⟩⟩⟩, ⟨[], rfl⟩, ⟨[], rfl⟩, ⟨[1, 0, 2], rfl⟩⟩ ?_
   clear hr hl2482
   intro n s hr e
   obtain ⟨x2479, x2480⟩ := s
   skip
   change m37_l1 a0 (n + 1) x2479 x2480 = some x2481 at hr
   change At _ _ (⟨[(0, w2475), (4, str x2479), (5, .int .i64 (x2480 : Int))], [], [], [(Ty.str.fact x2479 [str x2479]), ((Ty.int .i64).fact (x2480 : Int) [.int .i64 (x2480 : Int)]), ((Ty.slice ty50).fact a0 [w2475])]⟩ : St) _
   rw [m37_l1] at hr
   refine at_seq (s_sr (s_mv rfl (s_mv rfl ?_)))
   refine at_inv 2 rfl (fun i2484 => ?_)
   have l2485 := slice_len i2484
   refine at_lt (lt_flen 2 rfl rfl und22) rfl (at_lt (lt_lss rfl rfl) rfl (s_nt ?_))
   by_cases h2486 : x2480 < a0.length
   ·replace hr := ipos h2486 hr
    refine at_true rfl (decide_eq_true (by omega)) ?_
    refine at_skip (at_then (at_seq (at_block (at_region (s_mv rfl (s_mv rfl (s_mv rfl ?_)))))))
    replace hr := obind hr
    obtain ⟨x2487, h2488, hr⟩ := hr
    have := (List.getElem?_eq_some_iff.1 h2488).1
    refine at_elem 2 rfl (nat_at' h2488) (fun p2490 ec pa2491 => ?_)
    refine at_open (A := Value) 0 rfl _ _ (fun F w h => op50 h) ?_
    rintro s2489 rfl
    refine at_lt (lt_idx rfl rfl pa2491 und22 ti50) rfl (at_lt (lt_load_peek 4 rfl ti50 rfl rfl rfl rfl rfl) rfl ?_)
    replace hr := obind hr
    obtain ⟨x2492, h2493, hr⟩ := hr
    refine at_hv rfl (hv_call0 [3] (f73_spec h2493) rfl rfl rfl rfl ?_)
    rintro _ _ ⟨rfl, rfl⟩
    replace hr := imust hr
    obtain ⟨h2494, hr⟩ := hr
    refine at_lt (lt_sadd rfl rfl h2494) rfl ?_
    replace hr := imust hr
    obtain ⟨h2495, hr⟩ := hr
    refine at_lt (lt_sadd rfl rfl h2495) rfl (s_as rfl (at_nil (at_in (s_tr (s_mv rfl ?_)))))
    refine at_inv 0 rfl (fun l2496 => ?_)
    replace l2496 : x2492.length ≤ 9223372036854775807 := l2496
    refine at_inv 6 rfl (fun l2497 => ?_)
    replace l2497 : x2479.length ≤ 9223372036854775807 := l2497
    refine at_lt (lt_add rfl rfl (by simp only [lo, hi]; omega)) rfl (s_as rfl (at_nil ?_))
    refine at_str (x2479 ++ (x2492 ++ ([10] : Str))) (by rw [List.length_append]; exact h2495) ?_
    refine at_int .i64 (x2480 + 1 : Int) (by simp only [lo, hi]; omega) ?_
    exact at_again (σ := (Str × Nat)) (V := Unit) (lp := fun n s => m37_l1 a0 n s.1 s.2) (S := fun s e => (⟨[(0, w2475), (4, str s.1), (5, .int .i64 (s.2 : Int))], [], [], [(Ty.str.fact s.1 [str s.1]), ((Ty.int .i64).fact (s.2 : Int) [.int .i64 (s.2 : Int)]), ((Ty.slice ty50).fact a0 [w2475])]⟩ : St)) (x2479 ++ (x2492 ++ ([10] : Str)), x2480 + 1) () hr ⟨⟨rfl, ⟨rfl, ⟨rfl, trivial⟩⟩⟩, ⟨[], rfl⟩, ⟨[], rfl⟩, ⟨[1, 0, 10], rfl⟩⟩
   replace hr := ineg h2486 hr
   refine at_false rfl (decide_eq_false (by omega)) ?_
   refine at_exit (at_then_exit (at_then_exit (at_in_exit ?_)))
   have hq := oinj hr
   clear hr
   subst hq
   exact at_leaf () ⟨⟨rfl, trivial⟩, ⟨[], rfl⟩, ⟨[], rfl⟩, ⟨[0], rfl⟩⟩
  clear hl2482
  intro e
  change At _ _ (⟨[(4, str x2481)], [], [], [(Ty.str.fact x2481 [str x2481])]⟩ : St) _
  refine s_tsr (s_mv rfl (s_as rfl (s_as rfl (s_nt (at_ret ?_)))))
  have hq := oinj hr
  clear hr
  subst hq
  refine at_int .i64 0 (by simp only [lo, hi]; omega) ?_
  exact at_return (.tuple #[str x2481, .int .i64 0]) [1, 0] hS Tryz.results37 (.cons (.tmp rfl) (.cons (.tmp rfl) .nil)) rfl rfl ⟨rfl, rfl⟩
 replace hr := ineg h2478 hr
 refine at_true rfl (nf (bf h2478)) (s_sr (s_as rfl (s_as rfl (s_nt (at_ret ?_)))))
 have hq := oinj hr
 clear hr
 subst hq
 refine at_then_ret ?_
 refine at_str ([] : Str) (by decide) ?_
 refine at_int .i64 1 (by simp only [lo, hi]; omega) ?_
 exact at_return (.tuple #[str ([] : Str), .int .i64 1]) [1, 0] hS Tryz.results37 (.cons (.tmp rfl) (.cons (.tmp rfl) .nil)) rfl rfl ⟨rfl, rfl⟩
def m9 (a0 : (List D_ref16_Entry)) (a1 : (List D_ref16_Entry)) : Option Bool :=
  (m10).bind fun x2500 =>
  if x2500 = true then
   (m11 a0).bind fun x2503 =>
   if x2503 = true then
    (m11 a1).bind fun x2506 =>
    if x2506 = true then
     (m15 a0).bind fun x2509 =>
     (m31 x2509).bind fun x2512 =>
     (m34 a0).bind fun x2518 =>
     (m15 a0).bind fun x2524 =>
     (m33 x2524).bind fun x2527 =>
     (m35 a0).bind fun x2531 =>
     (m15 a0).bind fun x2535 =>
     (m15 a1).bind fun x2538 =>
     (m26 x2535 x2538).bind fun x2541 =>
     (m36 a0 a1).bind fun x2545 =>
     (m15 a0).bind fun x2549 =>
     (m23 x2549).bind fun x2552 =>
     (m37 a0).bind fun x2555 =>
     (m15 a0).bind fun x2558 =>
     (m27 x2558).bind fun x2561 =>
     (m24 a0).bind fun x2563 =>
     if (x2561 == x2563) = true then
      (m15 a0).bind fun x2566 =>
      (m17 x2566).bind fun x2569 =>
      (m32 a0).bind fun x2571 =>
      if (x2569 == x2571) = true then
       (m18 (⟨x2512.1.ID, x2512.1.Fields⟩ : D_api_Record) (⟨x2518.1.ID, x2518.1.Fields⟩ : D_api_Record)).bind fun x2574 =>
       if x2574 = true then
        if (x2512.2 == x2518.2) = true then
         (m22 x2527.1).bind fun x2578 =>
         (m21 x2578 x2531.1).bind fun x2581 =>
         if x2581 = true then
          if x2527.2 = x2531.2 then
           (m22 x2541.1).bind fun x2585 =>
           (m21 x2585 x2545.1).bind fun x2588 =>
           if x2588 = true then
            if x2541.2 = x2545.2 then
             if x2552.1 = x2555.1 then
              some (decide (x2552.2 = x2555.2))
             else
              some false
            else
             some false
           else
            some false
          else
           some false
         else
          some false
        else
         some false
       else
        some false
      else
       some false
     else
      some false
    else
     some true
   else
    some true
  else
   some false
def post9 (r : Bool) (v : Value) (fs : List Fact) : Prop := v = .bool r ∧ fs = []
theorem en9 : Enters Tryz.prog 9 := ⟨_, Tryz.func9, by kernel_rfl, rfl⟩
theorem f9_spec {a0 : (List D_ref16_Entry)} {a1 : (List D_ref16_Entry)} {w2498 : Value} {w2499 : Value} {r : Bool} (hr : m9 a0 a1 = some r) : Spec Tryz.prog 9 [w2498, w2499] [((Ty.slice ty50).fact a0 [w2498]), ((Ty.slice ty50).fact a1 [w2499]), (utf8F 1 2)] (post9 r) := by
 refine spec_start (N := 134) Tryz.func9 (by kernel_rfl) rfl rfl rfl ?_
 intro g hS
 unfold m9 at hr
 refine s_sr (s_as rfl (s_nt (at_seq (s_sr ?_))))
 replace hr := obind hr
 obtain ⟨x2500, h2501, hr⟩ := hr
 refine at_hv rfl (hv_call0 [2] (f10_spec h2501) rfl rfl rfl rfl ?_)
 rintro _ _ ⟨rfl, rfl⟩
 refine at_lt (lt_not rfl) rfl (s_nt ?_)
 by_cases h2502 : x2500 = true
 ·replace hr := ipos h2502 hr
  refine at_false rfl (nt h2502) (at_skip (at_then (at_seq (s_sr (s_mv rfl ?_)))))
  replace hr := obind hr
  obtain ⟨x2503, h2504, hr⟩ := hr
  refine at_hv rfl (hv_call0 [0] (f11_spec h2504) rfl rfl rfl rfl ?_)
  rintro _ _ ⟨rfl, rfl⟩
  refine at_lt (lt_not rfl) rfl (s_mv rfl ?_)
  by_cases h2505 : x2503 = true
  ·replace hr := ipos h2505 hr
   refine at_on rfl rfl (nt h2505) (s_mv rfl ?_)
   replace hr := obind hr
   obtain ⟨x2506, h2507, hr⟩ := hr
   refine at_on rfl rfl (nt h2505) (at_hv rfl (hv_call0 [1] (f11_spec h2507) rfl rfl rfl rfl ?_))
   rintro _ _ ⟨rfl, rfl⟩
   refine at_on rfl rfl (nt h2505) (at_lt (lt_not rfl) rfl (at_lt (lt_pick false rfl (nt h2505) rfl) rfl (s_nt ?_)))
   by_cases h2508 : x2506 = true
   ·replace hr := ipos h2508 hr
    refine at_false rfl (nt h2508) (at_skip (s_tsr (s_mv rfl ?_)))
    replace hr := obind hr
    obtain ⟨x2509, h2510, hr⟩ := hr
    refine at_hv rfl (hv_call0 [0] (f15_spec h2510) rfl rfl rfl rfl ?_)
    rintro s2511 _ ⟨_, rfl, rfl⟩
    replace hr := obind hr
    obtain ⟨x2512, h2513, hr⟩ := hr
    refine at_hv rfl (hv_call0 [0] (f31_spec h2513) rfl rfl rfl rfl ?_)
    rintro _ _ ⟨s2514, rfl, rfl⟩
    refine at_open (A := Unit) 0 rfl (fun _ => True) (fun _ => [((Ty.int .i64).fact x2512.1.ID [.int .i64 x2512.1.ID]), ((Ty.slice ty69).fact x2512.1.Fields [s2514])]) (fun F w h => ⟨(), trivial, ex25 h⟩) (fun _ _ => ?_)
    refine at_inv 0 rfl (fun l2515 => ?_)
    replace l2515 : (-9223372036854775808) ≤ x2512.1.ID ∧ x2512.1.ID ≤ 9223372036854775807 := l2515
    refine s_mv rfl (at_lt (lt_extract rfl rfl) rfl (at_lt (lt_extract rfl rfl) rfl (at_hv rfl ?_)))
    refine hv_alloc (cs := [.int .i64 0, (.slice none 0 0)]) ti25 rfl rfl (fun b2516 => ?_)
    refine at_one 1 rfl (fun ho2517 => ?_)
    refine at_hv rfl (hv_store_box 0 (cs' := [.int .i64 x2512.1.ID, s2514]) rfl rfl ti25 rfl rfl rfl rfl (allc rfl (allc ho2517 rfl)) (s_as rfl (s_ntsr (s_mv rfl ?_))))
    replace hr := obind hr
    obtain ⟨x2518, h2519, hr⟩ := hr
    refine at_hv rfl (hv_call0 [4] (f34_spec h2519) rfl rfl rfl rfl ?_)
    rintro _ _ ⟨s2520, rfl, rfl⟩
    refine at_open (A := Unit) 0 rfl (fun _ => True) (fun _ => [((Ty.int .i64).fact x2518.1.ID [.int .i64 x2518.1.ID]), ((Ty.slice ty69).fact x2518.1.Fields [s2520])]) (fun F w h => ⟨(), trivial, ex25 h⟩) (fun _ _ => ?_)
    refine at_inv 0 rfl (fun l2521 => ?_)
    replace l2521 : (-9223372036854775808) ≤ x2518.1.ID ∧ x2518.1.ID ≤ 9223372036854775807 := l2521
    refine s_mv rfl (at_lt (lt_extract rfl rfl) rfl (at_lt (lt_extract rfl rfl) rfl (at_hv rfl ?_)))
    refine hv_alloc (cs := [.int .i64 0, (.slice none 0 0)]) ti25 rfl rfl (fun b2522 => ?_)
    refine at_one 1 rfl (fun ho2523 => ?_)
    refine at_hv rfl (hv_store_box 0 (cs' := [.int .i64 x2518.1.ID, s2520]) rfl rfl ti25 rfl rfl rfl rfl (allc rfl (allc ho2523 rfl)) (s_as rfl (s_ntsr (s_mv rfl ?_))))
    replace hr := obind hr
    obtain ⟨x2524, h2525, hr⟩ := hr
    refine at_hv rfl (hv_call0 [7] (f15_spec h2525) rfl rfl rfl rfl ?_)
    rintro s2526 _ ⟨_, rfl, rfl⟩
    replace hr := obind hr
    obtain ⟨x2527, h2528, hr⟩ := hr
    refine at_hv rfl (hv_call0 [0] (f33_spec h2528) rfl rfl rfl rfl ?_)
    rintro _ _ ⟨s2529, rfl, rfl⟩
    refine at_inv 1 rfl (fun l2530 => ?_)
    replace l2530 : (-9223372036854775808) ≤ x2527.2 ∧ x2527.2 ≤ 9223372036854775807 := l2530
    refine s_mv rfl (at_lt (lt_extract rfl rfl) rfl (at_lt (lt_extract rfl rfl) rfl (s_as rfl (s_as rfl (s_ntsr (s_mv rfl ?_))))))
    replace hr := obind hr
    obtain ⟨x2531, h2532, hr⟩ := hr
    refine at_hv rfl (hv_call0 [10] (f35_spec h2532) rfl rfl rfl rfl ?_)
    rintro _ _ ⟨s2533, rfl, rfl⟩
    refine at_inv 1 rfl (fun l2534 => ?_)
    replace l2534 : (-9223372036854775808) ≤ x2531.2 ∧ x2531.2 ≤ 9223372036854775807 := l2534
    refine s_mv rfl (at_lt (lt_extract rfl rfl) rfl (at_lt (lt_extract rfl rfl) rfl (s_as rfl (s_as rfl (s_ntsr (s_mv rfl ?_))))))
    replace hr := obind hr
    obtain ⟨x2535, h2536, hr⟩ := hr
    refine at_hv rfl (hv_call0 [12] (f15_spec h2536) rfl rfl rfl rfl ?_)
    rintro s2537 _ ⟨_, rfl, rfl⟩
    refine s_mv rfl ?_
    replace hr := obind hr
    obtain ⟨x2538, h2539, hr⟩ := hr
    refine at_hv rfl (hv_call0 [14] (f15_spec h2539) rfl rfl rfl rfl ?_)
    rintro s2540 _ ⟨_, rfl, rfl⟩
    replace hr := obind hr
    obtain ⟨x2541, h2542, hr⟩ := hr
    refine at_hv rfl (hv_call0 [1, 0] (f26_spec h2542) rfl rfl rfl rfl ?_)
    rintro _ _ ⟨s2543, rfl, rfl⟩
    refine at_inv 1 rfl (fun l2544 => ?_)
    replace l2544 : (-9223372036854775808) ≤ x2541.2 ∧ x2541.2 ≤ 9223372036854775807 := l2544
    refine s_mv rfl (at_lt (lt_extract rfl rfl) rfl (at_lt (lt_extract rfl rfl) rfl (s_as rfl (s_as rfl (s_ntsr (s_mv rfl (s_mv rfl ?_)))))))
    replace hr := obind hr
    obtain ⟨x2545, h2546, hr⟩ := hr
    refine at_hv rfl (hv_call0 [16, 17] (f36_spec h2546) rfl rfl rfl rfl ?_)
    rintro _ _ ⟨s2547, rfl, rfl⟩
    refine at_inv 1 rfl (fun l2548 => ?_)
    replace l2548 : (-9223372036854775808) ≤ x2545.2 ∧ x2545.2 ≤ 9223372036854775807 := l2548
    refine s_mv rfl (at_lt (lt_extract rfl rfl) rfl (at_lt (lt_extract rfl rfl) rfl (s_as rfl (s_as rfl (s_ntsr (s_mv rfl ?_))))))
    replace hr := obind hr
    obtain ⟨x2549, h2550, hr⟩ := hr
    refine at_hv rfl (hv_call0 [18] (f15_spec h2550) rfl rfl rfl rfl ?_)
    rintro s2551 _ ⟨_, rfl, rfl⟩
    replace hr := obind hr
    obtain ⟨x2552, h2553, hr⟩ := hr
    refine at_hv rfl (hv_call0 [0] (f23_spec h2553) rfl rfl rfl rfl ?_)
    rintro _ _ ⟨rfl, rfl⟩
    refine at_inv 1 rfl (fun l2554 => ?_)
    replace l2554 : (-9223372036854775808) ≤ x2552.2 ∧ x2552.2 ≤ 9223372036854775807 := l2554
    refine s_mv rfl (at_lt (lt_extract rfl rfl) rfl (at_lt (lt_extract rfl rfl) rfl (s_as rfl (s_as rfl (s_ntsr (s_mv rfl ?_))))))
    replace hr := obind hr
    obtain ⟨x2555, h2556, hr⟩ := hr
    refine at_hv rfl (hv_call0 [21] (f37_spec h2556) rfl rfl rfl rfl ?_)
    rintro _ _ ⟨rfl, rfl⟩
    refine at_inv 1 rfl (fun l2557 => ?_)
    replace l2557 : (-9223372036854775808) ≤ x2555.2 ∧ x2555.2 ≤ 9223372036854775807 := l2557
    refine s_mv rfl (at_lt (lt_extract rfl rfl) rfl (at_lt (lt_extract rfl rfl) rfl (s_as rfl (s_as rfl (s_ntsr (s_mv rfl ?_))))))
    replace hr := obind hr
    obtain ⟨x2558, h2559, hr⟩ := hr
    refine at_hv rfl (hv_call0 [23] (f15_spec h2559) rfl rfl rfl rfl ?_)
    rintro s2560 _ ⟨_, rfl, rfl⟩
    replace hr := obind hr
    obtain ⟨x2561, h2562, hr⟩ := hr
    refine at_hv rfl (hv_call0 [0] (f27_spec h2562) rfl rfl rfl rfl ?_)
    rintro _ _ ⟨rfl, rfl⟩
    refine s_mv rfl ?_
    replace hr := obind hr
    obtain ⟨x2563, h2564, hr⟩ := hr
    refine at_hv rfl (hv_call0 [24] (f24_spec h2564) rfl rfl rfl rfl ?_)
    rintro _ _ ⟨rfl, rfl⟩
    refine at_lt (lt_beq rfl rfl und4) rfl (s_mv rfl ?_)
    by_cases h2565 : (x2561 == x2563) = true
    ·replace hr := ipos h2565 hr
     refine at_on rfl rfl h2565 (s_mv rfl ?_)
     replace hr := obind hr
     obtain ⟨x2566, h2567, hr⟩ := hr
     refine at_on rfl rfl h2565 (at_hv rfl (hv_call0 [24] (f15_spec h2567) rfl rfl rfl rfl ?_))
     rintro s2568 _ ⟨_, rfl, rfl⟩
     replace hr := obind hr
     obtain ⟨x2569, h2570, hr⟩ := hr
     refine at_on rfl rfl h2565 (at_hv rfl (hv_call0 [0] (f17_spec h2570) rfl rfl rfl rfl ?_))
     rintro _ _ ⟨rfl, rfl⟩
     refine at_on rfl rfl h2565 (s_mv rfl ?_)
     replace hr := obind hr
     obtain ⟨x2571, h2572, hr⟩ := hr
     refine at_on rfl rfl h2565 (at_hv rfl (hv_call0 [25] (f32_spec h2572) rfl rfl rfl rfl ?_))
     rintro _ _ ⟨rfl, rfl⟩
     refine at_on rfl rfl h2565 (at_lt (lt_beq rfl rfl und4) rfl (at_lt (lt_pick true rfl h2565 rfl) rfl (s_mv rfl ?_)))
     by_cases h2573 : (x2569 == x2571) = true
     ·replace hr := ipos h2573 hr
      refine at_on rfl rfl h2573 (at_lt (lt_load_box 1 rfl ti25 rfl rfl rfl rfl rfl) rfl (at_on rfl rfl h2573 (at_lt (lt_load_box 0 rfl ti25 rfl rfl rfl rfl rfl) rfl ?_)))
      replace hr := obind hr
      obtain ⟨x2574, h2575, hr⟩ := hr
      refine at_derive [21, 22] (ty25.fact (⟨x2512.1.ID, x2512.1.Fields⟩ : D_api_Record) [.int .i64 x2512.1.ID, s2514]) rfl (fun F w h => mk25 (x := (⟨x2512.1.ID, x2512.1.Fields⟩ : D_api_Record)) h) ?_
      refine at_derive [19, 20] (ty25.fact (⟨x2518.1.ID, x2518.1.Fields⟩ : D_api_Record) [.int .i64 x2518.1.ID, s2520]) rfl (fun F w h => mk25 (x := (⟨x2518.1.ID, x2518.1.Fields⟩ : D_api_Record)) h) ?_
      refine at_on rfl rfl h2573 (at_hv rfl (hv_call0 [1, 0] (f18_spec h2575) rfl rfl rfl rfl ?_))
      rintro _ _ ⟨rfl, rfl⟩
      refine at_lt (lt_pick true rfl h2573 rfl) rfl (s_mv rfl ?_)
      by_cases h2576 : x2574 = true
      ·replace hr := ipos h2576 hr
       refine at_on rfl rfl h2576 (s_mv rfl (at_on rfl rfl h2576 (s_mv rfl (at_on rfl rfl h2576 (at_lt (lt_beq rfl rfl und4) rfl (at_lt (lt_pick true rfl h2576 rfl) rfl (s_mv rfl ?_)))))))
       by_cases h2577 : (x2512.2 == x2518.2) = true
       ·replace hr := ipos h2577 hr
        refine at_on rfl rfl h2577 (s_mv rfl ?_)
        replace hr := obind hr
        obtain ⟨x2578, h2579, hr⟩ := hr
        refine at_on rfl rfl h2577 (at_hv rfl (hv_call0 [17] (f22_spec h2579) rfl rfl rfl rfl ?_))
        rintro s2580 _ ⟨_, rfl, rfl⟩
        refine at_on rfl rfl h2577 (s_mv rfl ?_)
        replace hr := obind hr
        obtain ⟨x2581, h2582, hr⟩ := hr
        refine at_on rfl rfl h2577 (at_hv rfl (hv_call0 [0, 16] (f21_spec h2582) rfl rfl rfl rfl ?_))
        rintro _ _ ⟨rfl, rfl⟩
        refine at_lt (lt_pick true rfl h2577 rfl) rfl (s_mv rfl ?_)
        by_cases h2583 : x2581 = true
        ·replace hr := ipos h2583 hr
         refine at_on rfl rfl h2583 (s_mv rfl (at_on rfl rfl h2583 (s_mv rfl (at_on rfl rfl h2583 (at_lt (lt_eql rfl rfl) rfl (at_lt (lt_pick true rfl h2583 rfl) rfl (s_mv rfl ?_)))))))
         by_cases h2584 : x2527.2 = x2531.2
         ·replace hr := ipos h2584 hr
          refine at_on rfl rfl (decide_eq_true (by first | exact h2584 | omega)) ?_
          refine s_mv rfl ?_
          replace hr := obind hr
          obtain ⟨x2585, h2586, hr⟩ := hr
          refine at_on rfl rfl (decide_eq_true (by first | exact h2584 | omega)) ?_
          refine at_hv rfl (hv_call0 [12] (f22_spec h2586) rfl rfl rfl rfl ?_)
          rintro s2587 _ ⟨_, rfl, rfl⟩
          refine at_on rfl rfl (decide_eq_true (by first | exact h2584 | omega)) ?_
          refine s_mv rfl ?_
          replace hr := obind hr
          obtain ⟨x2588, h2589, hr⟩ := hr
          refine at_on rfl rfl (decide_eq_true (by first | exact h2584 | omega)) ?_
          refine at_hv rfl (hv_call0 [0, 11] (f21_spec h2589) rfl rfl rfl rfl ?_)
          rintro _ _ ⟨rfl, rfl⟩
          refine at_lt (lt_pick true rfl (decide_eq_true (by first | exact h2584 | omega)) rfl) rfl ?_
          refine s_mv rfl ?_
          by_cases h2590 : x2588 = true
          ·replace hr := ipos h2590 hr
           refine at_on rfl rfl h2590 (s_mv rfl (at_on rfl rfl h2590 (s_mv rfl (at_on rfl rfl h2590 (at_lt (lt_eql rfl rfl) rfl (at_lt (lt_pick true rfl h2590 rfl) rfl (s_mv rfl ?_)))))))
           by_cases h2591 : x2541.2 = x2545.2
           ·replace hr := ipos h2591 hr
            refine at_on rfl rfl (decide_eq_true (by first | exact h2591 | omega)) ?_
            refine s_mv rfl ?_
            refine at_on rfl rfl (decide_eq_true (by first | exact h2591 | omega)) ?_
            refine s_mv rfl ?_
            refine at_on rfl rfl (decide_eq_true (by first | exact h2591 | omega)) ?_
            refine at_lt (lt_seql rfl rfl) rfl ?_
            refine at_lt (lt_pick true rfl (decide_eq_true (by first | exact h2591 | omega)) rfl) rfl ?_
            refine s_mv rfl ?_
            by_cases h2592 : x2552.1 = x2555.1
            ·replace hr := ipos h2592 hr
             refine at_on rfl rfl (decide_eq_true h2592) (s_mv rfl (at_on rfl rfl (decide_eq_true h2592) (s_mv rfl (at_on rfl rfl (decide_eq_true h2592) (at_lt (lt_eql rfl rfl) rfl (at_lt (lt_pick true rfl (decide_eq_true h2592) rfl) rfl (s_as rfl (s_nt (at_ret ?_)))))))))
             have hq := oinj hr
             clear hr
             subst hq
             exact at_return (.bool (decide (x2552.2 = x2555.2))) [] hS Tryz.results9 (.cons (.tmp rfl) .nil) rfl rfl ⟨rfl, rfl⟩
            replace hr := ineg h2592 hr
            refine at_off rfl rfl (decide_eq_false h2592) rfl (at_off rfl rfl (decide_eq_false h2592) rfl (at_off rfl rfl (decide_eq_false h2592) rfl (at_lt (lt_pick false rfl (decide_eq_false h2592) rfl) rfl (s_as rfl (s_nt (at_ret ?_))))))
            have hq := oinj hr
            clear hr
            subst hq
            exact at_return (.bool false) [] hS Tryz.results9 (.cons (.tmp rfl) .nil) rfl rfl ⟨rfl, rfl⟩
           replace hr := ineg h2591 hr
           refine at_off rfl rfl (decide_eq_false (by first | exact h2591 | omega)) rfl ?_
           refine at_off rfl rfl (decide_eq_false (by first | exact h2591 | omega)) rfl ?_
           refine at_off rfl rfl (decide_eq_false (by first | exact h2591 | omega)) rfl ?_
           refine at_lt (lt_pick false rfl (decide_eq_false (by first | exact h2591 | omega)) rfl) rfl ?_
           refine s_mv rfl (at_off rfl rfl rfl rfl (at_off rfl rfl rfl rfl (at_off rfl rfl rfl rfl (at_lt (lt_pick false rfl rfl rfl) rfl (s_as rfl (s_nt (at_ret ?_)))))))
           have hq := oinj hr
           clear hr
           subst hq
           exact at_return (.bool false) [] hS Tryz.results9 (.cons (.tmp rfl) .nil) rfl rfl ⟨rfl, rfl⟩
          replace hr := ineg h2590 hr
          refine at_off rfl rfl (bf h2590) rfl (at_off rfl rfl (bf h2590) rfl (at_off rfl rfl (bf h2590) rfl (at_lt (lt_pick false rfl (bf h2590) rfl) rfl (s_mv rfl (at_off rfl rfl rfl rfl (at_off rfl rfl rfl rfl (at_off rfl rfl rfl rfl (at_lt (lt_pick false rfl rfl rfl) rfl (s_mv rfl ?_)))))))))
          refine at_off rfl rfl rfl rfl (at_off rfl rfl rfl rfl (at_off rfl rfl rfl rfl (at_lt (lt_pick false rfl rfl rfl) rfl (s_as rfl (s_nt (at_ret ?_))))))
          have hq := oinj hr
          clear hr
          subst hq
          exact at_return (.bool false) [] hS Tryz.results9 (.cons (.tmp rfl) .nil) rfl rfl ⟨rfl, rfl⟩
         replace hr := ineg h2584 hr
         refine at_off rfl rfl (decide_eq_false (by first | exact h2584 | omega)) rfl ?_
         refine at_off rfl rfl (decide_eq_false (by first | exact h2584 | omega)) rfl ?_
         refine at_off rfl rfl (decide_eq_false (by first | exact h2584 | omega)) rfl ?_
         refine at_off rfl rfl (decide_eq_false (by first | exact h2584 | omega)) rfl ?_
         refine at_lt (lt_pick false rfl (decide_eq_false (by first | exact h2584 | omega)) rfl) rfl ?_
         refine s_mv rfl (at_off rfl rfl rfl rfl (at_off rfl rfl rfl rfl (at_off rfl rfl rfl rfl (at_lt (lt_pick false rfl rfl rfl) rfl (s_mv rfl (at_off rfl rfl rfl rfl (at_off rfl rfl rfl rfl (at_off rfl rfl rfl rfl (at_lt (lt_pick false rfl rfl rfl) rfl ?_)))))))))
         refine s_mv rfl (at_off rfl rfl rfl rfl (at_off rfl rfl rfl rfl (at_off rfl rfl rfl rfl (at_lt (lt_pick false rfl rfl rfl) rfl (s_as rfl (s_nt (at_ret ?_)))))))
         have hq := oinj hr
         clear hr
         subst hq
         exact at_return (.bool false) [] hS Tryz.results9 (.cons (.tmp rfl) .nil) rfl rfl ⟨rfl, rfl⟩
        replace hr := ineg h2583 hr
        refine at_off rfl rfl (bf h2583) rfl (at_off rfl rfl (bf h2583) rfl (at_off rfl rfl (bf h2583) rfl (at_lt (lt_pick false rfl (bf h2583) rfl) rfl (s_mv rfl (at_off rfl rfl rfl rfl (at_off rfl rfl rfl rfl (at_off rfl rfl rfl rfl (at_off rfl rfl rfl rfl (at_lt (lt_pick false rfl rfl rfl) rfl ?_)))))))))
        refine s_mv rfl (at_off rfl rfl rfl rfl (at_off rfl rfl rfl rfl (at_off rfl rfl rfl rfl (at_lt (lt_pick false rfl rfl rfl) rfl (s_mv rfl (at_off rfl rfl rfl rfl (at_off rfl rfl rfl rfl (at_off rfl rfl rfl rfl (at_lt (lt_pick false rfl rfl rfl) rfl ?_)))))))))
        refine s_mv rfl (at_off rfl rfl rfl rfl (at_off rfl rfl rfl rfl (at_off rfl rfl rfl rfl (at_lt (lt_pick false rfl rfl rfl) rfl (s_as rfl (s_nt (at_ret ?_)))))))
        have hq := oinj hr
        clear hr
        subst hq
        exact at_return (.bool false) [] hS Tryz.results9 (.cons (.tmp rfl) .nil) rfl rfl ⟨rfl, rfl⟩
       replace hr := ineg h2577 hr
       refine at_off rfl rfl (bf h2577) rfl (at_off rfl rfl (bf h2577) rfl (at_off rfl rfl (bf h2577) rfl (at_off rfl rfl (bf h2577) rfl (at_lt (lt_pick false rfl (bf h2577) rfl) rfl (s_mv rfl (at_off rfl rfl rfl rfl (at_off rfl rfl rfl rfl (at_off rfl rfl rfl rfl (at_lt (lt_pick false rfl rfl rfl) rfl ?_)))))))))
       refine s_mv rfl (at_off rfl rfl rfl rfl (at_off rfl rfl rfl rfl (at_off rfl rfl rfl rfl (at_off rfl rfl rfl rfl (at_lt (lt_pick false rfl rfl rfl) rfl (s_mv rfl (at_off rfl rfl rfl rfl (at_off rfl rfl rfl rfl (at_off rfl rfl rfl rfl ?_)))))))))
       refine at_lt (lt_pick false rfl rfl rfl) rfl (s_mv rfl (at_off rfl rfl rfl rfl (at_off rfl rfl rfl rfl (at_off rfl rfl rfl rfl (at_lt (lt_pick false rfl rfl rfl) rfl (s_mv rfl (at_off rfl rfl rfl rfl (at_off rfl rfl rfl rfl (at_off rfl rfl rfl rfl ?_)))))))))
       refine at_lt (lt_pick false rfl rfl rfl) rfl (s_as rfl (s_nt (at_ret ?_)))
       have hq := oinj hr
       clear hr
       subst hq
       exact at_return (.bool false) [] hS Tryz.results9 (.cons (.tmp rfl) .nil) rfl rfl ⟨rfl, rfl⟩
      replace hr := ineg h2576 hr
      refine at_off rfl rfl (bf h2576) rfl (at_off rfl rfl (bf h2576) rfl (at_off rfl rfl (bf h2576) rfl (at_lt (lt_pick false rfl (bf h2576) rfl) rfl (s_mv rfl (at_off rfl rfl rfl rfl (at_off rfl rfl rfl rfl (at_off rfl rfl rfl rfl (at_off rfl rfl rfl rfl (at_lt (lt_pick false rfl rfl rfl) rfl ?_)))))))))
      refine s_mv rfl (at_off rfl rfl rfl rfl (at_off rfl rfl rfl rfl (at_off rfl rfl rfl rfl (at_lt (lt_pick false rfl rfl rfl) rfl (s_mv rfl (at_off rfl rfl rfl rfl (at_off rfl rfl rfl rfl (at_off rfl rfl rfl rfl (at_off rfl rfl rfl rfl ?_)))))))))
      refine at_lt (lt_pick false rfl rfl rfl) rfl (s_mv rfl (at_off rfl rfl rfl rfl (at_off rfl rfl rfl rfl (at_off rfl rfl rfl rfl (at_lt (lt_pick false rfl rfl rfl) rfl (s_mv rfl (at_off rfl rfl rfl rfl (at_off rfl rfl rfl rfl (at_off rfl rfl rfl rfl ?_)))))))))
      refine at_lt (lt_pick false rfl rfl rfl) rfl (s_mv rfl (at_off rfl rfl rfl rfl (at_off rfl rfl rfl rfl (at_off rfl rfl rfl rfl (at_lt (lt_pick false rfl rfl rfl) rfl (s_as rfl (s_nt (at_ret ?_))))))))
      have hq := oinj hr
      clear hr
      subst hq
      exact at_return (.bool false) [] hS Tryz.results9 (.cons (.tmp rfl) .nil) rfl rfl ⟨rfl, rfl⟩
     replace hr := ineg h2573 hr
     refine at_off rfl rfl (bf h2573) rfl (at_off rfl rfl (bf h2573) rfl (at_off rfl rfl (bf h2573) rfl (at_lt (lt_pick false rfl (bf h2573) rfl) rfl (s_mv rfl (at_off rfl rfl rfl rfl (at_off rfl rfl rfl rfl (at_off rfl rfl rfl rfl (at_lt (lt_pick false rfl rfl rfl) rfl (s_mv rfl ?_)))))))))
     refine at_off rfl rfl rfl rfl (at_off rfl rfl rfl rfl (at_off rfl rfl rfl rfl (at_off rfl rfl rfl rfl (at_lt (lt_pick false rfl rfl rfl) rfl (s_mv rfl (at_off rfl rfl rfl rfl (at_off rfl rfl rfl rfl (at_off rfl rfl rfl rfl (at_lt (lt_pick false rfl rfl rfl) rfl ?_)))))))))
     refine s_mv rfl (at_off rfl rfl rfl rfl (at_off rfl rfl rfl rfl (at_off rfl rfl rfl rfl (at_off rfl rfl rfl rfl (at_lt (lt_pick false rfl rfl rfl) rfl (s_mv rfl (at_off rfl rfl rfl rfl (at_off rfl rfl rfl rfl (at_off rfl rfl rfl rfl ?_)))))))))
     refine at_lt (lt_pick false rfl rfl rfl) rfl (s_mv rfl (at_off rfl rfl rfl rfl (at_off rfl rfl rfl rfl (at_off rfl rfl rfl rfl (at_lt (lt_pick false rfl rfl rfl) rfl (s_mv rfl (at_off rfl rfl rfl rfl (at_off rfl rfl rfl rfl (at_off rfl rfl rfl rfl ?_)))))))))
     refine at_lt (lt_pick false rfl rfl rfl) rfl (s_as rfl (s_nt (at_ret ?_)))
     have hq := oinj hr
     clear hr
     subst hq
     exact at_return (.bool false) [] hS Tryz.results9 (.cons (.tmp rfl) .nil) rfl rfl ⟨rfl, rfl⟩
    replace hr := ineg h2565 hr
    refine at_off rfl rfl (bf h2565) rfl (at_off rfl rfl (bf h2565) rfl (at_off rfl rfl (bf h2565) rfl (at_off rfl rfl (bf h2565) rfl (at_off rfl rfl (bf h2565) rfl (at_off rfl rfl (bf h2565) rfl (at_lt (lt_pick false rfl (bf h2565) rfl) rfl (s_mv rfl (at_off rfl rfl rfl rfl (at_off rfl rfl rfl rfl ?_)))))))))
    refine at_off rfl rfl rfl rfl (at_lt (lt_pick false rfl rfl rfl) rfl (s_mv rfl (at_off rfl rfl rfl rfl (at_off rfl rfl rfl rfl (at_off rfl rfl rfl rfl (at_lt (lt_pick false rfl rfl rfl) rfl (s_mv rfl (at_off rfl rfl rfl rfl (at_off rfl rfl rfl rfl ?_)))))))))
    refine at_off rfl rfl rfl rfl (at_off rfl rfl rfl rfl (at_lt (lt_pick false rfl rfl rfl) rfl (s_mv rfl (at_off rfl rfl rfl rfl (at_off rfl rfl rfl rfl (at_off rfl rfl rfl rfl (at_lt (lt_pick false rfl rfl rfl) rfl (s_mv rfl (at_off rfl rfl rfl rfl ?_)))))))))
    refine at_off rfl rfl rfl rfl (at_off rfl rfl rfl rfl (at_off rfl rfl rfl rfl (at_lt (lt_pick false rfl rfl rfl) rfl (s_mv rfl (at_off rfl rfl rfl rfl (at_off rfl rfl rfl rfl (at_off rfl rfl rfl rfl (at_lt (lt_pick false rfl rfl rfl) rfl (s_mv rfl ?_)))))))))
    refine at_off rfl rfl rfl rfl (at_off rfl rfl rfl rfl (at_off rfl rfl rfl rfl (at_lt (lt_pick false rfl rfl rfl) rfl (s_mv rfl (at_off rfl rfl rfl rfl (at_off rfl rfl rfl rfl (at_off rfl rfl rfl rfl (at_lt (lt_pick false rfl rfl rfl) rfl (s_as rfl ?_)))))))))
    refine s_nt (at_ret ?_)
    have hq := oinj hr
    clear hr
    subst hq
    exact at_return (.bool false) [] hS Tryz.results9 (.cons (.tmp rfl) .nil) rfl rfl ⟨rfl, rfl⟩
   replace hr := ineg h2508 hr
   refine at_true rfl (nf (bf h2508)) (s_sr (s_as rfl (s_nt (at_ret ?_))))
   have hq := oinj hr
   clear hr
   subst hq
   refine at_then_ret ?_
   exact at_return (.bool true) [] hS Tryz.results9 (.cons (.tmp rfl) .nil) rfl rfl ⟨rfl, rfl⟩
  replace hr := ineg h2505 hr
  refine at_off rfl rfl (nf (bf h2505)) rfl (at_off rfl rfl (nf (bf h2505)) rfl (at_off rfl rfl (nf (bf h2505)) rfl (at_lt (lt_pick true rfl (nf (bf h2505)) rfl) rfl (s_nt (at_true rfl rfl (s_sr (s_as rfl (s_nt (at_ret ?_)))))))))
  have hq := oinj hr
  clear hr
  subst hq
  refine at_then_ret ?_
  exact at_return (.bool true) [] hS Tryz.results9 (.cons (.tmp rfl) .nil) rfl rfl ⟨rfl, rfl⟩
 replace hr := ineg h2502 hr
 refine at_true rfl (nf (bf h2502)) (s_sr (s_as rfl (s_nt (at_ret ?_))))
 have hq := oinj hr
 clear hr
 subst hq
 refine at_then_ret ?_
 exact at_return (.bool false) [] hS Tryz.results9 (.cons (.tmp rfl) .nil) rfl rfl ⟨rfl, rfl⟩
end Go.WK.S
