/- What functions of this program compute: a model of each, and the proof that it is kept. -/
import Derived.Test.YtidmlhihfanglaaGreatDoorLossF04
import Derived.KernelRfl
set_option linter.unusedSimpArgs false
set_option linter.unusedVariables false
namespace Go.WK.S
open Go Go.Proofs Go.WK Go.RowKit
set_option linter.unusedVariables false
set_option maxRecDepth 100000
set_option maxHeartbeats 4000000
/-! 15 bookplate/bookplatelaw16.Own -/
def m15_l2 (a0 : (List D_ref16_Entry)) (x2007 : Nat) : Nat → Nat → (List D_crosswalk_Pair) → Option (List D_crosswalk_Pair)
  | 0, _, _ => none
  | k + 1, x2032, x2033 =>
    (a0[x2007]?).bind fun x2043 =>
    if x2032 < x2043.Codes.length then
     (a0[x2007]?).bind fun x2051 =>
     (x2051.Codes[x2032]?).bind fun x2056 =>
     if x2033.length + 1 ≤ 70368744177664 then
      m15_l2 a0 x2007 k (x2032 + 1) (x2033 ++ [(⟨x2056.From, x2056.To⟩ : D_crosswalk_Pair)])
     else none
    else
     some x2033
def m15_l1 (a0 : (List D_ref16_Entry)) : Nat → (List D_crosswalk_Entry) → Nat → Option (List D_crosswalk_Entry)
  | 0, _, _ => none
  | k + 1, x2006, x2007 =>
    if x2007 < a0.length then
     (a0[x2007]?).bind fun x2020 =>
     (a0[x2007]?).bind fun x2025 =>
     (m15_l2 a0 x2007 9223372036854775808 0 ([] : (List D_crosswalk_Pair))).bind fun x2037 =>
     if x2006.length + 1 ≤ 2513169434916 then
      m15_l1 a0 k (x2006 ++ [(⟨x2020.From, x2025.To, x2037⟩ : D_crosswalk_Entry)]) (x2007 + 1)
     else none
    else
     some x2006
def m15 (a0 : (List D_ref16_Entry)) : Option (List D_crosswalk_Entry) :=
  (m15_l1 a0 (a0.length + 1) ([] : (List D_crosswalk_Entry)) 0).bind fun x2011 =>
  some x2011
def post15 (r : (List D_crosswalk_Entry)) (v : Value) (fs : List Fact) : Prop := ∃ s2076 : Value, v = s2076 ∧ fs = [((Ty.slice ty76).fact r [s2076])]
theorem en15 : Enters Tryz.prog 15 := ⟨_, Tryz.func15, by kernel_rfl, rfl⟩
theorem f15_spec {a0 : (List D_ref16_Entry)} {w2005 : Value} {r : (List D_crosswalk_Entry)} (hr : m15 a0 = some r) : Spec Tryz.prog 15 [w2005] [((Ty.slice ty50).fact a0 [w2005])] (post15 r) := by
 refine spec_start (N := 52) Tryz.func15 (by kernel_rfl) rfl rfl rfl ?_
 intro g hS
 unfold m15 at hr
 refine s_sr ?_
 refine s_as rfl ?_
 refine s_ntsr ?_
 refine s_as rfl ?_
 refine s_nt ?_
 refine at_seq ?_
 refine s_sr ?_
 refine s_as rfl ?_
 refine s_nt ?_
 refine at_rownew none 76 3 ?_
 refine at_rownil ty76 ?_
 refine at_mkpure (q := (([] : (List D_crosswalk_Entry)).length * ty76.bytes ≤ 140737488355328)) (by simp only [List.nil_append, List.cons_append, List.length_cons, List.length_nil, ty76_bytes] <;> omega) ?_
 refine at_int .i64 0 (by simp only [lo, hi]; omega) ?_
 replace hr := obind hr
 obtain ⟨x2011, hl2015, hr⟩ := hr
 refine at_cut (V := Value × Nat × (List Value)) (fun e => (⟨[(3, e.1)], [], [⟨e.1, 76, 3, e.2.1, e.2.2⟩], [(ty76.row x2011 e.2.2), (pureF (x2011.length * ty76.bytes ≤ 140737488355328))]⟩ : St)) ?_ ?_
 ·refine at_block ?_
  refine at_loopW (σ := ((List D_crosswalk_Entry) × Nat)) (V := Value × Nat × (List Value)) (r := x2011) (fun n s => m15_l1 a0 n s.1 s.2) (fun s e => (⟨[(0, w2005), (3, e.1), (4, .int .i64 (s.2 : Int))], [], [⟨e.1, 76, 3, e.2.1, e.2.2⟩], [(ty76.row s.1 e.2.2), (pureF (s.1.length * ty76.bytes ≤ 140737488355328)), ((Ty.int .i64).fact (s.2 : Int) [.int .i64 (s.2 : Int)]), ((Ty.slice ty50).fact a0 [w2005])]⟩ : St)) (fun _ => rfl) _ (([] : (List D_crosswalk_Entry)), 0) ((.slice none 0 0), 0, []) hl2015 ⟨⟨rfl, ⟨rfl, ⟨rfl, trivial⟩⟩⟩, ⟨[], rfl⟩, ⟨[true], rfl⟩, ⟨[2, 1, 0, 3], rfl⟩⟩ ?_
  clear hr hl2015
  intro n s hr e
  obtain ⟨x2006, x2007⟩ := s
  obtain ⟨v2008, n2009, i2010⟩ := e
  change m15_l1 a0 (n + 1) x2006 x2007 = some x2011 at hr
  change At _ _ (⟨[(0, w2005), (3, v2008), (4, .int .i64 (x2007 : Int))], [], [⟨v2008, 76, 3, n2009, i2010⟩], [(ty76.row x2006 i2010), (pureF (x2006.length * ty76.bytes ≤ 140737488355328)), ((Ty.int .i64).fact (x2007 : Int) [.int .i64 (x2007 : Int)]), ((Ty.slice ty50).fact a0 [w2005])]⟩ : St) _
  rw [m15_l1] at hr
  refine at_seq ?_
  refine s_sr ?_
  refine s_mv rfl ?_
  refine s_mv rfl ?_
  refine at_inv 3 rfl (fun i2017 => ?_)
  have l2018 := slice_len i2017
  refine at_lt (lt_flen 3 rfl rfl und22) rfl ?_
  refine at_lt (lt_lss rfl rfl) rfl ?_
  refine s_nt ?_
  by_cases h2019 : x2007 < a0.length
  ·replace hr := ipos h2019 hr
   refine at_true rfl (decide_eq_true (by omega)) ?_
   refine at_skip ?_
   refine at_then ?_
   refine at_seq ?_
   refine at_block ?_
   refine at_seq ?_
   replace hr := obind hr
   obtain ⟨x2020, h2021, hr⟩ := hr
   have := (List.getElem?_eq_some_iff.1 h2021).1
   refine at_elem 3 rfl (nat_at' h2021) (fun p2023 ec pa2024 => ?_)
   refine at_open (A := Value) 0 rfl _ _ (fun F w h => op50 h) ?_
   rintro s2022 rfl
   replace hr := obind hr
   obtain ⟨x2025, h2026, hr⟩ := hr
   have := (List.getElem?_eq_some_iff.1 h2026).1
   refine at_elem 8 rfl (nat_at' h2026) (fun p2028 ec pa2029 => ?_)
   refine at_open (A := Value) 0 rfl _ _ (fun F w h => op50 h) ?_
   rintro s2027 rfl
   refine aa_start 13 (by kernel_rfl) ?_
   refine aa_p 0 rfl (lt_move rfl) ?_
   refine aa_p 1 rfl (lt_move rfl) ?_
   refine aa_p 2 rfl (lt_idx rfl rfl pa2024 und22 ti50) ?_
   refine aa_p 3 rfl (lt_fieldAddr 0 rfl fld50_0 rfl) ?_
   refine aa_l 4 rfl (lt_load_peek 9 rfl ti9 rfl rfl rfl rfl rfl) ?_
   refine aa_p 5 rfl (lt_move rfl) ?_
   refine aa_p 6 rfl (lt_move rfl) ?_
   refine aa_p 7 rfl (lt_idx rfl rfl pa2029 und22 ti50) ?_
   refine aa_p 8 rfl (lt_fieldAddr 1 rfl fld50_1 rfl) ?_
   refine aa_l 9 rfl (lt_load_peek 4 rfl ti9 rfl rfl rfl rfl rfl) ?_
   refine aa_p 10 rfl (lt_build (cs := [str x2020.From, str x2025.To, (.slice none 0 0)]) rfl ti76 pl76 rfl) ?_
   refine aa_one 11 ?_
   refine aa_op rfl rfl ?_
   refine hv_alloc (cs := [str ([] : Str), str ([] : Str), (.slice none 0 0)]) ti76 rfl rfl (fun b2031 => ?_)
   refine aa_all (rs := [12]) (by kernel_rfl) rfl (ts_in 1 0 rfl rfl) (List.forall_mem_singleton.2 ?_)
   refine aa_op rfl rfl ?_
   refine hv_store_box 0 (cs' := [str x2020.From, str x2025.To, (.slice none 0 0)]) rfl rfl ti76 rfl rfl rfl rfl rfl ?_
   refine aa_done (by kernel_rfl) (ts_in 1 0 rfl rfl) ?_
   refine at_then ?_
   refine at_seq ?_
   refine s_sr ?_
   refine s_as rfl ?_
   refine s_nt ?_
   refine at_int .i64 0 (by simp only [lo, hi]; omega) ?_
   refine at_rownew none 82 2 ?_
   refine at_rownil ty82 ?_
   refine at_mkpure (q := (([] : (List D_crosswalk_Pair)).length * ty82.bytes ≤ 140737488355328)) (by simp only [List.nil_append, List.cons_append, List.length_cons, List.length_nil, ty82_bytes] <;> omega) ?_
   replace hr := obind hr
   obtain ⟨x2037, hl2041, hr⟩ := hr
   refine at_cut (V := Value × Nat × (List Value)) (fun e => (⟨[(0, w2005), (3, v2008), (4, .int .i64 (x2007 : Int)), (5, .pointer (some (Addr.add ⟨b2031, 0, none⟩ 0)))], [⟨b2031, [str x2020.From, str x2025.To, e.1], 76⟩], [⟨e.1, 82, 2, e.2.1, e.2.2⟩, ⟨v2008, 76, 3, n2009, i2010⟩], [(ty82.row x2037 e.2.2), (pureF (x2037.length * ty82.bytes ≤ 140737488355328)), ((Ty.slice ty50).fact a0 [w2005]), (ty76.row x2006 i2010), (pureF (x2006.length * ty76.bytes ≤ 140737488355328)), ((Ty.int .i64).fact (x2007 : Int) [.int .i64 (x2007 : Int)]), (Ty.str.fact x2020.From [str x2020.From]), (Ty.str.fact x2025.To [str x2025.To])]⟩ : St)) ?_ ?_
   ·refine at_block ?_
    refine at_loopW (σ := (Nat × (List D_crosswalk_Pair))) (V := Value × Nat × (List Value)) (r := x2037) (fun n s => m15_l2 a0 x2007 n s.1 s.2) (fun s e => (⟨[(0, w2005), (3, v2008), (4, .int .i64 (x2007 : Int)), (5, .pointer (some (Addr.add ⟨b2031, 0, none⟩ 0))), (6, .int .i64 (s.1 : Int))], [⟨b2031, [str x2020.From, str x2025.To, e.1], 76⟩], [⟨e.1, 82, 2, e.2.1, e.2.2⟩, ⟨v2008, 76, 3, n2009, i2010⟩], [((Ty.int .i64).fact (s.1 : Int) [.int .i64 (s.1 : Int)]), (ty82.row s.2 e.2.2), (pureF (s.2.length * ty82.bytes ≤ 140737488355328)), ((Ty.slice ty50).fact a0 [w2005]), (ty76.row x2006 i2010), (pureF (x2006.length * ty76.bytes ≤ 140737488355328)), ((Ty.int .i64).fact (x2007 : Int) [.int .i64 (x2007 : Int)]), (Ty.str.fact x2020.From [str x2020.From]), (Ty.str.fact x2025.To [str x2025.To])]⟩ : St)) (fun _ => rfl) _ (0, ([] : (List D_crosswalk_Pair))) ((.slice none 0 0), 0, []) hl2041 ⟨⟨rfl, ⟨rfl, ⟨rfl, ⟨rfl, ⟨rfl, trivial⟩⟩⟩⟩⟩, ⟨[true], rfl⟩, ⟨[true, true], rfl⟩, ⟨[2, 1, 0, 16, 13, 14, 15, 8, 4], rfl⟩⟩ ?_
    clear hr hl2041
    intro n s hr e
    obtain ⟨x2032, x2033⟩ := s
    obtain ⟨v2034, n2035, i2036⟩ := e
    change m15_l2 a0 x2007 (n + 1) x2032 x2033 = some x2037 at hr
    change At _ _ (⟨[(0, w2005), (3, v2008), (4, .int .i64 (x2007 : Int)), (5, .pointer (some (Addr.add ⟨b2031, 0, none⟩ 0))), (6, .int .i64 (x2032 : Int))], [⟨b2031, [str x2020.From, str x2025.To, v2034], 76⟩], [⟨v2034, 82, 2, n2035, i2036⟩, ⟨v2008, 76, 3, n2009, i2010⟩], [((Ty.int .i64).fact (x2032 : Int) [.int .i64 (x2032 : Int)]), (ty82.row x2033 i2036), (pureF (x2033.length * ty82.bytes ≤ 140737488355328)), ((Ty.slice ty50).fact a0 [w2005]), (ty76.row x2006 i2010), (pureF (x2006.length * ty76.bytes ≤ 140737488355328)), ((Ty.int .i64).fact (x2007 : Int) [.int .i64 (x2007 : Int)]), (Ty.str.fact x2020.From [str x2020.From]), (Ty.str.fact x2025.To [str x2025.To])]⟩ : St) _
    rw [m15_l2] at hr
    refine at_seq ?_
    refine s_sr ?_
    refine s_mv rfl ?_
    refine s_mv rfl ?_
    refine s_mv rfl ?_
    replace hr := obind hr
    obtain ⟨x2043, h2044, hr⟩ := hr
    have := (List.getElem?_eq_some_iff.1 h2044).1
    refine at_elem 3 rfl (nat_at' h2044) (fun p2046 ec pa2047 => ?_)
    refine at_open (A := Value) 0 rfl _ _ (fun F w h => op50 h) ?_
    rintro s2045 rfl
    refine at_lt (lt_idx rfl rfl pa2047 und22 ti50) rfl ?_
    refine at_lt (lt_fieldAddr 2 rfl fld50_2 rfl) rfl ?_
    refine at_lt (lt_load_peek 4 rfl ti48 rfl rfl rfl rfl rfl) rfl ?_
    refine at_inv 2 rfl (fun i2048 => ?_)
    have l2049 := slice_len i2048
    refine at_lt (lt_flen 2 rfl rfl und48) rfl ?_
    refine at_lt (lt_lss rfl rfl) rfl ?_
    refine s_nt ?_
    by_cases h2050 : x2032 < x2043.Codes.length
    ·replace hr := ipos h2050 hr
     refine at_true rfl (decide_eq_true (by omega)) ?_
     refine at_skip ?_
     refine at_then ?_
     refine at_seq ?_
     refine at_block ?_
     replace hr := obind hr
     obtain ⟨x2051, h2052, hr⟩ := hr
     have := (List.getElem?_eq_some_iff.1 h2052).1
     refine at_elem 8 rfl (nat_at' h2052) (fun p2054 ec pa2055 => ?_)
     refine at_open (A := Value) 0 rfl _ _ (fun F w h => op50 h) ?_
     rintro s2053 rfl
     replace hr := obind hr
     obtain ⟨x2056, h2057, hr⟩ := hr
     have := (List.getElem?_eq_some_iff.1 h2057).1
     refine at_elem 2 rfl (nat_at' h2057) (fun p2058 ec pa2059 => ?_)
     refine at_open (A := Unit) 0 rfl _ _ (fun F w h => op83 h) ?_
     rintro _ rfl
     replace hr := imust hr
     obtain ⟨h2061, hr⟩ := hr
     refine aa_start 13 (by kernel_rfl) ?_
     refine aa_p 0 rfl (lt_fieldAddr 2 rfl fld76_2 rfl) ?_
     refine aa_l 1 rfl (lt_load_box 0 rfl ti74 rfl rfl rfl rfl rfl) ?_
     refine aa_p 2 rfl (lt_move rfl) ?_
     refine aa_p 3 rfl (lt_move rfl) ?_
     refine aa_p 4 rfl (lt_idx rfl rfl pa2055 und22 ti50) ?_
     refine aa_p 5 rfl (lt_fieldAddr 2 rfl fld50_2 rfl) ?_
     refine aa_l 6 rfl (lt_load_peek 6 rfl ti48 rfl rfl rfl rfl rfl) ?_
     refine aa_p 7 rfl (lt_move rfl) ?_
     refine aa_p 8 rfl (lt_idx rfl rfl pa2059 und48 ti83) ?_
     refine aa_l 9 rfl (lt_load_peek 1 rfl ti83 rfl rfl rfl rfl rfl) ?_
     refine aa_one 10 ?_
     refine aa_op rfl rfl ?_
     refine hv_bslice (cs := [.int .u8 (x2056.From.toNat : Int), .int .u8 (x2056.To.toNat : Int)]) rfl und74 ti82 rfl rfl rfl rfl rfl (fun s2065 => ?_)
     refine aa_one 11 ?_
     refine at_derive [] (ty82.fact (⟨x2056.From, x2056.To⟩ : D_crosswalk_Pair) [.int .u8 (x2056.From.toNat : Int), .int .u8 (x2056.To.toNat : Int)]) rfl (fun F w h => mk82 (x := (⟨x2056.From, x2056.To⟩ : D_crosswalk_Pair)) h) ?_
     refine at_rown 1 14 rfl rfl rfl (fun hn2067 => ?_)
     refine aa_op rfl rfl ?_
     refine hv_append 1 0 rfl rfl rfl rfl und74 ti82 rfl rfl rfl (by omega) (by omega) rfl (fun s2066 => ?_)
     refine at_rowsnoc 14 0 rfl rfl ?_
     refine aa_pure 12 rfl (by kernel_rfl) rfl rfl (lt_fieldAddr 2 rfl fld76_2 rfl) rfl (ts_in 0 2 rfl rfl) ?_
     refine aa_all (rs := [13]) (by kernel_rfl) rfl (ts_in 0 2 rfl rfl) (List.forall_mem_singleton.2 ?_)
     refine at_rowv 1 rfl (fun ho2068 => ?_)
     replace ho2068 := row_one (by obtain ⟨a, c, h⟩ := ho2068; exact ⟨a, _, c, h⟩)
     refine aa_op rfl rfl ?_
     refine hv_store1 0 (cs' := [str x2020.From, str x2025.To, s2066]) rfl rfl ti74 rfl rfl rfl rfl ho2068 ?_
     refine aa_done (by kernel_rfl) (ts_out rfl) ?_
     refine at_in ?_
     refine s_tr ?_
     refine s_mv rfl ?_
     refine at_lt (lt_add rfl rfl (by simp only [lo, hi]; omega)) rfl ?_
     refine s_as rfl ?_
     refine at_nil ?_
     refine at_int .i64 (x2032 + 1 : Int) (by simp only [lo, hi]; omega) ?_
     refine at_mkpure (q := ((x2033 ++ [(⟨x2056.From, x2056.To⟩ : D_crosswalk_Pair)]).length * ty82.bytes ≤ 140737488355328)) (by simp only [List.length_append, List.length_cons, List.length_nil, ty82_bytes] <;> omega) ?_
     exact at_again (σ := (Nat × (List D_crosswalk_Pair))) (V := Value × Nat × (List Value)) (lp := fun n s => m15_l2 a0 x2007 n s.1 s.2) (S := fun s e => (⟨[(0, w2005), (3, v2008), (4, .int .i64 (x2007 : Int)), (5, .pointer (some (Addr.add ⟨b2031, 0, none⟩ 0))), (6, .int .i64 (s.1 : Int))], [⟨b2031, [str x2020.From, str x2025.To, e.1], 76⟩], [⟨e.1, 82, 2, e.2.1, e.2.2⟩, ⟨v2008, 76, 3, n2009, i2010⟩], [((Ty.int .i64).fact (s.1 : Int) [.int .i64 (s.1 : Int)]), (ty82.row s.2 e.2.2), (pureF (s.2.length * ty82.bytes ≤ 140737488355328)), ((Ty.slice ty50).fact a0 [w2005]), (ty76.row x2006 i2010), (pureF (x2006.length * ty76.bytes ≤ 140737488355328)), ((Ty.int .i64).fact (x2007 : Int) [.int .i64 (x2007 : Int)]), (Ty.str.fact x2020.From [str x2020.From]), (Ty.str.fact x2025.To [str x2025.To])]⟩ : St)) (x2032 + 1, x2033 ++ [(⟨x2056.From, x2056.To⟩ : D_crosswalk_Pair)]) (s2066, n2035 + 1, i2036 ++ [.int .u8 (x2056.From.toNat : Int), .int .u8 (x2056.To.toNat : Int)]) hr ⟨⟨rfl, ⟨rfl, ⟨rfl, ⟨rfl, ⟨rfl, trivial⟩⟩⟩⟩⟩, ⟨[true], rfl⟩, ⟨[false, true, true], rfl⟩, ⟨[1, 2, 0, 19, 20, 21, 22, 23, 24], rfl⟩⟩
    replace hr := ineg h2050 hr
    refine at_false rfl (decide_eq_false (by omega)) ?_
    refine at_exit ?_
    refine at_then_exit ?_
    refine at_then_exit ?_
    refine at_in_exit ?_
    have hq := oinj hr
    clear hr
    subst hq
    exact at_leaf (v2034, n2035, i2036) ⟨⟨rfl, ⟨rfl, ⟨rfl, ⟨rfl, trivial⟩⟩⟩⟩, ⟨[true], rfl⟩, ⟨[true, true], rfl⟩, ⟨[6, 7, 8, 9, 10, 11, 12, 13], rfl⟩⟩
   clear hl2041
   intro e
   obtain ⟨v2038, n2039, i2040⟩ := e
   change At _ _ (⟨[(0, w2005), (3, v2008), (4, .int .i64 (x2007 : Int)), (5, .pointer (some (Addr.add ⟨b2031, 0, none⟩ 0)))], [⟨b2031, [str x2020.From, str x2025.To, v2038], 76⟩], [⟨v2038, 82, 2, n2039, i2040⟩, ⟨v2008, 76, 3, n2009, i2010⟩], [(ty82.row x2037 i2040), (pureF (x2037.length * ty82.bytes ≤ 140737488355328)), ((Ty.slice ty50).fact a0 [w2005]), (ty76.row x2006 i2010), (pureF (x2006.length * ty76.bytes ≤ 140737488355328)), ((Ty.int .i64).fact (x2007 : Int) [.int .i64 (x2007 : Int)]), (Ty.str.fact x2020.From [str x2020.From]), (Ty.str.fact x2025.To [str x2025.To])]⟩ : St) _
   refine s_tr ?_
   refine s_mv rfl ?_
   refine at_lt (lt_load_box 0 rfl ti76 rfl rfl rfl rfl rfl) rfl ?_
   refine at_hv rfl ?_
   refine hv_bslice (cs := [str x2020.From, str x2025.To, v2038]) rfl und34 ti76 rfl rfl rfl rfl rfl (fun s2069 => ?_)
   replace hr := imust hr
   obtain ⟨h2070, hr⟩ := hr
   refine at_pure 1 rfl (fun hb2072 => ?_)
   refine at_release 1 0 rfl rfl rfl hb2072 ?_
   refine at_derive [7, 8, 0] (ty76.fact (⟨x2020.From, x2025.To, x2037⟩ : D_crosswalk_Entry) [str x2020.From, str x2025.To, v2038]) rfl (fun F w h => mk76 (x := (⟨x2020.From, x2025.To, x2037⟩ : D_crosswalk_Entry)) h) ?_
   refine at_rown 1 5 rfl rfl rfl (fun hn2073 => ?_)
   refine at_one 1 rfl (fun ho2074 => ?_)
   refine at_hv rfl ?_
   refine hv_append 1 0 rfl rfl rfl rfl und34 ti76 rfl rfl (allc rfl (allc rfl (allc ho2074 rfl))) (by omega) (by omega) rfl (fun s2071 => ?_)
   refine at_rowsnoc 5 0 rfl rfl ?_
   refine s_as rfl ?_
   refine at_nil ?_
   refine at_in ?_
   refine s_tr ?_
   refine s_mv rfl ?_
   refine at_lt (lt_add rfl rfl (by simp only [lo, hi]; omega)) rfl ?_
   refine s_as rfl ?_
   refine at_nil ?_
   refine at_mkpure (q := ((x2006 ++ [(⟨x2020.From, x2025.To, x2037⟩ : D_crosswalk_Entry)]).length * ty76.bytes ≤ 140737488355328)) (by simp only [List.length_append, List.length_cons, List.length_nil, ty76_bytes] <;> omega) ?_
   refine at_int .i64 (x2007 + 1 : Int) (by simp only [lo, hi]; omega) ?_
   exact at_again (σ := ((List D_crosswalk_Entry) × Nat)) (V := Value × Nat × (List Value)) (lp := fun n s => m15_l1 a0 n s.1 s.2) (S := fun s e => (⟨[(0, w2005), (3, e.1), (4, .int .i64 (s.2 : Int))], [], [⟨e.1, 76, 3, e.2.1, e.2.2⟩], [(ty76.row s.1 e.2.2), (pureF (s.1.length * ty76.bytes ≤ 140737488355328)), ((Ty.int .i64).fact (s.2 : Int) [.int .i64 (s.2 : Int)]), ((Ty.slice ty50).fact a0 [w2005])]⟩ : St)) (x2006 ++ [(⟨x2020.From, x2025.To, x2037⟩ : D_crosswalk_Entry)], x2007 + 1) (s2071, n2009 + 1, i2010 ++ [str x2020.From, str x2025.To, v2038]) hr ⟨⟨rfl, ⟨rfl, ⟨rfl, trivial⟩⟩⟩, ⟨[false], rfl⟩, ⟨[false, true], rfl⟩, ⟨[2, 1, 0, 7], rfl⟩⟩
  replace hr := ineg h2019 hr
  refine at_false rfl (decide_eq_false (by omega)) ?_
  refine at_exit ?_
  refine at_then_exit ?_
  refine at_then_exit ?_
  refine at_in_exit ?_
  have hq := oinj hr
  clear hr
  subst hq
  exact at_leaf (v2008, n2009, i2010) ⟨⟨rfl, trivial⟩, ⟨[], rfl⟩, ⟨[true], rfl⟩, ⟨[0, 1], rfl⟩⟩
 clear hl2015
 intro e
 obtain ⟨v2012, n2013, i2014⟩ := e
 change At _ _ (⟨[(3, v2012)], [], [⟨v2012, 76, 3, n2013, i2014⟩], [(ty76.row x2011 i2014), (pureF (x2011.length * ty76.bytes ≤ 140737488355328))]⟩ : St) _
 refine s_tsr ?_
 refine s_mv rfl ?_
 refine s_as rfl ?_
 refine s_nt ?_
 refine at_ret ?_
 have hq := oinj hr
 clear hr
 subst hq
 refine at_pure 1 rfl (fun hb2075 => ?_)
 refine at_release 0 0 rfl rfl rfl hb2075 ?_
 exact at_return (v2012) [0] hS Tryz.results15 (.cons (.tmp rfl) .nil) rfl rfl ⟨v2012, rfl, rfl⟩
/-! 45 bookplate/crosswalk.Back$1 -/
def m45 (a0 : Str) (c0 : (List D_crosswalk_Entry)) : Option (D_crosswalk_Entry × Str × Bool) :=
  (m46 c0 a0).bind fun x2080 =>
  some ((⟨x2080.1.From, x2080.1.To, x2080.1.Codes⟩ : D_crosswalk_Entry), x2080.1.From, x2080.2)
def post45 (r : (D_crosswalk_Entry × Str × Bool)) (v : Value) (fs : List Fact) : Prop := ∃ s2085 : Value, v = .tuple #[.agg #[str r.1.From, str r.1.To, s2085], str r.2.1, .bool r.2.2] ∧ fs = [(ty76.fact r.1 [str r.1.From, str r.1.To, s2085]), (Ty.str.fact r.2.1 [str r.2.1])]
theorem en45 : Enters Tryz.prog 45 := ⟨_, Tryz.func45, by kernel_rfl, rfl⟩
theorem f45_spec {a0 : Str} {c0 : (List D_crosswalk_Entry)} {b2077 : Nat} {w2078 : Value} {r : (D_crosswalk_Entry × Str × Bool)} (hr : m45 a0 c0 = some r) : Spec Tryz.prog 45 [str a0, .pointer (some (Addr.add ⟨b2077, 0, none⟩ 0))] [(Ty.str.fact a0 [str a0]), (peek ⟨b2077, 0, none⟩ [w2078]), ((Ty.slice ty76).fact c0 [w2078])] (post45 r) := by
 refine spec_start (N := 18) Tryz.func45 (by kernel_rfl) rfl rfl rfl ?_
 intro g hS
 unfold m45 at hr
 refine s_sr ?_
 refine at_hv rfl ?_
 refine hv_alloc (cs := [str ([] : Str), str ([] : Str), (.slice none 0 0)]) ti76 rfl rfl (fun b2079 => ?_)
 refine s_as rfl ?_
 refine s_as rfl ?_
 refine s_ntsr ?_
 refine at_lt (lt_load_peek 1 rfl ti34 rfl rfl rfl rfl rfl) rfl ?_
 refine s_mv rfl ?_
 replace hr := obind hr
 obtain ⟨x2080, h2081, hr⟩ := hr
 refine at_hv rfl ?_
 refine hv_call0 [2, 0] (f46_spec h2081) rfl rfl rfl rfl ?_
 rintro _ _ ⟨s2082, rfl, rfl⟩
 refine at_open (A := Unit) 0 rfl (fun _ => True) (fun _ => [(Ty.str.fact x2080.1.From [str x2080.1.From]), (Ty.str.fact x2080.1.To [str x2080.1.To]), ((Ty.slice ty82).fact x2080.1.Codes [s2082])]) (fun F w h => ⟨(), trivial, ex76 h⟩) (fun _ _ => ?_)
 refine s_mv rfl ?_
 refine at_lt (lt_extract rfl rfl) rfl ?_
 refine at_lt (lt_extract rfl rfl) rfl ?_
 refine at_hv rfl ?_
 refine hv_alloc (cs := [str ([] : Str), str ([] : Str), (.slice none 0 0)]) ti76 rfl rfl (fun b2083 => ?_)
 refine at_one 2 rfl (fun ho2084 => ?_)
 refine at_hv rfl ?_
 refine hv_store_box 0 (cs' := [str x2080.1.From, str x2080.1.To, s2082]) rfl rfl ti76 rfl rfl rfl rfl (allc rfl (allc rfl (allc ho2084 rfl))) ?_
 refine s_as rfl ?_
 refine s_nt ?_
 refine at_seq ?_
 refine aa_start 4 (by kernel_rfl) ?_
 refine aa_l 0 rfl (lt_load_box 0 rfl ti76 rfl rfl rfl rfl rfl) ?_
 refine aa_p 1 rfl (lt_fieldAddr 0 rfl fld76_0 rfl) ?_
 refine aa_p 3 rfl (lt_move rfl) ?_
 refine aa_all (rs := [2, 4]) (by kernel_rfl) rfl (ts_in 0 0 rfl rfl) (List.forall_mem_cons.2 ⟨?_, (List.forall_mem_singleton.2 ?_)⟩)
 ·refine aa_op rfl rfl ?_
  refine hv_lt (lt_load_box 0 rfl ti9 rfl rfl rfl rfl rfl) rfl ?_
  refine aa_one 4 ?_
  refine aa_op rfl rfl ?_
  refine hv_store_box 1 (cs' := [str x2080.1.From, str x2080.1.To, s2082]) rfl rfl ti76 rfl rfl rfl rfl (allc rfl (allc rfl (allc ho2084 rfl))) ?_
  refine aa_all (rs := [5]) (by kernel_rfl) rfl (ts_out rfl) (List.forall_mem_singleton.2 ?_)
  refine aa_op rfl rfl ?_
  refine hv_lt (lt_assign rfl) rfl ?_
  refine aa_all (rs := [6]) (by kernel_rfl) rfl (ts_out rfl) (List.forall_mem_singleton.2 ?_)
  refine aa_op rfl rfl ?_
  refine hv_lt (lt_assign rfl) rfl ?_
  refine aa_done (by kernel_rfl) (ts_out rfl) ?_
  refine at_then ?_
  refine at_ret ?_
  have hq := oinj hr
  clear hr
  subst hq
  refine at_derive [0, 1, 2] (ty76.fact (⟨x2080.1.From, x2080.1.To, x2080.1.Codes⟩ : D_crosswalk_Entry) [str x2080.1.From, str x2080.1.To, s2082]) rfl (fun F w h => mk76 (x := (⟨x2080.1.From, x2080.1.To, x2080.1.Codes⟩ : D_crosswalk_Entry)) h) ?_
  exact at_return (.tuple #[.agg #[str x2080.1.From, str x2080.1.To, s2082], str x2080.1.From, .bool x2080.2]) [0, 1] hS Tryz.results45 (.cons (.cell 1 rfl ti76 rfl rfl rfl rfl) (.cons (.tmp rfl) (.cons (.tmp rfl) .nil))) rfl rfl ⟨s2082, rfl, rfl⟩
 ·refine aa_op rfl rfl ?_
  refine hv_store_box 1 (cs' := [str x2080.1.From, str x2080.1.To, s2082]) rfl rfl ti76 rfl rfl rfl rfl (allc rfl (allc rfl (allc ho2084 rfl))) ?_
  refine aa_all (rs := [2]) (by kernel_rfl) rfl (ts_out rfl) (List.forall_mem_singleton.2 ?_)
  refine aa_op rfl rfl ?_
  refine hv_lt (lt_load_box 0 rfl ti9 rfl rfl rfl rfl rfl) rfl ?_
  refine aa_all (rs := [5]) (by kernel_rfl) rfl (ts_out rfl) (List.forall_mem_singleton.2 ?_)
  refine aa_op rfl rfl ?_
  refine hv_lt (lt_assign rfl) rfl ?_
  refine aa_all (rs := [6]) (by kernel_rfl) rfl (ts_out rfl) (List.forall_mem_singleton.2 ?_)
  refine aa_op rfl rfl ?_
  refine hv_lt (lt_assign rfl) rfl ?_
  refine aa_done (by kernel_rfl) (ts_out rfl) ?_
  refine at_then ?_
  refine at_ret ?_
  have hq := oinj hr
  clear hr
  subst hq
  refine at_derive [0, 1, 2] (ty76.fact (⟨x2080.1.From, x2080.1.To, x2080.1.Codes⟩ : D_crosswalk_Entry) [str x2080.1.From, str x2080.1.To, s2082]) rfl (fun F w h => mk76 (x := (⟨x2080.1.From, x2080.1.To, x2080.1.Codes⟩ : D_crosswalk_Entry)) h) ?_
  exact at_return (.tuple #[.agg #[str x2080.1.From, str x2080.1.To, s2082], str x2080.1.From, .bool x2080.2]) [0, 1] hS Tryz.results45 (.cons (.cell 1 rfl ti76 rfl rfl rfl rfl) (.cons (.tmp rfl) (.cons (.tmp rfl) .nil))) rfl rfl ⟨s2082, rfl, rfl⟩
/-! 16 bookplate/crosswalk.Back -/
def m16 (a0 : (List D_crosswalk_Entry)) (a1 : D_api_Record) : Option (D_api_Record × Int) :=
  (m41 a0 (⟨a1.ID, a1.Fields⟩ : D_api_Record) (fun y0 => m45 y0 a0) m47).bind fun x2093 =>
  some ((⟨x2093.1.ID, x2093.1.Fields⟩ : D_api_Record), x2093.2)
def post16 (r : (D_api_Record × Int)) (v : Value) (fs : List Fact) : Prop := ∃ s2100 : Value, v = .tuple #[.agg #[.int .i64 r.1.ID, s2100], .int .i64 r.2] ∧ fs = [(ty25.fact r.1 [.int .i64 r.1.ID, s2100]), ((Ty.int .i64).fact r.2 [.int .i64 r.2])]
theorem en16 : Enters Tryz.prog 16 := ⟨_, Tryz.func16, by kernel_rfl, rfl⟩
theorem f16_spec {a0 : (List D_crosswalk_Entry)} {a1 : D_api_Record} {w2086 : Value} {s2087 : Value} {r : (D_api_Record × Int)} (hr : m16 a0 a1 = some r) : Spec Tryz.prog 16 [w2086, .agg #[.int .i64 a1.ID, s2087]] [((Ty.slice ty76).fact a0 [w2086]), (ty25.fact a1 [.int .i64 a1.ID, s2087]), (utf8F 1 2)] (post16 r) := by
 refine spec_start (N := 12) Tryz.func16 (by kernel_rfl) rfl rfl rfl ?_
 intro g hS
 unfold m16 at hr
 refine at_open (A := Unit) 1 rfl (fun _ => True) (fun _ => [((Ty.int .i64).fact a1.ID [.int .i64 a1.ID]), ((Ty.slice ty69).fact a1.Fields [s2087])]) (fun F w h => ⟨(), trivial, ex25 h⟩) (fun _ _ => ?_)
 refine at_inv 0 rfl (fun l2088 => ?_)
 replace l2088 : (-9223372036854775808) ≤ a1.ID ∧ a1.ID ≤ 9223372036854775807 := l2088
 refine s_sr ?_
 refine at_one 2 rfl (fun ho2090 => ?_)
 refine at_hv rfl ?_
 refine hv_box (cs := [w2086]) rfl (cells_one ho2090) rfl (fun b2089 => ?_)
 refine at_hv rfl ?_
 refine hv_box (cs := [.int .i64 a1.ID, s2087]) rfl rfl rfl (fun b2091 => ?_)
 refine at_hv rfl ?_
 refine hv_alloc (cs := [.int .i64 0, (.slice none 0 0)]) ti25 rfl rfl (fun b2092 => ?_)
 refine s_as rfl ?_
 refine s_ntsr ?_
 refine at_lt (lt_load_box 2 rfl ti34 rfl rfl rfl rfl rfl) rfl ?_
 refine at_lt (lt_load_box 1 rfl ti25 rfl rfl rfl rfl rfl) rfl ?_
 refine at_lt (lt_makeFunc rfl) rfl ?_
 replace hr := obind hr
 obtain ⟨x2093, h2094, hr⟩ := hr
 refine at_freeze 2 rfl ?_
 refine at_fn 45 [.pointer (some (Addr.add ⟨b2089, 0, none⟩ 0))] [0, 3] (sp79 (fun y0 => m45 y0 a0)) en45 rfl (by rintro _ _ _ ⟨a0, r, h, rfl, rfl, rfl⟩; exact f45_spec h) ?_
 refine at_fn 47 [] [] (sp80 m47) en47 rfl (by rintro _ _ _ ⟨a0, a1, r, s2096, h, rfl, rfl, rfl⟩; exact f47_spec h) ?_
 refine at_derive [3, 4] (ty25.fact (⟨a1.ID, a1.Fields⟩ : D_api_Record) [.int .i64 a1.ID, s2087]) rfl (fun F w h => mk25 (x := (⟨a1.ID, a1.Fields⟩ : D_api_Record)) h) ?_
 refine at_hv rfl ?_
 refine hv_call0 [6, 0, 2, 1, 8] (f41_spec h2094) rfl rfl rfl rfl ?_
 rintro _ _ ⟨s2095, rfl, rfl⟩
 refine at_open (A := Unit) 0 rfl (fun _ => True) (fun _ => [((Ty.int .i64).fact x2093.1.ID [.int .i64 x2093.1.ID]), ((Ty.slice ty69).fact x2093.1.Fields [s2095])]) (fun F w h => ⟨(), trivial, ex25 h⟩) (fun _ _ => ?_)
 refine at_inv 0 rfl (fun l2097 => ?_)
 replace l2097 : (-9223372036854775808) ≤ x2093.1.ID ∧ x2093.1.ID ≤ 9223372036854775807 := l2097
 refine at_inv 3 rfl (fun l2098 => ?_)
 replace l2098 : (-9223372036854775808) ≤ x2093.2 ∧ x2093.2 ≤ 9223372036854775807 := l2098
 refine at_lt (lt_extract rfl rfl) rfl ?_
 refine at_lt (lt_extract rfl rfl) rfl ?_
 refine at_one 1 rfl (fun ho2099 => ?_)
 refine at_hv rfl ?_
 refine hv_store_box 0 (cs' := [.int .i64 x2093.1.ID, s2095]) rfl rfl ti25 rfl rfl rfl rfl (allc rfl (allc ho2099 rfl)) ?_
 refine s_as rfl ?_
 refine s_nt ?_
 refine at_ret ?_
 have hq := oinj hr
 clear hr
 subst hq
 refine at_derive [0, 1] (ty25.fact (⟨x2093.1.ID, x2093.1.Fields⟩ : D_api_Record) [.int .i64 x2093.1.ID, s2095]) rfl (fun F w h => mk25 (x := (⟨x2093.1.ID, x2093.1.Fields⟩ : D_api_Record)) h) ?_
 exact at_return (.tuple #[.agg #[.int .i64 x2093.1.ID, s2095], .int .i64 x2093.2]) [0, 4] hS Tryz.results16 (.cons (.cell 0 rfl ti25 rfl rfl rfl rfl) (.cons (.tmp rfl) .nil)) rfl rfl ⟨s2095, rfl, rfl⟩
/-! 97 slices.Equal[[]bookplate/api.Sub,bookplate/api.Sub] -/
def m97_l1 (a0 : (List D_api_Sub)) (a1 : (List D_api_Sub)) : Nat → Nat → Option (Fl Bool Unit)
  | 0, _ => none
  | k + 1, x2108 =>
    if x2108 < a0.length then
     (a0[x2108]?).bind fun x2113 =>
     (a1[x2108]?).bind fun x2117 =>
     if (decide (((x2113.Code.toNat : Int) : Int) = (x2117.Code.toNat : Int)) && decide (x2113.Value = x2117.Value)) = true then
      m97_l1 a0 a1 k (x2108 + 1)
     else
      some (Fl.ret false)
    else
     some (Fl.go ())
def m97 (a0 : (List D_api_Sub)) (a1 : (List D_api_Sub)) : Option Bool :=
  if a0.length = a1.length then
   (m97_l1 a0 a1 (a0.length + 1) 0).bind fun r => match r with
   | .ret x => some x
   | .go _ =>
    some true
  else
   some false
def post97 (r : Bool) (v : Value) (fs : List Fact) : Prop := v = .bool r ∧ fs = []
theorem en97 : Enters Tryz.prog 97 := ⟨_, Tryz.func97, by kernel_rfl, rfl⟩
theorem f97_spec {a0 : (List D_api_Sub)} {a1 : (List D_api_Sub)} {w2101 : Value} {w2102 : Value} {r : Bool} (hr : m97 a0 a1 = some r) : Spec Tryz.prog 97 [w2101, w2102] [((Ty.slice ty66).fact a0 [w2101]), ((Ty.slice ty66).fact a1 [w2102])] (post97 r) := by
 refine spec_start (N := 26) Tryz.func97 (by kernel_rfl) rfl rfl rfl ?_
 intro g hS
 unfold m97 at hr
 refine s_sr ?_
 refine s_as rfl ?_
 refine s_nt ?_
 refine at_seq ?_
 refine s_sr ?_
 refine s_mv rfl ?_
 refine at_inv 0 rfl (fun i2103 => ?_)
 have l2104 := slice_len i2103
 refine at_lt (lt_flen 0 rfl rfl und67) rfl ?_
 refine s_mv rfl ?_
 refine at_inv 1 rfl (fun i2105 => ?_)
 have l2106 := slice_len i2105
 refine at_lt (lt_flen 1 rfl rfl und67) rfl ?_
 refine at_lt (lt_neq rfl rfl) rfl ?_
 refine s_nt ?_
 by_cases h2107 : a0.length = a1.length
 ·replace hr := ipos h2107 hr
  refine at_false rfl (nt (decide_eq_true (by omega))) ?_
  refine at_skip ?_
  refine at_then ?_
  refine at_seq ?_
  refine s_sr ?_
  refine s_mv rfl ?_
  refine at_lt (lt_flen 0 rfl rfl und67) rfl ?_
  refine s_mv rfl ?_
  refine s_nt ?_
  refine at_int .i64 0 (by simp only [lo, hi]; omega) ?_
  replace hr := obind hr
  obtain ⟨r2109, hl2110, hk2111⟩ := hr
  refine at_cutP (V := (Unit) × (Unit)) (fun v => r2109 = Fl.go v.1) (fun v => (⟨[], [], [], []⟩ : St)) ?_ ?_
  ·refine at_block ?_
   refine at_loopW (σ := Nat) (V := Unit) (r := r2109) (fun n s => m97_l1 a0 a1 n s) (fun s e => (⟨[(0, w2101), (1, w2102), (12, .int .i64 (a0.length : Int)), (13, .int .i64 (s : Int))], [], [], [((Ty.int .i64).fact (s : Int) [.int .i64 (s : Int)]), ((Ty.slice ty66).fact a0 [w2101]), ((Ty.slice ty66).fact a1 [w2102])]⟩ : St)) (fun _ => rfl) _ 0 () hl2110 ⟨⟨rfl, ⟨rfl, ⟨rfl, ⟨rfl, trivial⟩⟩⟩⟩, ⟨[], rfl⟩, ⟨[], rfl⟩, ⟨[0, 1, 2], rfl⟩⟩ ?_
   clear hl2110
   intro n x2108 hr e
   skip
   skip
   change m97_l1 a0 a1 (n + 1) x2108 = some r2109 at hr
   change At _ _ (⟨[(0, w2101), (1, w2102), (12, .int .i64 (a0.length : Int)), (13, .int .i64 (x2108 : Int))], [], [], [((Ty.int .i64).fact (x2108 : Int) [.int .i64 (x2108 : Int)]), ((Ty.slice ty66).fact a0 [w2101]), ((Ty.slice ty66).fact a1 [w2102])]⟩ : St) _
   rw [m97_l1] at hr
   refine s_sr ?_
   refine at_lt (lt_lss rfl rfl) rfl ?_
   refine s_nt ?_
   refine at_seq ?_
   by_cases h2112 : x2108 < a0.length
   ·replace hr := ipos h2112 hr
    refine at_true rfl (decide_eq_true (by omega)) ?_
    refine at_skip ?_
    refine at_then ?_
    refine at_seq ?_
    refine at_block ?_
    refine s_sr ?_
    refine s_mv rfl ?_
    refine s_as rfl ?_
    refine s_nt ?_
    refine at_seq ?_
    replace hr := obind hr
    obtain ⟨x2113, h2114, hr⟩ := hr
    have := (List.getElem?_eq_some_iff.1 h2114).1
    refine at_elem 1 rfl (nat_at' h2114) (fun p2115 ec pa2116 => ?_)
    refine at_open (A := Unit) 0 rfl _ _ (fun F w h => op66 h) ?_
    rintro _ rfl
    replace hr := obind hr
    obtain ⟨x2117, h2118, hr⟩ := hr
    have := (List.getElem?_eq_some_iff.1 h2118).1
    refine at_elem 5 rfl (nat_at' h2118) (fun p2119 ec pa2120 => ?_)
    refine at_open (A := Unit) 0 rfl _ _ (fun F w h => op66 h) ?_
    rintro _ rfl
    refine aa_start 9 (by kernel_rfl) ?_
    refine aa_p 0 rfl (lt_move rfl) ?_
    refine aa_p 1 rfl (lt_move rfl) ?_
    refine aa_p 2 rfl (lt_idx rfl rfl pa2116 und67 ti66) ?_
    refine aa_l 3 rfl (lt_load_peek 5 rfl ti66 rfl rfl rfl rfl rfl) ?_
    refine aa_p 4 rfl (lt_move rfl) ?_
    refine aa_p 5 rfl (lt_move rfl) ?_
    refine aa_p 6 rfl (lt_idx rfl rfl pa2120 und67 ti66) ?_
    refine aa_l 7 rfl (lt_load_peek 2 rfl ti66 rfl rfl rfl rfl rfl) ?_
    refine aa_p 8 rfl (lt_stne rfl rfl eg66 eqt66) ?_
    refine aa_done (by kernel_rfl) (ts_in 0 0 rfl rfl) ?_
    refine at_then ?_
    by_cases h2121 : (decide (((x2113.Code.toNat : Int) : Int) = (x2117.Code.toNat : Int)) && decide (x2113.Value = x2117.Value)) = true
    ·replace hr := ipos h2121 hr
     refine at_false rfl (nt h2121) ?_
     refine at_skip ?_
     refine at_in ?_
     refine s_tr ?_
     refine at_lt (lt_add rfl rfl (by simp only [lo, hi]; omega)) rfl ?_
     refine s_mv rfl ?_
     refine at_nil ?_
     refine at_int .i64 (x2108 + 1 : Int) (by simp only [lo, hi]; omega) ?_
     exact at_again (σ := Nat) (V := Unit) (lp := fun n s => m97_l1 a0 a1 n s) (S := fun s e => (⟨[(0, w2101), (1, w2102), (12, .int .i64 (a0.length : Int)), (13, .int .i64 (s : Int))], [], [], [((Ty.int .i64).fact (s : Int) [.int .i64 (s : Int)]), ((Ty.slice ty66).fact a0 [w2101]), ((Ty.slice ty66).fact a1 [w2102])]⟩ : St)) (x2108 + 1) () hr ⟨⟨rfl, ⟨rfl, ⟨rfl, ⟨rfl, trivial⟩⟩⟩⟩, ⟨[], rfl⟩, ⟨[], rfl⟩, ⟨[0, 8, 9], rfl⟩⟩
    replace hr := ineg h2121 hr
    refine at_true rfl (nf (bf h2121)) ?_
    refine s_sr ?_
    refine s_as rfl ?_
    refine s_nt ?_
    refine at_ret ?_
    have hq := oinj hr
    clear hr
    subst hq
    have hq := oinj hk2111
    clear hk2111
    subst hq
    refine at_in_ret ?_
    refine at_then_ret ?_
    refine at_then_ret ?_
    refine at_in_ret ?_
    refine at_then_ret ?_
    refine at_then_ret ?_
    exact at_return (.bool false) [] hS Tryz.results97 (.cons (.tmp rfl) .nil) rfl rfl ⟨rfl, rfl⟩
   replace hr := ineg h2112 hr
   refine at_false rfl (decide_eq_false (by omega)) ?_
   refine at_exit ?_
   refine at_then_exit ?_
   refine at_then_exit ?_
   refine at_in_exit ?_
   have hq := oinj hr
   clear hr
   subst hq
   exact at_leafP ((), ()) rfl ⟨trivial, ⟨[], rfl⟩, ⟨[], rfl⟩, ⟨[], rfl⟩⟩
  rintro ⟨_, _⟩ hp
  replace hr := hk2111
  subst hp
  clear hl2110
  change At _ _ (⟨[], [], [], []⟩ : St) _
  refine s_tsr ?_
  refine s_as rfl ?_
  refine s_nt ?_
  refine at_ret ?_
  have hq := oinj hr
  clear hr
  subst hq
  exact at_return (.bool true) [] hS Tryz.results97 (.cons (.tmp rfl) .nil) rfl rfl ⟨rfl, rfl⟩
 replace hr := ineg h2107 hr
 refine at_true rfl (nf (decide_eq_false (by omega))) ?_
 refine s_sr ?_
 refine s_as rfl ?_
 refine s_nt ?_
 refine at_ret ?_
 have hq := oinj hr
 clear hr
 subst hq
 refine at_then_ret ?_
 exact at_return (.bool false) [] hS Tryz.results97 (.cons (.tmp rfl) .nil) rfl rfl ⟨rfl, rfl⟩
/-! 96 bookplate/record.Equal$1 -/
def m96 (a0 : D_api_Field) (a1 : D_api_Field) : Option Bool :=
  if a0.Tag = a1.Tag then
   if (decide (((a0.Ind_0.toNat : Int) : Int) = (a1.Ind_0.toNat : Int)) && decide (((a0.Ind_1.toNat : Int) : Int) = (a1.Ind_1.toNat : Int))) = true then
    (m97 a0.Subs a1.Subs).bind fun x2128 =>
    some x2128
   else
    some false
  else
   some false
def post96 (r : Bool) (v : Value) (fs : List Fact) : Prop := v = .bool r ∧ fs = []
theorem en96 : Enters Tryz.prog 96 := ⟨_, Tryz.func96, by kernel_rfl, rfl⟩
theorem f96_spec {a0 : D_api_Field} {a1 : D_api_Field} {s2122 : Value} {s2123 : Value} {r : Bool} (hr : m96 a0 a1 = some r) : Spec Tryz.prog 96 [.agg #[str a0.Tag, .int .u8 (a0.Ind_0.toNat : Int), .int .u8 (a0.Ind_1.toNat : Int), s2122], .agg #[str a1.Tag, .int .u8 (a1.Ind_0.toNat : Int), .int .u8 (a1.Ind_1.toNat : Int), s2123]] [(ty69.fact a0 [str a0.Tag, .int .u8 (a0.Ind_0.toNat : Int), .int .u8 (a0.Ind_1.toNat : Int), s2122]), (ty69.fact a1 [str a1.Tag, .int .u8 (a1.Ind_0.toNat : Int), .int .u8 (a1.Ind_1.toNat : Int), s2123])] (post96 r) := by
 refine spec_start (N := 24) Tryz.func96 (by kernel_rfl) rfl rfl rfl ?_
 intro g hS
 unfold m96 at hr
 refine at_open (A := Unit) 0 rfl (fun _ => True) (fun _ => [(Ty.str.fact a0.Tag [str a0.Tag]), ((Ty.slice ty66).fact a0.Subs [s2122])]) (fun F w h => ⟨(), trivial, ex69 h⟩) (fun _ _ => ?_)
 refine at_open (A := Unit) 3 rfl (fun _ => True) (fun _ => [(Ty.str.fact a1.Tag [str a1.Tag]), ((Ty.slice ty66).fact a1.Subs [s2123])]) (fun F w h => ⟨(), trivial, ex69 h⟩) (fun _ _ => ?_)
 refine s_sr ?_
 refine at_hv rfl ?_
 refine hv_box (cs := [str a0.Tag, .int .u8 (a0.Ind_0.toNat : Int), .int .u8 (a0.Ind_1.toNat : Int), s2122]) rfl rfl rfl (fun b2124 => ?_)
 refine at_hv rfl ?_
 refine hv_box (cs := [str a1.Tag, .int .u8 (a1.Ind_0.toNat : Int), .int .u8 (a1.Ind_1.toNat : Int), s2123]) rfl rfl rfl (fun b2125 => ?_)
 refine s_as rfl ?_
 refine s_ntsr ?_
 refine at_lt (lt_fieldAddr 0 rfl fld69_0 rfl) rfl ?_
 refine at_lt (lt_load_box 1 rfl ti9 rfl rfl rfl rfl rfl) rfl ?_
 refine at_lt (lt_fieldAddr 0 rfl fld69_0 rfl) rfl ?_
 refine at_lt (lt_load_box 0 rfl ti9 rfl rfl rfl rfl rfl) rfl ?_
 refine at_lt (lt_seql rfl rfl) rfl ?_
 refine s_mv rfl ?_
 by_cases h2126 : a0.Tag = a1.Tag
 ·replace hr := ipos h2126 hr
  refine at_on rfl rfl (decide_eq_true h2126) ?_
  refine at_lt (lt_fieldAddr 1 rfl fld69_1 rfl) rfl ?_
  refine at_on rfl rfl (decide_eq_true h2126) ?_
  refine at_lt (lt_load_box 1 rfl ti64 rfl rfl rfl rfl rfl) rfl ?_
  refine at_on rfl rfl (decide_eq_true h2126) ?_
  refine at_lt (lt_fieldAddr 1 rfl fld69_1 rfl) rfl ?_
  refine at_on rfl rfl (decide_eq_true h2126) ?_
  refine at_lt (lt_load_box 0 rfl ti64 rfl rfl rfl rfl rfl) rfl ?_
  refine at_on rfl rfl (decide_eq_true h2126) ?_
  refine at_lt (lt_steq rfl rfl eg64 eqt64) rfl ?_
  refine at_lt (lt_pick true rfl (decide_eq_true h2126) rfl) rfl ?_
  refine s_mv rfl ?_
  by_cases h2127 : (decide (((a0.Ind_0.toNat : Int) : Int) = (a1.Ind_0.toNat : Int)) && decide (((a0.Ind_1.toNat : Int) : Int) = (a1.Ind_1.toNat : Int))) = true
  ·replace hr := ipos h2127 hr
   refine at_on rfl rfl h2127 ?_
   refine at_lt (lt_fieldAddr 3 rfl fld69_2 rfl) rfl ?_
   refine at_on rfl rfl h2127 ?_
   refine at_lt (lt_load_box 1 rfl ti67 rfl rfl rfl rfl rfl) rfl ?_
   refine at_on rfl rfl h2127 ?_
   refine at_lt (lt_fieldAddr 3 rfl fld69_2 rfl) rfl ?_
   refine at_on rfl rfl h2127 ?_
   refine at_lt (lt_load_box 0 rfl ti67 rfl rfl rfl rfl rfl) rfl ?_
   replace hr := obind hr
   obtain ⟨x2128, h2129, hr⟩ := hr
   refine at_on rfl rfl h2127 ?_
   refine at_hv rfl ?_
   refine hv_call0 [3, 1] (f97_spec h2129) rfl rfl rfl rfl ?_
   rintro _ _ ⟨rfl, rfl⟩
   refine at_lt (lt_pick true rfl h2127 rfl) rfl ?_
   refine s_as rfl ?_
   refine s_nt ?_
   refine at_ret ?_
   have hq := oinj hr
   clear hr
   subst hq
   exact at_return (.bool x2128) [] hS Tryz.results96 (.cons (.tmp rfl) .nil) rfl rfl ⟨rfl, rfl⟩
  replace hr := ineg h2127 hr
  refine at_off rfl rfl (bf h2127) rfl ?_
  refine at_off rfl rfl (bf h2127) rfl ?_
  refine at_off rfl rfl (bf h2127) rfl ?_
  refine at_off rfl rfl (bf h2127) rfl ?_
  refine at_off rfl rfl (bf h2127) rfl ?_
  refine at_lt (lt_pick false rfl (bf h2127) rfl) rfl ?_
  refine s_as rfl ?_
  refine s_nt ?_
  refine at_ret ?_
  have hq := oinj hr
  clear hr
  subst hq
  exact at_return (.bool false) [] hS Tryz.results96 (.cons (.tmp rfl) .nil) rfl rfl ⟨rfl, rfl⟩
 replace hr := ineg h2126 hr
 refine at_off rfl rfl (decide_eq_false h2126) rfl ?_
 refine at_off rfl rfl (decide_eq_false h2126) rfl ?_
 refine at_off rfl rfl (decide_eq_false h2126) rfl ?_
 refine at_off rfl rfl (decide_eq_false h2126) rfl ?_
 refine at_off rfl rfl (decide_eq_false h2126) rfl ?_
 refine at_lt (lt_pick false rfl (decide_eq_false h2126) rfl) rfl ?_
 refine s_mv rfl ?_
 refine at_off rfl rfl rfl rfl ?_
 refine at_off rfl rfl rfl rfl ?_
 refine at_off rfl rfl rfl rfl ?_
 refine at_off rfl rfl rfl rfl ?_
 refine at_off rfl rfl rfl rfl ?_
 refine at_lt (lt_pick false rfl rfl rfl) rfl ?_
 refine s_as rfl ?_
 refine s_nt ?_
 refine at_ret ?_
 have hq := oinj hr
 clear hr
 subst hq
 exact at_return (.bool false) [] hS Tryz.results96 (.cons (.tmp rfl) .nil) rfl rfl ⟨rfl, rfl⟩
/-! 98 slices.EqualFunc[[]bookplate/api.Field,[]bookplate/api.Field,bookplate/api.Field,bookplate/api.Field] -/
def m98_l1 (a0 : (List D_api_Field)) (a1 : (List D_api_Field)) (p2 : (D_api_Field → D_api_Field → Option Bool)) : Nat → Nat → Option (Fl Bool Unit)
  | 0, _ => none
  | k + 1, x2138 =>
    if x2138 < a0.length then
     (a0[x2138]?).bind fun x2143 =>
     (a1[x2138]?).bind fun x2150 =>
     (p2 (⟨x2143.Tag, x2143.Ind_0, x2143.Ind_1, x2143.Subs⟩ : D_api_Field) (⟨x2150.Tag, x2150.Ind_0, x2150.Ind_1, x2150.Subs⟩ : D_api_Field)).bind fun x2157 =>
     if x2157 = true then
      m98_l1 a0 a1 p2 k (x2138 + 1)
     else
      some (Fl.ret false)
    else
     some (Fl.go ())
def m98 (a0 : (List D_api_Field)) (a1 : (List D_api_Field)) (p2 : (D_api_Field → D_api_Field → Option Bool)) : Option Bool :=
  if a0.length = a1.length then
   (m98_l1 a0 a1 p2 (a0.length + 1) 0).bind fun r => match r with
   | .ret x => some x
   | .go _ =>
    some true
  else
   some false
def post98 (r : Bool) (v : Value) (fs : List Fact) : Prop := v = .bool r ∧ fs = []
theorem en98 : Enters Tryz.prog 98 := ⟨_, Tryz.func98, by kernel_rfl, rfl⟩
theorem f98_spec {a0 : (List D_api_Field)} {a1 : (List D_api_Field)} {p2 : (D_api_Field → D_api_Field → Option Bool)} {w2130 : Value} {w2131 : Value} {w2132 : Value} {r : Bool} (hr : m98 a0 a1 p2 = some r) : Spec Tryz.prog 98 [w2130, w2131, w2132] [((Ty.slice ty69).fact a0 [w2130]), ((Ty.slice ty69).fact a1 [w2131]), (FnOk Tryz.prog w2132 (sp121 p2))] (post98 r) := by
 refine spec_start (N := 32) Tryz.func98 (by kernel_rfl) rfl rfl rfl ?_
 intro g hS
 unfold m98 at hr
 refine s_sr ?_
 refine s_as rfl ?_
 refine s_nt ?_
 refine at_seq ?_
 refine s_sr ?_
 refine s_mv rfl ?_
 refine at_inv 0 rfl (fun i2133 => ?_)
 have l2134 := slice_len i2133
 refine at_lt (lt_flen 0 rfl rfl und23) rfl ?_
 refine s_mv rfl ?_
 refine at_inv 1 rfl (fun i2135 => ?_)
 have l2136 := slice_len i2135
 refine at_lt (lt_flen 1 rfl rfl und23) rfl ?_
 refine at_lt (lt_neq rfl rfl) rfl ?_
 refine s_nt ?_
 by_cases h2137 : a0.length = a1.length
 ·replace hr := ipos h2137 hr
  refine at_false rfl (nt (decide_eq_true (by omega))) ?_
  refine at_skip ?_
  refine at_then ?_
  refine at_seq ?_
  refine s_sr ?_
  refine s_mv rfl ?_
  refine at_lt (lt_flen 0 rfl rfl und23) rfl ?_
  refine s_mv rfl ?_
  refine s_nt ?_
  refine at_int .i64 0 (by simp only [lo, hi]; omega) ?_
  replace hr := obind hr
  obtain ⟨r2139, hl2140, hk2141⟩ := hr
  refine at_cutP (V := (Unit) × (Unit)) (fun v => r2139 = Fl.go v.1) (fun v => (⟨[], [], [], []⟩ : St)) ?_ ?_
  ·refine at_block ?_
   refine at_loopW (σ := Nat) (V := Unit) (r := r2139) (fun n s => m98_l1 a0 a1 p2 n s) (fun s e => (⟨[(1, w2131), (2, w2132), (15, w2130), (16, .int .i64 (a0.length : Int)), (17, .int .i64 (s : Int))], [], [], [((Ty.int .i64).fact (s : Int) [.int .i64 (s : Int)]), ((Ty.slice ty69).fact a1 [w2131]), (FnOk Tryz.prog w2132 (sp121 p2)), ((Ty.slice ty69).fact a0 [w2130])]⟩ : St)) (fun _ => rfl) _ 0 () hl2140 ⟨⟨rfl, ⟨rfl, ⟨rfl, ⟨rfl, ⟨rfl, trivial⟩⟩⟩⟩⟩, ⟨[], rfl⟩, ⟨[], rfl⟩, ⟨[0, 2, 3, 1], rfl⟩⟩ ?_
   clear hl2140
   intro n x2138 hr e
   skip
   skip
   change m98_l1 a0 a1 p2 (n + 1) x2138 = some r2139 at hr
   change At _ _ (⟨[(1, w2131), (2, w2132), (15, w2130), (16, .int .i64 (a0.length : Int)), (17, .int .i64 (x2138 : Int))], [], [], [((Ty.int .i64).fact (x2138 : Int) [.int .i64 (x2138 : Int)]), ((Ty.slice ty69).fact a1 [w2131]), (FnOk Tryz.prog w2132 (sp121 p2)), ((Ty.slice ty69).fact a0 [w2130])]⟩ : St) _
   rw [m98_l1] at hr
   refine s_sr ?_
   refine at_lt (lt_lss rfl rfl) rfl ?_
   refine s_nt ?_
   refine at_seq ?_
   by_cases h2142 : x2138 < a0.length
   ·replace hr := ipos h2142 hr
    refine at_true rfl (decide_eq_true (by omega)) ?_
    refine at_skip ?_
    refine at_then ?_
    refine at_seq ?_
    refine at_block ?_
    refine s_sr ?_
    refine s_mv rfl ?_
    replace hr := obind hr
    obtain ⟨x2143, h2144, hr⟩ := hr
    have := (List.getElem?_eq_some_iff.1 h2144).1
    refine at_elem 3 rfl (nat_at' h2144) (fun p2146 ec pa2147 => ?_)
    refine at_open (A := Value) 0 rfl _ _ (fun F w h => op69 h) ?_
    rintro s2145 rfl
    refine at_lt (lt_idx rfl rfl pa2147 und23 ti69) rfl ?_
    refine at_lt (lt_load_peek 3 rfl ti69 rfl rfl rfl rfl rfl) rfl ?_
    refine at_hv rfl ?_
    refine hv_alloc (cs := [str ([] : Str), .int .u8 0, .int .u8 0, (.slice none 0 0)]) ti69 rfl rfl (fun b2148 => ?_)
    refine s_as rfl ?_
    refine at_one 1 rfl (fun ho2149 => ?_)
    refine at_hv rfl ?_
    refine hv_store_box 0 (cs' := [str x2143.Tag, .int .u8 (x2143.Ind_0.toNat : Int), .int .u8 (x2143.Ind_1.toNat : Int), s2145]) rfl rfl ti69 rfl rfl rfl rfl (allc rfl (allc rfl (allc rfl (allc ho2149 rfl)))) ?_
    refine s_ntsr ?_
    refine s_mv rfl ?_
    refine s_mv rfl ?_
    replace hr := obind hr
    obtain ⟨x2150, h2151, hr⟩ := hr
    have := (List.getElem?_eq_some_iff.1 h2151).1
    refine at_elem 5 rfl (nat_at' h2151) (fun p2153 ec pa2154 => ?_)
    refine at_open (A := Value) 0 rfl _ _ (fun F w h => op69 h) ?_
    rintro s2152 rfl
    refine at_lt (lt_idx rfl rfl pa2154 und23 ti69) rfl ?_
    refine at_lt (lt_load_peek 3 rfl ti69 rfl rfl rfl rfl rfl) rfl ?_
    refine at_hv rfl ?_
    refine hv_alloc (cs := [str ([] : Str), .int .u8 0, .int .u8 0, (.slice none 0 0)]) ti69 rfl rfl (fun b2155 => ?_)
    refine at_one 1 rfl (fun ho2156 => ?_)
    refine at_hv rfl ?_
    refine hv_store_box 0 (cs' := [str x2150.Tag, .int .u8 (x2150.Ind_0.toNat : Int), .int .u8 (x2150.Ind_1.toNat : Int), s2152]) rfl rfl ti69 rfl rfl rfl rfl (allc rfl (allc rfl (allc rfl (allc ho2156 rfl)))) ?_
    refine s_ntsr ?_
    refine s_mv rfl ?_
    refine at_lt (lt_load_box 1 rfl ti69 rfl rfl rfl rfl rfl) rfl ?_
    refine at_lt (lt_load_box 0 rfl ti69 rfl rfl rfl rfl rfl) rfl ?_
    replace hr := obind hr
    obtain ⟨x2157, h2158, hr⟩ := hr
    refine at_derive [4, 5] (ty69.fact (⟨x2143.Tag, x2143.Ind_0, x2143.Ind_1, x2143.Subs⟩ : D_api_Field) [str x2143.Tag, .int .u8 (x2143.Ind_0.toNat : Int), .int .u8 (x2143.Ind_1.toNat : Int), s2145]) rfl (fun F w h => mk69 (x := (⟨x2143.Tag, x2143.Ind_0, x2143.Ind_1, x2143.Subs⟩ : D_api_Field)) h) ?_
    refine at_derive [1, 2] (ty69.fact (⟨x2150.Tag, x2150.Ind_0, x2150.Ind_1, x2150.Subs⟩ : D_api_Field) [str x2150.Tag, .int .u8 (x2150.Ind_0.toNat : Int), .int .u8 (x2150.Ind_1.toNat : Int), s2152]) rfl (fun F w h => mk69 (x := (⟨x2150.Tag, x2150.Ind_0, x2150.Ind_1, x2150.Subs⟩ : D_api_Field)) h) ?_
    refine at_hv rfl ?_
    refine hv_callf 12 [1, 0] rfl rfl rfl ⟨(⟨x2143.Tag, x2143.Ind_0, x2143.Ind_1, x2143.Subs⟩ : D_api_Field), (⟨x2150.Tag, x2150.Ind_0, x2150.Ind_1, x2150.Subs⟩ : D_api_Field), x2157, s2145, s2152, h2158, rfl, rfl, rfl⟩ rfl rfl ?_
    rintro _ _ ⟨rfl, rfl⟩
    refine at_lt (lt_not rfl) rfl ?_
    refine s_nt ?_
    by_cases h2159 : x2157 = true
    ·replace hr := ipos h2159 hr
     refine at_false rfl (nt h2159) ?_
     refine at_skip ?_
     refine at_in ?_
     refine s_tr ?_
     refine at_lt (lt_add rfl rfl (by simp only [lo, hi]; omega)) rfl ?_
     refine s_mv rfl ?_
     refine at_nil ?_
     refine at_int .i64 (x2138 + 1 : Int) (by simp only [lo, hi]; omega) ?_
     exact at_again (σ := Nat) (V := Unit) (lp := fun n s => m98_l1 a0 a1 p2 n s) (S := fun s e => (⟨[(1, w2131), (2, w2132), (15, w2130), (16, .int .i64 (a0.length : Int)), (17, .int .i64 (s : Int))], [], [], [((Ty.int .i64).fact (s : Int) [.int .i64 (s : Int)]), ((Ty.slice ty69).fact a1 [w2131]), (FnOk Tryz.prog w2132 (sp121 p2)), ((Ty.slice ty69).fact a0 [w2130])]⟩ : St)) (x2138 + 1) () hr ⟨⟨rfl, ⟨rfl, ⟨rfl, ⟨rfl, ⟨rfl, trivial⟩⟩⟩⟩⟩, ⟨[false, false], rfl⟩, ⟨[], rfl⟩, ⟨[0, 12, 13, 14], rfl⟩⟩
    replace hr := ineg h2159 hr
    refine at_true rfl (nf (bf h2159)) ?_
    refine s_sr ?_
    refine s_as rfl ?_
    refine s_nt ?_
    refine at_ret ?_
    have hq := oinj hr
    clear hr
    subst hq
    have hq := oinj hk2141
    clear hk2141
    subst hq
    refine at_in_ret ?_
    refine at_then_ret ?_
    refine at_then_ret ?_
    refine at_in_ret ?_
    refine at_then_ret ?_
    refine at_then_ret ?_
    exact at_return (.bool false) [] hS Tryz.results98 (.cons (.tmp rfl) .nil) rfl rfl ⟨rfl, rfl⟩
   replace hr := ineg h2142 hr
   refine at_false rfl (decide_eq_false (by omega)) ?_
   refine at_exit ?_
   refine at_then_exit ?_
   refine at_then_exit ?_
   refine at_in_exit ?_
   have hq := oinj hr
   clear hr
   subst hq
   exact at_leafP ((), ()) rfl ⟨trivial, ⟨[], rfl⟩, ⟨[], rfl⟩, ⟨[], rfl⟩⟩
  rintro ⟨_, _⟩ hp
  replace hr := hk2141
  subst hp
  clear hl2140
  change At _ _ (⟨[], [], [], []⟩ : St) _
  refine s_tsr ?_
  refine s_as rfl ?_
  refine s_nt ?_
  refine at_ret ?_
  have hq := oinj hr
  clear hr
  subst hq
  exact at_return (.bool true) [] hS Tryz.results98 (.cons (.tmp rfl) .nil) rfl rfl ⟨rfl, rfl⟩
 replace hr := ineg h2137 hr
 refine at_true rfl (nf (decide_eq_false (by omega))) ?_
 refine s_sr ?_
 refine s_as rfl ?_
 refine s_nt ?_
 refine at_ret ?_
 have hq := oinj hr
 clear hr
 subst hq
 refine at_then_ret ?_
 exact at_return (.bool false) [] hS Tryz.results98 (.cons (.tmp rfl) .nil) rfl rfl ⟨rfl, rfl⟩
/-! 60 bookplate/record.Equal -/
def m60 (a0 : D_api_Record) (a1 : D_api_Record) : Option Bool :=
  if a0.ID = a1.ID then
   (m98 a0.Fields a1.Fields m96).bind fun x2167 =>
   some x2167
  else
   some false
def post60 (r : Bool) (v : Value) (fs : List Fact) : Prop := v = .bool r ∧ fs = []
theorem en60 : Enters Tryz.prog 60 := ⟨_, Tryz.func60, by kernel_rfl, rfl⟩
theorem f60_spec {a0 : D_api_Record} {a1 : D_api_Record} {s2160 : Value} {s2161 : Value} {r : Bool} (hr : m60 a0 a1 = some r) : Spec Tryz.prog 60 [.agg #[.int .i64 a0.ID, s2160], .agg #[.int .i64 a1.ID, s2161]] [(ty25.fact a0 [.int .i64 a0.ID, s2160]), (ty25.fact a1 [.int .i64 a1.ID, s2161])] (post60 r) := by
 refine spec_start (N := 19) Tryz.func60 (by kernel_rfl) rfl rfl rfl ?_
 intro g hS
 unfold m60 at hr
 refine at_open (A := Unit) 0 rfl (fun _ => True) (fun _ => [((Ty.int .i64).fact a0.ID [.int .i64 a0.ID]), ((Ty.slice ty69).fact a0.Fields [s2160])]) (fun F w h => ⟨(), trivial, ex25 h⟩) (fun _ _ => ?_)
 refine at_inv 0 rfl (fun l2162 => ?_)
 replace l2162 : (-9223372036854775808) ≤ a0.ID ∧ a0.ID ≤ 9223372036854775807 := l2162
 refine at_open (A := Unit) 3 rfl (fun _ => True) (fun _ => [((Ty.int .i64).fact a1.ID [.int .i64 a1.ID]), ((Ty.slice ty69).fact a1.Fields [s2161])]) (fun F w h => ⟨(), trivial, ex25 h⟩) (fun _ _ => ?_)
 refine at_inv 0 rfl (fun l2163 => ?_)
 replace l2163 : (-9223372036854775808) ≤ a1.ID ∧ a1.ID ≤ 9223372036854775807 := l2163
 refine s_sr ?_
 refine at_hv rfl ?_
 refine hv_box (cs := [.int .i64 a0.ID, s2160]) rfl rfl rfl (fun b2164 => ?_)
 refine at_hv rfl ?_
 refine hv_box (cs := [.int .i64 a1.ID, s2161]) rfl rfl rfl (fun b2165 => ?_)
 refine s_as rfl ?_
 refine s_ntsr ?_
 refine s_as rfl ?_
 refine s_ntsr ?_
 refine at_lt (lt_fieldAddr 0 rfl fld25_0 rfl) rfl ?_
 refine at_lt (lt_load_box 1 rfl ti3 rfl rfl rfl rfl rfl) rfl ?_
 refine at_lt (lt_fieldAddr 0 rfl fld25_0 rfl) rfl ?_
 refine at_lt (lt_load_box 0 rfl ti3 rfl rfl rfl rfl rfl) rfl ?_
 refine at_lt (lt_eql rfl rfl) rfl ?_
 refine s_mv rfl ?_
 by_cases h2166 : a0.ID = a1.ID
 ·replace hr := ipos h2166 hr
  refine at_on rfl rfl (decide_eq_true (by first | exact h2166 | omega)) ?_
  refine at_lt (lt_fieldAddr 1 rfl fld25_1 rfl) rfl ?_
  refine at_on rfl rfl (decide_eq_true (by first | exact h2166 | omega)) ?_
  refine at_lt (lt_load_box 1 rfl ti23 rfl rfl rfl rfl rfl) rfl ?_
  refine at_on rfl rfl (decide_eq_true (by first | exact h2166 | omega)) ?_
  refine at_lt (lt_fieldAddr 1 rfl fld25_1 rfl) rfl ?_
  refine at_on rfl rfl (decide_eq_true (by first | exact h2166 | omega)) ?_
  refine at_lt (lt_load_box 0 rfl ti23 rfl rfl rfl rfl rfl) rfl ?_
  refine at_on rfl rfl (decide_eq_true (by first | exact h2166 | omega)) ?_
  refine s_mv rfl ?_
  replace hr := obind hr
  obtain ⟨x2167, h2168, hr⟩ := hr
  refine at_fn 96 [] [] (sp121 m96) en96 rfl (by rintro _ _ _ ⟨a0, a1, r, s2169, s2170, h, rfl, rfl, rfl⟩; exact f96_spec h) ?_
  refine at_on rfl rfl (decide_eq_true (by first | exact h2166 | omega)) ?_
  refine at_hv rfl ?_
  refine hv_call0 [4, 2, 0] (f98_spec h2168) rfl rfl rfl rfl ?_
  rintro _ _ ⟨rfl, rfl⟩
  refine at_lt (lt_pick true rfl (decide_eq_true (by first | exact h2166 | omega)) rfl) rfl ?_
  refine s_as rfl ?_
  refine s_nt ?_
  refine at_ret ?_
  have hq := oinj hr
  clear hr
  subst hq
  exact at_return (.bool x2167) [] hS Tryz.results60 (.cons (.tmp rfl) .nil) rfl rfl ⟨rfl, rfl⟩
 replace hr := ineg h2166 hr
 refine at_off rfl rfl (decide_eq_false (by first | exact h2166 | omega)) rfl ?_
 refine at_off rfl rfl (decide_eq_false (by first | exact h2166 | omega)) rfl ?_
 refine at_off rfl rfl (decide_eq_false (by first | exact h2166 | omega)) rfl ?_
 refine at_off rfl rfl (decide_eq_false (by first | exact h2166 | omega)) rfl ?_
 refine at_off rfl rfl (decide_eq_false (by first | exact h2166 | omega)) rfl ?_
 refine at_off rfl rfl (decide_eq_false (by first | exact h2166 | omega)) rfl ?_
 refine at_lt (lt_pick false rfl (decide_eq_false (by first | exact h2166 | omega)) rfl) rfl ?_
 refine s_as rfl ?_
 refine s_nt ?_
 refine at_ret ?_
 have hq := oinj hr
 clear hr
 subst hq
 exact at_return (.bool false) [] hS Tryz.results60 (.cons (.tmp rfl) .nil) rfl rfl ⟨rfl, rfl⟩
/-! 157 slices.Clone[[]bookplate/api.Sub,bookplate/api.Sub] -/
def m157 (a0 : List D_api_Sub) : Option (List D_api_Sub) := if a0.length ≤ 5864062014805 then some a0 else none
theorem m157_len {a0 r : List D_api_Sub} (h : m157 a0 = some r) : r.length ≤ 5864062014805 := by
 unfold m157 at h
 obtain ⟨hb, h⟩ := imust h
 have hq := oinj h
 subst hq
 exact hb
theorem f157_specL {a0 r : List D_api_Sub} {v : Value} {n : Nat} {inner : List Value} (hr : m157 a0 = some r) : SpecG Tryz.prog 157 [v] [⟨v, 66, 2, n, inner⟩] [ty66.row a0 inner] (postCloneL ty66 66 v n inner r) := by
 unfold m157 at hr
 obtain ⟨hb, hr⟩ := imust hr
 obtain rfl := oinj hr
 refine specG_start (N := 8) Tryz.func157 (by kernel_rfl) rfl rfl rfl ?_
 intro g hS
 refine at_rowq 0 rfl (fun A c hv hn => ?_)
 refine at_rown 0 0 rfl rfl rfl (fun hl => ?_)
 simp only at hv hn
 refine s_sr ?_
 refine at_lt (lt_assign rfl) rfl ?_
 refine s_nt ?_
 refine at_seq ?_
 refine s_sr ?_
 refine at_lt (lt_move rfl) rfl ?_
 refine at_lt (lt_nilq (A := A) (n := n) (c := c) (by rw [hv]; rfl) und67) rfl ?_
 refine s_nt ?_
 cases A with
 | none =>
  obtain rfl := hn rfl
  refine at_row0 0 rfl rfl (fun hi => ?_)
  obtain rfl := List.eq_nil_of_length_eq_zero hl.symm
  refine at_true rfl rfl ?_
  refine s_sr ?_
  refine at_lt (lt_assign rfl) rfl ?_
  refine s_nt ?_
  refine at_ret ?_
  refine at_then_ret ?_
  refine at_rownew none 66 2 ?_
  refine at_rownil ty66 ?_
  exact at_returnG (.slice none 0 0) [true, true] [0] hS Tryz.results157 (.cons (.tmp rfl) .nil) rfl rfl rfl ⟨0, [], rfl, rfl⟩
 | some ad =>
  refine at_false rfl rfl ?_
  refine at_skip ?_
  refine s_tsr ?_
  refine at_hv rfl ?_
  refine hv_bslice (cs := []) rfl und67 ti66 rfl rfl rfl rfl rfl (fun s1 => ?_)
  refine at_lt (lt_move rfl) rfl ?_
  refine at_rowone 0 rfl rfl (fun h1 => ?_)
  refine at_hv rfl ?_
  refine hv_append 0 1 rfl rfl rfl rfl und67 ti66 rfl rfl h1 (by omega) (by omega) rfl (fun s2 => ?_)
  refine at_lt (lt_assign rfl) rfl ?_
  refine s_nt ?_
  refine at_ret ?_
  exact at_returnG s2 [true, true] [0] hS Tryz.results157 (.cons (.tmp rfl) .nil) rfl rfl rfl ⟨0 + n, [] ++ inner, rfl, rfl⟩
theorem f157_specR {a0 r : List D_api_Sub} {v : Value} (hr : m157 a0 = some r) : SpecG Tryz.prog 157 [v] [] [ty66.slice.fact a0 [v]] (postCloneR ty66 66 r) := by
 unfold m157 at hr
 obtain ⟨hb, hr⟩ := imust hr
 obtain rfl := oinj hr
 refine specG_start (N := 8) Tryz.func157 (by kernel_rfl) rfl rfl rfl ?_
 intro g hS
 refine at_slq 0 rfl (fun A c hv hn => ?_)
 refine s_sr ?_
 refine at_lt (lt_assign rfl) rfl ?_
 refine s_nt ?_
 refine at_seq ?_
 refine s_sr ?_
 refine at_lt (lt_move rfl) rfl ?_
 refine at_lt (lt_nilq (A := A) (n := a0.length) (c := c) (by rw [hv]; rfl) und67) rfl ?_
 refine s_nt ?_
 cases A with
 | none =>
  obtain rfl := hn rfl
  refine at_true rfl rfl ?_
  refine s_sr ?_
  refine at_lt (lt_assign rfl) rfl ?_
  refine s_nt ?_
  refine at_ret ?_
  refine at_then_ret ?_
  refine at_rownew none 66 2 ?_
  refine at_rownil ty66 ?_
  exact at_returnG (.slice none 0 0) [true] [0] hS Tryz.results157 (.cons (.tmp rfl) .nil) rfl rfl rfl ⟨0, [], rfl, rfl⟩
 | some ad =>
  refine at_false rfl rfl ?_
  refine at_skip ?_
  refine s_tsr ?_
  refine at_hv rfl ?_
  refine hv_bslice (cs := []) rfl und67 ti66 rfl rfl rfl rfl rfl (fun s1 => ?_)
  refine at_lt (lt_move rfl) rfl ?_
  refine at_hv rfl ?_
  refine hv_append_f 0 0 rfl rfl rfl rfl und67 ti66 rfl rfl (by omega) (by omega) rfl (fun s2 u => ?_)
  refine at_lt (lt_assign rfl) rfl ?_
  refine s_nt ?_
  refine at_ret ?_
  exact at_returnG s2 [true] [0] hS Tryz.results157 (.cons (.tmp rfl) .nil) rfl rfl rfl ⟨0 + a0.length, [] ++ u, rfl, rfl⟩

/-! 123 bookplate/record.one -/
def m123 (a0 : D_api_Field) : Option D_api_Field :=
  (m157 a0.Subs).bind fun x2174 =>
  some (⟨a0.Tag, a0.Ind_0, a0.Ind_1, x2174⟩ : D_api_Field)
def post123 (r : D_api_Field) (v : Value) (fs : List Fact) : Prop := ∃ s2181 : Value, v = .agg #[str r.Tag, .int .u8 (r.Ind_0.toNat : Int), .int .u8 (r.Ind_1.toNat : Int), s2181] ∧ fs = [(ty69.fact r [str r.Tag, .int .u8 (r.Ind_0.toNat : Int), .int .u8 (r.Ind_1.toNat : Int), s2181])]
theorem en123 : Enters Tryz.prog 123 := ⟨_, Tryz.func123, by kernel_rfl, rfl⟩
theorem f123_spec {a0 : D_api_Field} {s2171 : Value} {r : D_api_Field} (hr : m123 a0 = some r) : Spec Tryz.prog 123 [.agg #[str a0.Tag, .int .u8 (a0.Ind_0.toNat : Int), .int .u8 (a0.Ind_1.toNat : Int), s2171]] [(ty69.fact a0 [str a0.Tag, .int .u8 (a0.Ind_0.toNat : Int), .int .u8 (a0.Ind_1.toNat : Int), s2171])] (post123 r) := by
 refine spec_start (N := 8) Tryz.func123 (by kernel_rfl) rfl rfl rfl ?_
 intro g hS
 unfold m123 at hr
 refine at_open (A := Unit) 0 rfl (fun _ => True) (fun _ => [(Ty.str.fact a0.Tag [str a0.Tag]), ((Ty.slice ty66).fact a0.Subs [s2171])]) (fun F w h => ⟨(), trivial, ex69 h⟩) (fun _ _ => ?_)
 refine s_sr ?_
 refine at_hv rfl ?_
 refine hv_box (cs := [str a0.Tag, .int .u8 (a0.Ind_0.toNat : Int), .int .u8 (a0.Ind_1.toNat : Int), s2171]) rfl rfl rfl (fun b2172 => ?_)
 refine at_hv rfl ?_
 refine hv_alloc (cs := [str ([] : Str), .int .u8 0, .int .u8 0, (.slice none 0 0)]) ti69 rfl rfl (fun b2173 => ?_)
 refine s_ntsr ?_
 refine at_lt (lt_fieldAddr 3 rfl fld69_2 rfl) rfl ?_
 refine at_lt (lt_load_box 1 rfl ti67 rfl rfl rfl rfl rfl) rfl ?_
 replace hr := obind hr
 obtain ⟨x2174, h2175, hr⟩ := hr
 refine at_hv rfl ?_
 refine hv_callG0 [] [1] (f157_specR h2175) rfl rfl rfl rfl rfl rfl ?_
 rintro s2177 _ _ ⟨n2178, i2179, rfl, rfl⟩
 refine at_lt (lt_fieldAddr 3 rfl fld69_2 rfl) rfl ?_
 refine at_rowv 0 rfl (fun ho2180 => ?_)
 replace ho2180 := row_one (by obtain ⟨a, c, h⟩ := ho2180; exact ⟨a, _, c, h⟩)
 refine at_hv rfl ?_
 refine hv_store1 1 (cs' := [str a0.Tag, .int .u8 (a0.Ind_0.toNat : Int), .int .u8 (a0.Ind_1.toNat : Int), s2177]) rfl rfl ti67 rfl rfl rfl rfl ho2180 ?_
 refine s_ntsr ?_
 refine at_lt (lt_load_box 1 rfl ti69 rfl rfl rfl rfl rfl) rfl ?_
 refine at_hv rfl ?_
 refine hv_store_box 0 (cs' := [str a0.Tag, .int .u8 (a0.Ind_0.toNat : Int), .int .u8 (a0.Ind_1.toNat : Int), s2177]) rfl rfl ti69 rfl rfl rfl rfl (allc rfl (allc rfl (allc rfl (allc ho2180 rfl)))) ?_
 refine s_nt ?_
 refine at_ret ?_
 have hq := oinj hr
 clear hr
 subst hq
 refine at_release 0 0 rfl rfl rfl (by have := m157_len h2175; simp only [ty66_bytes] <;> omega) ?_
 refine at_derive [2, 0] (ty69.fact (⟨a0.Tag, a0.Ind_0, a0.Ind_1, x2174⟩ : D_api_Field) [str a0.Tag, .int .u8 (a0.Ind_0.toNat : Int), .int .u8 (a0.Ind_1.toNat : Int), s2177]) rfl (fun F w h => mk69 (x := (⟨a0.Tag, a0.Ind_0, a0.Ind_1, x2174⟩ : D_api_Field)) h) ?_
 exact at_return (.agg #[str a0.Tag, .int .u8 (a0.Ind_0.toNat : Int), .int .u8 (a0.Ind_1.toNat : Int), s2177]) [0] hS Tryz.results123 (.cons (.cell 0 rfl ti69 rfl rfl rfl rfl) .nil) rfl rfl ⟨s2177, rfl, rfl⟩
/-! 99 bookplate/record.all -/
def m99_l1 (a0 : D_api_Record) : Nat → Nat → (List D_api_Field) → Option (List D_api_Field)
  | 0, _, _ => none
  | k + 1, x2189, x2190 =>
    if x2189 < a0.Fields.length then
     (a0.Fields[x2189]?).bind fun x2201 =>
     (m123 (⟨x2201.Tag, x2201.Ind_0, x2201.Ind_1, x2201.Subs⟩ : D_api_Field)).bind fun x2208 =>
     if x2190.length + 1 ≤ 2932031007402 then
      m99_l1 a0 k (x2189 + 1) (x2190 ++ [x2208])
     else none
    else
     some x2190
def m99 (a0 : D_api_Record) : Option D_api_Record :=
  (m99_l1 a0 (a0.Fields.length + 1) 0 ([] : (List D_api_Field))).bind fun x2194 =>
  some (⟨a0.ID, x2194⟩ : D_api_Record)
def post99 (r : D_api_Record) (u : Value) (rw : List Row) (fs : List Fact) : Prop := ∃ (s2223 : Value) (n : Nat) (i : List Value), u = .agg #[.int .i64 r.ID, s2223] ∧ rw = [⟨s2223, 69, 4, n, i⟩] ∧ fs = [(ty69.row r.Fields i), (pureF (r.Fields.length * ty69.bytes ≤ 140737488355328)), ((Ty.int .i64).fact r.ID [.int .i64 r.ID])]
theorem en99 : Enters Tryz.prog 99 := ⟨_, Tryz.func99, by kernel_rfl, rfl⟩
theorem f99_spec {a0 : D_api_Record} {s2182 : Value} {r : D_api_Record} (hr : m99 a0 = some r) : SpecG Tryz.prog 99 [.agg #[.int .i64 a0.ID, s2182]] [] [(ty25.fact a0 [.int .i64 a0.ID, s2182])] (post99 r) := by
 refine specG_start (N := 25) Tryz.func99 (by kernel_rfl) rfl rfl rfl ?_
 intro g hS
 unfold m99 at hr
 refine at_open (A := Unit) 0 rfl (fun _ => True) (fun _ => [((Ty.int .i64).fact a0.ID [.int .i64 a0.ID]), ((Ty.slice ty69).fact a0.Fields [s2182])]) (fun F w h => ⟨(), trivial, ex25 h⟩) (fun _ _ => ?_)
 refine at_inv 0 rfl (fun l2183 => ?_)
 replace l2183 : (-9223372036854775808) ≤ a0.ID ∧ a0.ID ≤ 9223372036854775807 := l2183
 refine s_sr ?_
 refine at_hv rfl ?_
 refine hv_box (cs := [.int .i64 a0.ID, s2182]) rfl rfl rfl (fun b2184 => ?_)
 refine at_hv rfl ?_
 refine hv_alloc (cs := [.int .i64 0, (.slice none 0 0)]) ti25 rfl rfl (fun b2185 => ?_)
 refine s_ntsr ?_
 refine at_lt (lt_fieldAddr 0 rfl fld25_0 rfl) rfl ?_
 refine at_lt (lt_load_box 1 rfl ti3 rfl rfl rfl rfl rfl) rfl ?_
 refine at_lt (lt_build (cs := [.int .i64 a0.ID, (.slice none 0 0)]) rfl ti25 pl25 rfl) rfl ?_
 refine at_hv rfl ?_
 refine hv_alloc (cs := [.int .i64 0, (.slice none 0 0)]) ti25 rfl rfl (fun b2186 => ?_)
 refine at_hv rfl ?_
 refine hv_store_box 0 (cs' := [.int .i64 a0.ID, (.slice none 0 0)]) rfl rfl ti25 rfl rfl rfl rfl rfl ?_
 refine s_nt ?_
 refine at_seq ?_
 refine s_sr ?_
 refine at_lt (lt_fieldAddr 1 rfl fld25_1 rfl) rfl ?_
 refine at_lt (lt_load_box 2 rfl ti23 rfl rfl rfl rfl rfl) rfl ?_
 refine at_inv 1 rfl (fun i2187 => ?_)
 have l2188 := slice_len i2187
 refine at_lt (lt_flen 1 rfl rfl und23) rfl ?_
 refine s_mv rfl ?_
 refine s_nt ?_
 refine at_int .i64 0 (by simp only [lo, hi]; omega) ?_
 refine at_rownew none 69 4 ?_
 refine at_rownil ty69 ?_
 refine at_mkpure (q := (([] : (List D_api_Field)).length * ty69.bytes ≤ 140737488355328)) (by simp only [List.nil_append, List.cons_append, List.length_cons, List.length_nil, ty69_bytes] <;> omega) ?_
 replace hr := obind hr
 obtain ⟨x2194, hl2198, hr⟩ := hr
 refine at_cut (V := Value × Nat × (List Value)) (fun e => (⟨[(2, .pointer (some (Addr.add ⟨b2185, 0, none⟩ 0))), (3, .pointer (some (Addr.add ⟨b2186, 0, none⟩ 0)))], [⟨b2186, [.int .i64 a0.ID, e.1], 25⟩, ⟨b2185, [.int .i64 0, (.slice none 0 0)], 25⟩], [⟨e.1, 69, 4, e.2.1, e.2.2⟩], [(ty69.row x2194 e.2.2), (pureF (x2194.length * ty69.bytes ≤ 140737488355328)), ((Ty.int .i64).fact a0.ID [.int .i64 a0.ID])]⟩ : St)) ?_ ?_
 ·refine at_block ?_
  refine at_loopW (σ := (Nat × (List D_api_Field))) (V := Value × Nat × (List Value)) (r := x2194) (fun n s => m99_l1 a0 n s.1 s.2) (fun s e => (⟨[(2, .pointer (some (Addr.add ⟨b2185, 0, none⟩ 0))), (3, .pointer (some (Addr.add ⟨b2186, 0, none⟩ 0))), (10, s2182), (11, .int .i64 (a0.Fields.length : Int)), (12, .int .i64 (s.1 : Int))], [⟨b2186, [.int .i64 a0.ID, e.1], 25⟩, ⟨b2185, [.int .i64 0, (.slice none 0 0)], 25⟩], [⟨e.1, 69, 4, e.2.1, e.2.2⟩], [((Ty.int .i64).fact (s.1 : Int) [.int .i64 (s.1 : Int)]), (ty69.row s.2 e.2.2), (pureF (s.2.length * ty69.bytes ≤ 140737488355328)), ((Ty.slice ty69).fact a0.Fields [s2182]), ((Ty.int .i64).fact a0.ID [.int .i64 a0.ID])]⟩ : St)) (fun _ => rfl) _ (0, ([] : (List D_api_Field))) ((.slice none 0 0), 0, []) hl2198 ⟨⟨rfl, ⟨rfl, ⟨rfl, ⟨rfl, ⟨rfl, trivial⟩⟩⟩⟩⟩, ⟨[true, true, false], rfl⟩, ⟨[true], rfl⟩, ⟨[2, 1, 0, 4, 3], rfl⟩⟩ ?_
  clear hr hl2198
  intro n s hr e
  obtain ⟨x2189, x2190⟩ := s
  obtain ⟨v2191, n2192, i2193⟩ := e
  change m99_l1 a0 (n + 1) x2189 x2190 = some x2194 at hr
  change At _ _ (⟨[(2, .pointer (some (Addr.add ⟨b2185, 0, none⟩ 0))), (3, .pointer (some (Addr.add ⟨b2186, 0, none⟩ 0))), (10, s2182), (11, .int .i64 (a0.Fields.length : Int)), (12, .int .i64 (x2189 : Int))], [⟨b2186, [.int .i64 a0.ID, v2191], 25⟩, ⟨b2185, [.int .i64 0, (.slice none 0 0)], 25⟩], [⟨v2191, 69, 4, n2192, i2193⟩], [((Ty.int .i64).fact (x2189 : Int) [.int .i64 (x2189 : Int)]), (ty69.row x2190 i2193), (pureF (x2190.length * ty69.bytes ≤ 140737488355328)), ((Ty.slice ty69).fact a0.Fields [s2182]), ((Ty.int .i64).fact a0.ID [.int .i64 a0.ID])]⟩ : St) _
  rw [m99_l1] at hr
  refine s_sr ?_
  refine at_lt (lt_lss rfl rfl) rfl ?_
  refine s_nt ?_
  refine at_seq ?_
  by_cases h2200 : x2189 < a0.Fields.length
  ·replace hr := ipos h2200 hr
   refine at_true rfl (decide_eq_true (by omega)) ?_
   refine at_skip ?_
   refine at_then ?_
   refine at_seq ?_
   refine at_block ?_
   refine s_sr ?_
   replace hr := obind hr
   obtain ⟨x2201, h2202, hr⟩ := hr
   have := (List.getElem?_eq_some_iff.1 h2202).1
   refine at_elem 3 rfl (nat_at' h2202) (fun p2204 ec pa2205 => ?_)
   refine at_open (A := Value) 0 rfl _ _ (fun F w h => op69 h) ?_
   rintro s2203 rfl
   refine at_lt (lt_idx rfl rfl pa2205 und23 ti69) rfl ?_
   refine at_lt (lt_load_peek 3 rfl ti69 rfl rfl rfl rfl rfl) rfl ?_
   refine at_hv rfl ?_
   refine hv_alloc (cs := [str ([] : Str), .int .u8 0, .int .u8 0, (.slice none 0 0)]) ti69 rfl rfl (fun b2206 => ?_)
   refine at_one 1 rfl (fun ho2207 => ?_)
   refine at_hv rfl ?_
   refine hv_store_box 0 (cs' := [str x2201.Tag, .int .u8 (x2201.Ind_0.toNat : Int), .int .u8 (x2201.Ind_1.toNat : Int), s2203]) rfl rfl ti69 rfl rfl rfl rfl (allc rfl (allc rfl (allc rfl (allc ho2207 rfl)))) ?_
   refine s_nt ?_
   replace hr := obind hr
   obtain ⟨x2208, h2209, hr⟩ := hr
   replace hr := imust hr
   obtain ⟨h2212, hr⟩ := hr
   refine aa_start 7 (by kernel_rfl) ?_
   refine aa_p 0 rfl (lt_fieldAddr 1 rfl fld25_1 rfl) ?_
   refine aa_l 1 rfl (lt_load_box 1 rfl ti23 rfl rfl rfl rfl rfl) ?_
   refine aa_l 2 rfl (lt_load_box 0 rfl ti69 rfl rfl rfl rfl rfl) ?_
   refine aa_one 3 ?_
   refine at_derive [0, 1] (ty69.fact (⟨x2201.Tag, x2201.Ind_0, x2201.Ind_1, x2201.Subs⟩ : D_api_Field) [str x2201.Tag, .int .u8 (x2201.Ind_0.toNat : Int), .int .u8 (x2201.Ind_1.toNat : Int), s2203]) rfl (fun F w h => mk69 (x := (⟨x2201.Tag, x2201.Ind_0, x2201.Ind_1, x2201.Subs⟩ : D_api_Field)) h) ?_
   refine aa_op rfl rfl ?_
   refine hv_call0 [0] (f123_spec h2209) rfl rfl rfl rfl ?_
   rintro _ _ ⟨s2210, rfl, rfl⟩
   refine at_open (A := Unit) 0 rfl (fun _ => True) (fun _ => [(Ty.str.fact x2208.Tag [str x2208.Tag]), ((Ty.slice ty66).fact x2208.Subs [s2210])]) (fun F w h => ⟨(), trivial, ex69 h⟩) (fun _ _ => ?_)
   refine aa_all (rs := [4]) (by kernel_rfl) rfl (ts_in 0 4 rfl rfl) (List.forall_mem_singleton.2 ?_)
   refine aa_op rfl rfl ?_
   refine hv_bslice (cs := [str x2208.Tag, .int .u8 (x2208.Ind_0.toNat : Int), .int .u8 (x2208.Ind_1.toNat : Int), s2210]) rfl und23 ti69 rfl rfl rfl rfl rfl (fun s2217 => ?_)
   refine aa_all (rs := [5]) (by kernel_rfl) rfl (ts_in 0 4 rfl rfl) (List.forall_mem_singleton.2 ?_)
   refine at_rown 1 9 rfl rfl rfl (fun hn2219 => ?_)
   refine at_one 1 rfl (fun ho2220 => ?_)
   refine aa_op rfl rfl ?_
   refine hv_append 1 0 rfl rfl rfl rfl und23 ti69 rfl rfl (allc rfl (allc rfl (allc rfl (allc ho2220 rfl)))) (by omega) (by omega) rfl (fun s2218 => ?_)
   refine at_rowsnoc 9 2 rfl rfl ?_
   refine aa_pure 6 rfl (by kernel_rfl) rfl rfl (lt_fieldAddr 1 rfl fld25_1 rfl) rfl (ts_in 0 5 rfl rfl) ?_
   refine aa_all (rs := [7]) (by kernel_rfl) rfl (ts_in 0 5 rfl rfl) (List.forall_mem_singleton.2 ?_)
   refine at_rowv 1 rfl (fun ho2221 => ?_)
   replace ho2221 := row_one (by obtain ⟨a, c, h⟩ := ho2221; exact ⟨a, _, c, h⟩)
   refine aa_op rfl rfl ?_
   refine hv_store1 1 (cs' := [.int .i64 a0.ID, s2218]) rfl rfl ti23 rfl rfl rfl rfl ho2221 ?_
   refine aa_done (by kernel_rfl) (ts_out rfl) ?_
   refine at_in ?_
   refine s_tr ?_
   refine at_lt (lt_add rfl rfl (by simp only [lo, hi]; omega)) rfl ?_
   refine s_mv rfl ?_
   refine at_nil ?_
   refine at_int .i64 (x2189 + 1 : Int) (by simp only [lo, hi]; omega) ?_
   refine at_mkpure (q := ((x2190 ++ [x2208]).length * ty69.bytes ≤ 140737488355328)) (by simp only [List.length_append, List.length_cons, List.length_nil, ty69_bytes] <;> omega) ?_
   exact at_again (σ := (Nat × (List D_api_Field))) (V := Value × Nat × (List Value)) (lp := fun n s => m99_l1 a0 n s.1 s.2) (S := fun s e => (⟨[(2, .pointer (some (Addr.add ⟨b2185, 0, none⟩ 0))), (3, .pointer (some (Addr.add ⟨b2186, 0, none⟩ 0))), (10, s2182), (11, .int .i64 (a0.Fields.length : Int)), (12, .int .i64 (s.1 : Int))], [⟨b2186, [.int .i64 a0.ID, e.1], 25⟩, ⟨b2185, [.int .i64 0, (.slice none 0 0)], 25⟩], [⟨e.1, 69, 4, e.2.1, e.2.2⟩], [((Ty.int .i64).fact (s.1 : Int) [.int .i64 (s.1 : Int)]), (ty69.row s.2 e.2.2), (pureF (s.2.length * ty69.bytes ≤ 140737488355328)), ((Ty.slice ty69).fact a0.Fields [s2182]), ((Ty.int .i64).fact a0.ID [.int .i64 a0.ID])]⟩ : St)) (x2189 + 1, x2190 ++ [x2208]) (s2218, n2192 + 1, i2193 ++ [str x2208.Tag, .int .u8 (x2208.Ind_0.toNat : Int), .int .u8 (x2208.Ind_1.toNat : Int), s2210]) hr ⟨⟨rfl, ⟨rfl, ⟨rfl, ⟨rfl, ⟨rfl, trivial⟩⟩⟩⟩⟩, ⟨[false, true, true], rfl⟩, ⟨[false, true], rfl⟩, ⟨[1, 2, 0, 14, 15], rfl⟩⟩
  replace hr := ineg h2200 hr
  refine at_false rfl (decide_eq_false (by omega)) ?_
  refine at_exit ?_
  refine at_then_exit ?_
  refine at_then_exit ?_
  refine at_in_exit ?_
  have hq := oinj hr
  clear hr
  subst hq
  exact at_leaf (v2191, n2192, i2193) ⟨⟨rfl, ⟨rfl, trivial⟩⟩, ⟨[true, true], rfl⟩, ⟨[true], rfl⟩, ⟨[1, 2, 4], rfl⟩⟩
 clear hl2198
 intro e
 obtain ⟨v2195, n2196, i2197⟩ := e
 change At _ _ (⟨[(2, .pointer (some (Addr.add ⟨b2185, 0, none⟩ 0))), (3, .pointer (some (Addr.add ⟨b2186, 0, none⟩ 0)))], [⟨b2186, [.int .i64 a0.ID, v2195], 25⟩, ⟨b2185, [.int .i64 0, (.slice none 0 0)], 25⟩], [⟨v2195, 69, 4, n2196, i2197⟩], [(ty69.row x2194 i2197), (pureF (x2194.length * ty69.bytes ≤ 140737488355328)), ((Ty.int .i64).fact a0.ID [.int .i64 a0.ID])]⟩ : St) _
 refine s_tsr ?_
 refine at_lt (lt_load_box 0 rfl ti25 rfl rfl rfl rfl rfl) rfl ?_
 refine at_rowv 0 rfl (fun ho2222 => ?_)
 replace ho2222 := row_one (by obtain ⟨a, c, h⟩ := ho2222; exact ⟨a, _, c, h⟩)
 refine at_hv rfl ?_
 refine hv_store_box 1 (cs' := [.int .i64 a0.ID, v2195]) rfl rfl ti25 rfl rfl rfl rfl (allc rfl (allc ho2222 rfl)) ?_
 refine s_nt ?_
 refine at_ret ?_
 have hq := oinj hr
 clear hr
 subst hq
 exact at_returnG (.agg #[.int .i64 a0.ID, v2195]) [true] [0, 1, 2] hS Tryz.results99 (.cons (.cell 1 rfl ti25 rfl rfl rfl rfl) .nil) rfl rfl rfl ⟨_, _, _, rfl, rfl, rfl⟩
/-! 158 internal/bytealg.abigen_runtime_cmpstring -/
def m158 (a0 : Str) (a1 : Str) : Option Int := some (Lib.compareBytes a0 a1)
theorem f158_specX {a0 : Str} {a1 : Str} {r : Int} (hr : m158 a0 a1 = some r) : SpecX Tryz.prog 158 [str a0, str a1] (postInt r) := by
 unfold m158 at hr
 have hq := oinj hr
 subst hq
 exact ext_compare Tryz.func158 (by kernel_rfl) (by kernel_rfl) rfl rfl

/-! 124 internal/bytealg.CompareString -/
def m124 (a0 : Str) (a1 : Str) : Option Int :=
  (m158 a0 a1).bind fun x2224 =>
  some x2224
def post124 (r : Int) (v : Value) (fs : List Fact) : Prop := v = .int .i64 r ∧ fs = [((Ty.int .i64).fact r [.int .i64 r])]
theorem en124 : Enters Tryz.prog 124 := ⟨_, Tryz.func124, by kernel_rfl, rfl⟩
theorem f124_spec {a0 : Str} {a1 : Str} {r : Int} (hr : m124 a0 a1 = some r) : Spec Tryz.prog 124 [str a0, str a1] [(Ty.str.fact a0 [str a0]), (Ty.str.fact a1 [str a1])] (post124 r) := by
 refine spec_start (N := 8) Tryz.func124 (by kernel_rfl) rfl rfl rfl ?_
 intro g hS
 unfold m124 at hr
 refine s_sr ?_
 refine s_as rfl ?_
 refine s_ntsr ?_
 refine s_mv rfl ?_
 refine s_mv rfl ?_
 replace hr := obind hr
 obtain ⟨x2224, h2225, hr⟩ := hr
 refine at_hv rfl ?_
 refine hv_callx (f158_specX h2225) rfl rfl rfl ?_
 rintro _ _ ⟨rfl, rfl⟩
 refine at_inv 0 rfl (fun l2226 => ?_)
 replace l2226 : (-9223372036854775808) ≤ x2224 ∧ x2224 ≤ 9223372036854775807 := l2226
 refine s_as rfl ?_
 refine s_nt ?_
 refine at_ret ?_
 have hq := oinj hr
 clear hr
 subst hq
 exact at_return (.int .i64 x2224) [0] hS Tryz.results124 (.cons (.tmp rfl) .nil) rfl rfl ⟨rfl, rfl⟩
/-! 101 strings.Compare -/
def m101 (a0 : Str) (a1 : Str) : Option Int :=
  (m124 a0 a1).bind fun x2227 =>
  some x2227
def post101 (r : Int) (v : Value) (fs : List Fact) : Prop := v = .int .i64 r ∧ fs = [((Ty.int .i64).fact r [.int .i64 r])]
theorem en101 : Enters Tryz.prog 101 := ⟨_, Tryz.func101, by kernel_rfl, rfl⟩
theorem f101_spec {a0 : Str} {a1 : Str} {r : Int} (hr : m101 a0 a1 = some r) : Spec Tryz.prog 101 [str a0, str a1] [(Ty.str.fact a0 [str a0]), (Ty.str.fact a1 [str a1])] (post101 r) := by
 refine spec_start (N := 8) Tryz.func101 (by kernel_rfl) rfl rfl rfl ?_
 intro g hS
 unfold m101 at hr
 refine s_sr ?_
 refine s_as rfl ?_
 refine s_ntsr ?_
 refine s_mv rfl ?_
 refine s_mv rfl ?_
 replace hr := obind hr
 obtain ⟨x2227, h2228, hr⟩ := hr
 refine at_hv rfl ?_
 refine hv_call0 [0, 1] (f124_spec h2228) rfl rfl rfl rfl ?_
 rintro _ _ ⟨rfl, rfl⟩
 refine at_inv 0 rfl (fun l2229 => ?_)
 replace l2229 : (-9223372036854775808) ≤ x2227 ∧ x2227 ≤ 9223372036854775807 := l2229
 refine s_as rfl ?_
 refine s_nt ?_
 refine at_ret ?_
 have hq := oinj hr
 clear hr
 subst hq
 exact at_return (.int .i64 x2227) [0] hS Tryz.results101 (.cons (.tmp rfl) .nil) rfl rfl ⟨rfl, rfl⟩
/-! 100 bookplate/record.Canonical$1 -/
def m100 (a0 : D_api_Field) (a1 : D_api_Field) : Option Int :=
  (m101 a0.Tag a1.Tag).bind fun x2234 =>
  some x2234
def post100 (r : Int) (v : Value) (fs : List Fact) : Prop := v = .int .i64 r ∧ fs = [((Ty.int .i64).fact r [.int .i64 r])]
theorem en100 : Enters Tryz.prog 100 := ⟨_, Tryz.func100, by kernel_rfl, rfl⟩
theorem f100_spec {a0 : D_api_Field} {a1 : D_api_Field} {s2230 : Value} {s2231 : Value} {r : Int} (hr : m100 a0 a1 = some r) : Spec Tryz.prog 100 [.agg #[str a0.Tag, .int .u8 (a0.Ind_0.toNat : Int), .int .u8 (a0.Ind_1.toNat : Int), s2230], .agg #[str a1.Tag, .int .u8 (a1.Ind_0.toNat : Int), .int .u8 (a1.Ind_1.toNat : Int), s2231]] [(ty69.fact a0 [str a0.Tag, .int .u8 (a0.Ind_0.toNat : Int), .int .u8 (a0.Ind_1.toNat : Int), s2230]), (ty69.fact a1 [str a1.Tag, .int .u8 (a1.Ind_0.toNat : Int), .int .u8 (a1.Ind_1.toNat : Int), s2231])] (post100 r) := by
 refine spec_start (N := 10) Tryz.func100 (by kernel_rfl) rfl rfl rfl ?_
 intro g hS
 unfold m100 at hr
 refine at_open (A := Unit) 0 rfl (fun _ => True) (fun _ => [(Ty.str.fact a0.Tag [str a0.Tag]), ((Ty.slice ty66).fact a0.Subs [s2230])]) (fun F w h => ⟨(), trivial, ex69 h⟩) (fun _ _ => ?_)
 refine at_open (A := Unit) 3 rfl (fun _ => True) (fun _ => [(Ty.str.fact a1.Tag [str a1.Tag]), ((Ty.slice ty66).fact a1.Subs [s2231])]) (fun F w h => ⟨(), trivial, ex69 h⟩) (fun _ _ => ?_)
 refine s_sr ?_
 refine at_hv rfl ?_
 refine hv_box (cs := [str a0.Tag, .int .u8 (a0.Ind_0.toNat : Int), .int .u8 (a0.Ind_1.toNat : Int), s2230]) rfl rfl rfl (fun b2232 => ?_)
 refine at_hv rfl ?_
 refine hv_box (cs := [str a1.Tag, .int .u8 (a1.Ind_0.toNat : Int), .int .u8 (a1.Ind_1.toNat : Int), s2231]) rfl rfl rfl (fun b2233 => ?_)
 refine s_as rfl ?_
 refine s_ntsr ?_
 refine at_lt (lt_fieldAddr 0 rfl fld69_0 rfl) rfl ?_
 refine at_lt (lt_load_box 1 rfl ti9 rfl rfl rfl rfl rfl) rfl ?_
 refine at_lt (lt_fieldAddr 0 rfl fld69_0 rfl) rfl ?_
 refine at_lt (lt_load_box 0 rfl ti9 rfl rfl rfl rfl rfl) rfl ?_
 replace hr := obind hr
 obtain ⟨x2234, h2235, hr⟩ := hr
 refine at_hv rfl ?_
 refine hv_call0 [2, 0] (f101_spec h2235) rfl rfl rfl rfl ?_
 rintro _ _ ⟨rfl, rfl⟩
 refine at_inv 0 rfl (fun l2236 => ?_)
 replace l2236 : (-9223372036854775808) ≤ x2234 ∧ x2234 ≤ 9223372036854775807 := l2236
 refine s_as rfl ?_
 refine s_nt ?_
 refine at_ret ?_
 have hq := oinj hr
 clear hr
 subst hq
 exact at_return (.int .i64 x2234) [0] hS Tryz.results100 (.cons (.tmp rfl) .nil) rfl rfl ⟨rfl, rfl⟩
/-! 61 bookplate/record.Canonical -/
def m61 (a0 : D_api_Record) : Option D_api_Record :=
  (m99 (⟨a0.ID, a0.Fields⟩ : D_api_Record)).bind fun x2241 =>
  (m76 x2241.Fields m100).bind fun x2249 =>
  some (⟨x2241.ID, x2249⟩ : D_api_Record)
def post61 (r : D_api_Record) (v : Value) (fs : List Fact) : Prop := ∃ s2256 : Value, v = .agg #[.int .i64 r.ID, s2256] ∧ fs = [(ty25.fact r [.int .i64 r.ID, s2256])]
theorem en61 : Enters Tryz.prog 61 := ⟨_, Tryz.func61, by kernel_rfl, rfl⟩
theorem f61_spec {a0 : D_api_Record} {s2237 : Value} {r : D_api_Record} (hr : m61 a0 = some r) : Spec Tryz.prog 61 [.agg #[.int .i64 a0.ID, s2237]] [(ty25.fact a0 [.int .i64 a0.ID, s2237])] (post61 r) := by
 refine spec_start (N := 10) Tryz.func61 (by kernel_rfl) rfl rfl rfl ?_
 intro g hS
 unfold m61 at hr
 refine at_open (A := Unit) 0 rfl (fun _ => True) (fun _ => [((Ty.int .i64).fact a0.ID [.int .i64 a0.ID]), ((Ty.slice ty69).fact a0.Fields [s2237])]) (fun F w h => ⟨(), trivial, ex25 h⟩) (fun _ _ => ?_)
 refine at_inv 0 rfl (fun l2238 => ?_)
 replace l2238 : (-9223372036854775808) ≤ a0.ID ∧ a0.ID ≤ 9223372036854775807 := l2238
 refine s_sr ?_
 refine at_hv rfl ?_
 refine hv_box (cs := [.int .i64 a0.ID, s2237]) rfl rfl rfl (fun b2239 => ?_)
 refine at_hv rfl ?_
 refine hv_alloc (cs := [.int .i64 0, (.slice none 0 0)]) ti25 rfl rfl (fun b2240 => ?_)
 refine s_ntsr ?_
 refine at_lt (lt_load_box 1 rfl ti25 rfl rfl rfl rfl rfl) rfl ?_
 replace hr := obind hr
 obtain ⟨x2241, h2242, hr⟩ := hr
 refine at_derive [0, 1] (ty25.fact (⟨a0.ID, a0.Fields⟩ : D_api_Record) [.int .i64 a0.ID, s2237]) rfl (fun F w h => mk25 (x := (⟨a0.ID, a0.Fields⟩ : D_api_Record)) h) ?_
 refine at_hv rfl ?_
 refine hv_callG0 [] [0] (f99_spec h2242) rfl rfl rfl rfl rfl rfl ?_
 rintro _ _ _ ⟨s2243, n2244, i2245, rfl, rfl, rfl⟩
 refine at_inv 2 rfl (fun l2246 => ?_)
 replace l2246 : (-9223372036854775808) ≤ x2241.ID ∧ x2241.ID ≤ 9223372036854775807 := l2246
 refine at_hv rfl ?_
 refine hv_alloc (cs := [.int .i64 0, (.slice none 0 0)]) ti25 rfl rfl (fun b2247 => ?_)
 refine at_rowv 0 rfl (fun ho2248 => ?_)
 replace ho2248 := row_one (by obtain ⟨a, c, h⟩ := ho2248; exact ⟨a, _, c, h⟩)
 refine at_hv rfl ?_
 refine hv_store_box 0 (cs' := [.int .i64 x2241.ID, s2243]) rfl rfl ti25 rfl rfl rfl rfl (allc rfl (allc ho2248 rfl)) ?_
 refine s_ntsr ?_
 refine at_lt (lt_fieldAddr 1 rfl fld25_1 rfl) rfl ?_
 refine at_lt (lt_load_box 0 rfl ti23 rfl rfl rfl rfl rfl) rfl ?_
 replace hr := obind hr
 obtain ⟨x2249, h2250, hr⟩ := hr
 refine at_fn 100 [] [] (sp116 m100) en100 rfl (by rintro _ _ _ ⟨a0, a1, r, s2251, s2252, h, rfl, rfl, rfl⟩; exact f100_spec h) ?_
 refine at_pure 2 rfl (fun hb2253 => ?_)
 refine at_hv rfl ?_
 refine hv_callG0 [true] [1, 2, 0] (f76_spec h2250) rfl rfl rfl rfl rfl rfl ?_
 rintro _ _ _ ⟨rfl, i2254, rfl, rfl⟩
 refine s_ntsr ?_
 refine at_lt (lt_load_box 0 rfl ti25 rfl rfl rfl rfl rfl) rfl ?_
 refine at_hv rfl ?_
 refine hv_store_box 1 (cs' := [.int .i64 x2241.ID, s2243]) rfl rfl ti25 rfl rfl rfl rfl (allc rfl (allc ho2248 rfl)) ?_
 refine s_nt ?_
 refine at_ret ?_
 have hq := oinj hr
 clear hr
 subst hq
 refine at_pure 1 rfl (fun hb2255 => ?_)
 refine at_release 0 0 rfl rfl rfl hb2255 ?_
 refine at_derive [6, 0] (ty25.fact (⟨x2241.ID, x2249⟩ : D_api_Record) [.int .i64 x2241.ID, s2243]) rfl (fun F w h => mk25 (x := (⟨x2241.ID, x2249⟩ : D_api_Record)) h) ?_
 exact at_return (.agg #[.int .i64 x2241.ID, s2243]) [0] hS Tryz.results61 (.cons (.cell 1 rfl ti25 rfl rfl rfl rfl) .nil) rfl rfl ⟨s2243, rfl, rfl⟩
/-! 63 bookplate/crosswalk.Covers$1 -/
def m63 (a0 : D_api_Sub) (c0 : D_crosswalk_Entry) : Option Bool :=
  (m44 c0 a0.Code).bind fun x2260 =>
  some (!x2260.2)
def post63 (r : Bool) (v : Value) (fs : List Fact) : Prop := v = .bool r ∧ fs = []
theorem en63 : Enters Tryz.prog 63 := ⟨_, Tryz.func63, by kernel_rfl, rfl⟩
theorem f63_spec {a0 : D_api_Sub} {c0 : D_crosswalk_Entry} {b2257 : Nat} {s2258 : Value} {r : Bool} (hr : m63 a0 c0 = some r) : Spec Tryz.prog 63 [.agg #[.int .u8 (a0.Code.toNat : Int), str a0.Value], .pointer (some (Addr.add ⟨b2257, 0, none⟩ 0))] [(ty66.fact a0 [.int .u8 (a0.Code.toNat : Int), str a0.Value]), (peek ⟨b2257, 0, none⟩ [str c0.From, str c0.To, s2258]), (ty76.fact c0 [str c0.From, str c0.To, s2258])] (post63 r) := by
 refine spec_start (N := 15) Tryz.func63 (by kernel_rfl) rfl rfl rfl ?_
 intro g hS
 unfold m63 at hr
 refine at_open (A := Unit) 0 rfl (fun _ => True) (fun _ => [(Ty.str.fact a0.Value [str a0.Value])]) (fun F w h => ⟨(), trivial, ex66 h⟩) (fun _ _ => ?_)
 refine at_open (A := Unit) 3 rfl (fun _ => True) (fun _ => [(Ty.str.fact c0.From [str c0.From]), (Ty.str.fact c0.To [str c0.To]), ((Ty.slice ty82).fact c0.Codes [s2258])]) (fun F w h => ⟨(), trivial, ex76 h⟩) (fun _ _ => ?_)
 refine s_sr ?_
 refine at_hv rfl ?_
 refine hv_box (cs := [.int .u8 (a0.Code.toNat : Int), str a0.Value]) rfl rfl rfl (fun b2259 => ?_)
 refine s_as rfl ?_
 refine s_ntsr ?_
 refine at_lt (lt_load_peek 5 rfl ti76 rfl rfl rfl rfl rfl) rfl ?_
 refine at_lt (lt_fieldAddr 0 rfl fld66_0 rfl) rfl ?_
 refine at_lt (lt_load_box 0 rfl ti5 rfl rfl rfl rfl rfl) rfl ?_
 replace hr := obind hr
 obtain ⟨x2260, h2261, hr⟩ := hr
 refine at_hv rfl ?_
 refine hv_call0 [6] (f44_spec h2261) rfl rfl rfl rfl ?_
 rintro _ _ ⟨rfl, rfl⟩
 refine s_mv rfl ?_
 refine at_lt (lt_extract rfl rfl) rfl ?_
 refine at_lt (lt_extract rfl rfl) rfl ?_
 refine s_as rfl ?_
 refine s_as rfl ?_
 refine s_ntsr ?_
 refine s_mv rfl ?_
 refine at_lt (lt_not rfl) rfl ?_
 refine s_as rfl ?_
 refine s_nt ?_
 refine at_ret ?_
 have hq := oinj hr
 clear hr
 subst hq
 exact at_return (.bool (!x2260.2)) [] hS Tryz.results63 (.cons (.tmp rfl) .nil) rfl rfl ⟨rfl, rfl⟩
/-! 30 bookplate/crosswalk.Covers -/
def m30_l1 (a0 : (List D_crosswalk_Entry)) (a1 : D_api_Record) : Nat → Nat → Option (Fl Bool Unit)
  | 0, _ => none
  | k + 1, x2282 =>
    if x2282 < a1.Fields.length then
     (a1.Fields[x2282]?).bind fun x2287 =>
     (m43 a0 x2287.Tag).bind fun x2294 =>
     if x2294.2 = true then
      (m62 x2287.Subs (fun y0 => m63 y0 (⟨x2294.1.From, x2294.1.To, x2294.1.Codes⟩ : D_crosswalk_Entry))).bind fun x2300 =>
      if x2300 = true then
       some (Fl.ret false)
      else
       m30_l1 a0 a1 k (x2282 + 1)
     else
      some (Fl.ret false)
    else
     some (Fl.go ())
def m30 (a0 : (List D_crosswalk_Entry)) (a1 : D_api_Record) : Option Bool :=
  (m27 a0).bind fun x2266 =>
  if x2266 = true then
   (m59 (⟨a1.ID, a1.Fields⟩ : D_api_Record)).bind fun x2269 =>
   if x2269 = true then
    (m61 (⟨a1.ID, a1.Fields⟩ : D_api_Record)).bind fun x2272 =>
    (m60 x2272 (⟨a1.ID, a1.Fields⟩ : D_api_Record)).bind fun x2276 =>
    if x2276 = true then
     (m30_l1 a0 a1 (a1.Fields.length + 1) 0).bind fun r => match r with
     | .ret x => some x
     | .go _ =>
      some true
    else
     some false
   else
    some false
  else
   some false
def post30 (r : Bool) (v : Value) (fs : List Fact) : Prop := v = .bool r ∧ fs = []
theorem en30 : Enters Tryz.prog 30 := ⟨_, Tryz.func30, by kernel_rfl, rfl⟩
theorem f30_spec {a0 : (List D_crosswalk_Entry)} {a1 : D_api_Record} {w2262 : Value} {s2263 : Value} {r : Bool} (hr : m30 a0 a1 = some r) : Spec Tryz.prog 30 [w2262, .agg #[.int .i64 a1.ID, s2263]] [((Ty.slice ty76).fact a0 [w2262]), (ty25.fact a1 [.int .i64 a1.ID, s2263]), (utf8F 1 2)] (post30 r) := by
 refine spec_start (N := 47) Tryz.func30 (by kernel_rfl) rfl rfl rfl ?_
 intro g hS
 unfold m30 at hr
 refine at_open (A := Unit) 1 rfl (fun _ => True) (fun _ => [((Ty.int .i64).fact a1.ID [.int .i64 a1.ID]), ((Ty.slice ty69).fact a1.Fields [s2263])]) (fun F w h => ⟨(), trivial, ex25 h⟩) (fun _ _ => ?_)
 refine at_inv 0 rfl (fun l2264 => ?_)
 replace l2264 : (-9223372036854775808) ≤ a1.ID ∧ a1.ID ≤ 9223372036854775807 := l2264
 refine s_sr ?_
 refine at_hv rfl ?_
 refine hv_box (cs := [.int .i64 a1.ID, s2263]) rfl rfl rfl (fun b2265 => ?_)
 refine s_as rfl ?_
 refine s_nt ?_
 refine at_seq ?_
 refine at_seq ?_
 replace hr := obind hr
 obtain ⟨x2266, h2267, hr⟩ := hr
 by_cases h2268 : x2266 = true
 ·replace hr := ipos h2268 hr
  replace hr := obind hr
  obtain ⟨x2269, h2270, hr⟩ := hr
  by_cases h2271 : x2269 = true
  ·replace hr := ipos h2271 hr
   replace hr := obind hr
   obtain ⟨x2272, h2273, hr⟩ := hr
   replace hr := obind hr
   obtain ⟨x2276, h2277, hr⟩ := hr
   refine aa_start 15 (by kernel_rfl) ?_
   refine aa_p 0 rfl (lt_move rfl) ?_
   refine aa_one 1 ?_
   refine aa_op rfl rfl ?_
   refine hv_call0 [2] (f27_spec h2267) rfl rfl rfl rfl ?_
   rintro _ _ ⟨rfl, rfl⟩
   refine aa_p 2 rfl (lt_not rfl) ?_
   refine aa_p 3 rfl (lt_move rfl) ?_
   refine aa_lg 4 rfl ⟨12, rfl, .inl ⟨_, rfl, gdq (v := false) (nt h2268) rfl⟩⟩ (lt_load_box 0 rfl ti25 rfl rfl rfl rfl rfl) ?_
   refine aa_one 5 ?_
   refine at_derive [0, 1] (ty25.fact (⟨a1.ID, a1.Fields⟩ : D_api_Record) [.int .i64 a1.ID, s2263]) rfl (fun F w h => mk25 (x := (⟨a1.ID, a1.Fields⟩ : D_api_Record)) h) ?_
   refine aa_op rfl ⟨12, rfl, .inl ⟨_, rfl, gdq (v := false) (nt h2268) rfl⟩⟩ ?_
   refine hv_call0 [0, 5] (f59_spec h2270) rfl rfl rfl rfl ?_
   rintro _ _ ⟨rfl, rfl⟩
   refine aa_pure 6 rfl (by kernel_rfl) rfl ⟨12, rfl, .inl ⟨_, rfl, gdq (v := false) (nt h2268) rfl⟩⟩ (lt_not rfl) rfl (ts_in 0 1 rfl rfl) ?_
   refine aa_pure 7 rfl (by kernel_rfl) rfl rfl (lt_pick false rfl (nt h2268) rfl) rfl (ts_in 0 1 rfl rfl) ?_
   refine aa_pure 8 rfl (by kernel_rfl) rfl rfl (lt_move rfl) rfl (ts_in 0 1 rfl rfl) ?_
   refine aa_load 9 rfl (by kernel_rfl) rfl ⟨17, rfl, .inl ⟨_, rfl, gdq (v := false) (nt h2271) rfl⟩⟩ (lt_load_box 0 rfl ti25 rfl rfl rfl rfl rfl) rfl (ts_in 0 1 rfl rfl) ?_
   refine aa_load 11 rfl (by kernel_rfl) rfl ⟨17, rfl, .inl ⟨_, rfl, gdq (v := false) (nt h2271) rfl⟩⟩ (lt_load_box 0 rfl ti25 rfl rfl rfl rfl rfl) rfl (ts_in 0 1 rfl rfl) ?_
   refine aa_all (rs := [10]) (by kernel_rfl) rfl (ts_in 0 1 rfl rfl) (List.forall_mem_singleton.2 ?_)
   refine aa_op rfl ⟨17, rfl, .inl ⟨_, rfl, gdq (v := false) (nt h2271) rfl⟩⟩ ?_
   refine hv_call0 [0] (f61_spec h2273) rfl rfl rfl rfl ?_
   rintro _ _ ⟨s2274, rfl, rfl⟩
   refine at_open (A := Unit) 0 rfl (fun _ => True) (fun _ => [((Ty.int .i64).fact x2272.ID [.int .i64 x2272.ID]), ((Ty.slice ty69).fact x2272.Fields [s2274])]) (fun F w h => ⟨(), trivial, ex25 h⟩) (fun _ _ => ?_)
   refine at_inv 0 rfl (fun l2278 => ?_)
   replace l2278 : (-9223372036854775808) ≤ x2272.ID ∧ x2272.ID ≤ 9223372036854775807 := l2278
   refine aa_all (rs := [12]) (by kernel_rfl) rfl (ts_in 0 4 rfl rfl) (List.forall_mem_singleton.2 ?_)
   refine aa_op rfl ⟨17, rfl, .inl ⟨_, rfl, gdq (v := false) (nt h2271) rfl⟩⟩ ?_
   refine hv_call0 [2, 3] (f60_spec h2277) rfl rfl rfl rfl ?_
   rintro _ _ ⟨rfl, rfl⟩
   refine aa_pure 13 rfl (by kernel_rfl) rfl ⟨17, rfl, .inl ⟨_, rfl, gdq (v := false) (nt h2271) rfl⟩⟩ (lt_not rfl) rfl (ts_in 0 4 rfl rfl) ?_
   refine aa_pure 14 rfl (by kernel_rfl) rfl rfl (lt_pick false rfl (nt h2271) rfl) rfl (ts_in 0 4 rfl rfl) ?_
   refine aa_done (by kernel_rfl) (ts_in 0 4 rfl rfl) ?_
   refine at_then ?_
   by_cases h2279 : x2276 = true
   ·replace hr := ipos h2279 hr
    refine at_false rfl (nt h2279) ?_
    refine at_skip ?_
    refine at_then ?_
    refine at_seq ?_
    refine s_sr ?_
    refine at_lt (lt_fieldAddr 1 rfl fld25_1 rfl) rfl ?_
    refine at_lt (lt_load_box 0 rfl ti23 rfl rfl rfl rfl rfl) rfl ?_
    refine at_inv 5 rfl (fun i2280 => ?_)
    have l2281 := slice_len i2280
    refine at_lt (lt_flen 5 rfl rfl und23) rfl ?_
    refine s_mv rfl ?_
    refine s_nt ?_
    refine at_int .i64 0 (by simp only [lo, hi]; omega) ?_
    replace hr := obind hr
    obtain ⟨r2283, hl2284, hk2285⟩ := hr
    refine at_cutP (V := (Unit) × (Unit)) (fun v => r2283 = Fl.go v.1) (fun v => (⟨[], [], [], [(utf8F 1 2)]⟩ : St)) ?_ ?_
    ·refine at_block ?_
     refine at_loopW (σ := Nat) (V := Unit) (r := r2283) (fun n s => m30_l1 a0 a1 n s) (fun s e => (⟨[(0, w2262), (25, s2263), (26, .int .i64 (a1.Fields.length : Int)), (27, .int .i64 (s : Int))], [], [], [((Ty.int .i64).fact (s : Int) [.int .i64 (s : Int)]), ((Ty.slice ty76).fact a0 [w2262]), ((Ty.slice ty69).fact a1.Fields [s2263]), (utf8F 1 2)]⟩ : St)) (fun _ => rfl) _ 0 () hl2284 ⟨⟨rfl, ⟨rfl, ⟨rfl, ⟨rfl, trivial⟩⟩⟩⟩, ⟨[false], rfl⟩, ⟨[], rfl⟩, ⟨[0, 7, 6, 9], rfl⟩⟩ ?_
     clear hl2284
     intro n x2282 hr e
     skip
     skip
     change m30_l1 a0 a1 (n + 1) x2282 = some r2283 at hr
     change At _ _ (⟨[(0, w2262), (25, s2263), (26, .int .i64 (a1.Fields.length : Int)), (27, .int .i64 (x2282 : Int))], [], [], [((Ty.int .i64).fact (x2282 : Int) [.int .i64 (x2282 : Int)]), ((Ty.slice ty76).fact a0 [w2262]), ((Ty.slice ty69).fact a1.Fields [s2263]), (utf8F 1 2)]⟩ : St) _
     rw [m30_l1] at hr
     refine s_sr ?_
     refine at_lt (lt_lss rfl rfl) rfl ?_
     refine s_nt ?_
     refine at_seq ?_
     by_cases h2286 : x2282 < a1.Fields.length
     ·replace hr := ipos h2286 hr
      refine at_true rfl (decide_eq_true (by omega)) ?_
      refine at_skip ?_
      refine at_then ?_
      refine at_seq ?_
      refine at_block ?_
      refine s_sr ?_
      replace hr := obind hr
      obtain ⟨x2287, h2288, hr⟩ := hr
      have := (List.getElem?_eq_some_iff.1 h2288).1
      refine at_elem 2 rfl (nat_at' h2288) (fun p2290 ec pa2291 => ?_)
      refine at_open (A := Value) 0 rfl _ _ (fun F w h => op69 h) ?_
      rintro s2289 rfl
      refine at_lt (lt_idx rfl rfl pa2291 und23 ti69) rfl ?_
      refine at_lt (lt_load_peek 3 rfl ti69 rfl rfl rfl rfl rfl) rfl ?_
      refine at_hv rfl ?_
      refine hv_alloc (cs := [str ([] : Str), .int .u8 0, .int .u8 0, (.slice none 0 0)]) ti69 rfl rfl (fun b2292 => ?_)
      refine at_one 1 rfl (fun ho2293 => ?_)
      refine at_hv rfl ?_
      refine hv_store_box 0 (cs' := [str x2287.Tag, .int .u8 (x2287.Ind_0.toNat : Int), .int .u8 (x2287.Ind_1.toNat : Int), s2289]) rfl rfl ti69 rfl rfl rfl rfl (allc rfl (allc rfl (allc rfl (allc ho2293 rfl)))) ?_
      refine s_ntsr ?_
      refine s_mv rfl ?_
      refine at_lt (lt_fieldAddr 0 rfl fld69_0 rfl) rfl ?_
      refine at_lt (lt_load_box 0 rfl ti9 rfl rfl rfl rfl rfl) rfl ?_
      replace hr := obind hr
      obtain ⟨x2294, h2295, hr⟩ := hr
      refine at_hv rfl ?_
      refine hv_call0 [5, 0] (f43_spec h2295) rfl rfl rfl rfl ?_
      rintro _ _ ⟨s2296, rfl, rfl⟩
      refine at_open (A := Unit) 0 rfl (fun _ => True) (fun _ => [(Ty.str.fact x2294.1.From [str x2294.1.From]), (Ty.str.fact x2294.1.To [str x2294.1.To]), ((Ty.slice ty82).fact x2294.1.Codes [s2296])]) (fun F w h => ⟨(), trivial, ex76 h⟩) (fun _ _ => ?_)
      refine s_mv rfl ?_
      refine at_lt (lt_extract rfl rfl) rfl ?_
      refine at_lt (lt_extract rfl rfl) rfl ?_
      refine at_hv rfl ?_
      refine hv_alloc (cs := [str ([] : Str), str ([] : Str), (.slice none 0 0)]) ti76 rfl rfl (fun b2297 => ?_)
      refine at_one 2 rfl (fun ho2298 => ?_)
      refine at_hv rfl ?_
      refine hv_store_box 0 (cs' := [str x2294.1.From, str x2294.1.To, s2296]) rfl rfl ti76 rfl rfl rfl rfl (allc rfl (allc rfl (allc ho2298 rfl))) ?_
      refine s_as rfl ?_
      refine s_ntsr ?_
      refine s_mv rfl ?_
      refine at_lt (lt_not rfl) rfl ?_
      refine s_mv rfl ?_
      by_cases h2299 : x2294.2 = true
      ·replace hr := ipos h2299 hr
       refine at_on rfl rfl (nt h2299) ?_
       refine at_lt (lt_fieldAddr 3 rfl fld69_2 rfl) rfl ?_
       refine at_on rfl rfl (nt h2299) ?_
       refine at_lt (lt_load_box 1 rfl ti67 rfl rfl rfl rfl rfl) rfl ?_
       refine at_on rfl rfl (nt h2299) ?_
       refine at_lt (lt_makeFunc rfl) rfl ?_
       replace hr := obind hr
       obtain ⟨x2300, h2301, hr⟩ := hr
       refine at_derive [0, 1, 2] (ty76.fact (⟨x2294.1.From, x2294.1.To, x2294.1.Codes⟩ : D_crosswalk_Entry) [str x2294.1.From, str x2294.1.To, s2296]) rfl (fun F w h => mk76 (x := (⟨x2294.1.From, x2294.1.To, x2294.1.Codes⟩ : D_crosswalk_Entry)) h) ?_
       refine at_freeze 0 rfl ?_
       refine at_fn 63 [.pointer (some (Addr.add ⟨b2297, 0, none⟩ 0))] [0, 1] (sp101 (fun y0 => m63 y0 (⟨x2294.1.From, x2294.1.To, x2294.1.Codes⟩ : D_crosswalk_Entry))) en63 rfl (by rintro _ _ _ ⟨a0, r, h, rfl, rfl, rfl⟩; exact f63_spec h) ?_
       refine at_on rfl rfl (nt h2299) ?_
       refine at_hv rfl ?_
       refine hv_call0 [8, 0] (f62_spec h2301) rfl rfl rfl rfl ?_
       rintro _ _ ⟨rfl, rfl⟩
       refine at_lt (lt_pick false rfl (nt h2299) rfl) rfl ?_
       refine s_nt ?_
       by_cases h2302 : x2300 = true
       ·replace hr := ipos h2302 hr
        refine at_true rfl h2302 ?_
        refine s_sr ?_
        refine s_as rfl ?_
        refine s_nt ?_
        refine at_ret ?_
        have hq := oinj hr
        clear hr
        subst hq
        have hq := oinj hk2285
        clear hk2285
        subst hq
        refine at_in_ret ?_
        refine at_then_ret ?_
        refine at_then_ret ?_
        refine at_in_ret ?_
        refine at_then_ret ?_
        refine at_then_ret ?_
        exact at_return (.bool false) [] hS Tryz.results30 (.cons (.tmp rfl) .nil) rfl rfl ⟨rfl, rfl⟩
       replace hr := ineg h2302 hr
       refine at_false rfl (bf h2302) ?_
       refine at_skip ?_
       refine at_in ?_
       refine s_tr ?_
       refine at_lt (lt_add rfl rfl (by simp only [lo, hi]; omega)) rfl ?_
       refine s_mv rfl ?_
       refine at_nil ?_
       refine at_int .i64 (x2282 + 1 : Int) (by simp only [lo, hi]; omega) ?_
       exact at_again (σ := Nat) (V := Unit) (lp := fun n s => m30_l1 a0 a1 n s) (S := fun s e => (⟨[(0, w2262), (25, s2263), (26, .int .i64 (a1.Fields.length : Int)), (27, .int .i64 (s : Int))], [], [], [((Ty.int .i64).fact (s : Int) [.int .i64 (s : Int)]), ((Ty.slice ty76).fact a0 [w2262]), ((Ty.slice ty69).fact a1.Fields [s2263]), (utf8F 1 2)]⟩ : St)) (x2282 + 1) () hr ⟨⟨rfl, ⟨rfl, ⟨rfl, ⟨rfl, trivial⟩⟩⟩⟩, ⟨[false], rfl⟩, ⟨[], rfl⟩, ⟨[0, 13, 14, 15], rfl⟩⟩
      replace hr := ineg h2299 hr
      refine at_off rfl rfl (nf (bf h2299)) rfl ?_
      refine at_off rfl rfl (nf (bf h2299)) rfl ?_
      refine at_off rfl rfl (nf (bf h2299)) rfl ?_
      refine at_off rfl rfl (nf (bf h2299)) rfl ?_
      refine at_lt (lt_pick true rfl (nf (bf h2299)) rfl) rfl ?_
      refine s_nt ?_
      refine at_true rfl rfl ?_
      refine s_sr ?_
      refine s_as rfl ?_
      refine s_nt ?_
      refine at_ret ?_
      have hq := oinj hr
      clear hr
      subst hq
      have hq := oinj hk2285
      clear hk2285
      subst hq
      refine at_in_ret ?_
      refine at_then_ret ?_
      refine at_then_ret ?_
      refine at_in_ret ?_
      refine at_then_ret ?_
      refine at_then_ret ?_
      exact at_return (.bool false) [] hS Tryz.results30 (.cons (.tmp rfl) .nil) rfl rfl ⟨rfl, rfl⟩
     replace hr := ineg h2286 hr
     refine at_false rfl (decide_eq_false (by omega)) ?_
     refine at_exit ?_
     refine at_then_exit ?_
     refine at_then_exit ?_
     refine at_in_exit ?_
     have hq := oinj hr
     clear hr
     subst hq
     exact at_leafP ((), ()) rfl ⟨trivial, ⟨[], rfl⟩, ⟨[], rfl⟩, ⟨[3], rfl⟩⟩
    rintro ⟨_, _⟩ hp
    replace hr := hk2285
    subst hp
    clear hl2284
    change At _ _ (⟨[], [], [], [(utf8F 1 2)]⟩ : St) _
    refine s_tsr ?_
    refine s_as rfl ?_
    refine s_nt ?_
    refine at_ret ?_
    have hq := oinj hr
    clear hr
    subst hq
    exact at_return (.bool true) [] hS Tryz.results30 (.cons (.tmp rfl) .nil) rfl rfl ⟨rfl, rfl⟩
   replace hr := ineg h2279 hr
   refine at_true rfl (nf (bf h2279)) ?_
   refine s_sr ?_
   refine s_as rfl ?_
   refine s_nt ?_
   refine at_ret ?_
   have hq := oinj hr
   clear hr
   subst hq
   refine at_then_ret ?_
   exact at_return (.bool false) [] hS Tryz.results30 (.cons (.tmp rfl) .nil) rfl rfl ⟨rfl, rfl⟩
  replace hr := ineg h2271 hr
  refine aa_start 15 (by kernel_rfl) ?_
  refine aa_p 0 rfl (lt_move rfl) ?_
  refine aa_one 1 ?_
  refine aa_op rfl rfl ?_
  refine hv_call0 [2] (f27_spec h2267) rfl rfl rfl rfl ?_
  rintro _ _ ⟨rfl, rfl⟩
  refine aa_p 2 rfl (lt_not rfl) ?_
  refine aa_p 3 rfl (lt_move rfl) ?_
  refine aa_lg 4 rfl ⟨12, rfl, .inl ⟨_, rfl, gdq (v := false) (nt h2268) rfl⟩⟩ (lt_load_box 0 rfl ti25 rfl rfl rfl rfl rfl) ?_
  refine aa_one 5 ?_
  refine at_derive [0, 1] (ty25.fact (⟨a1.ID, a1.Fields⟩ : D_api_Record) [.int .i64 a1.ID, s2263]) rfl (fun F w h => mk25 (x := (⟨a1.ID, a1.Fields⟩ : D_api_Record)) h) ?_
  refine aa_op rfl ⟨12, rfl, .inl ⟨_, rfl, gdq (v := false) (nt h2268) rfl⟩⟩ ?_
  refine hv_call0 [0, 5] (f59_spec h2270) rfl rfl rfl rfl ?_
  rintro _ _ ⟨rfl, rfl⟩
  refine aa_pure 6 rfl (by kernel_rfl) rfl ⟨12, rfl, .inl ⟨_, rfl, gdq (v := false) (nt h2268) rfl⟩⟩ (lt_not rfl) rfl (ts_in 0 1 rfl rfl) ?_
  refine aa_pure 7 rfl (by kernel_rfl) rfl rfl (lt_pick false rfl (nt h2268) rfl) rfl (ts_in 0 1 rfl rfl) ?_
  refine aa_pure 8 rfl (by kernel_rfl) rfl rfl (lt_move rfl) rfl (ts_in 0 1 rfl rfl) ?_
  refine aa_off 9 rfl (by kernel_rfl) rfl ⟨17, rfl, .inl ⟨_, rfl, gdq (v := true) (nf (bf h2271)) rfl⟩⟩ rfl (ts_in 0 1 rfl rfl) ?_
  refine aa_off 10 rfl (by kernel_rfl) rfl ⟨17, rfl, .inl ⟨_, rfl, gdq (v := true) (nf (bf h2271)) rfl⟩⟩ rfl (ts_in 0 1 rfl rfl) ?_
  refine aa_off 11 rfl (by kernel_rfl) rfl ⟨17, rfl, .inl ⟨_, rfl, gdq (v := true) (nf (bf h2271)) rfl⟩⟩ rfl (ts_in 0 1 rfl rfl) ?_
  refine aa_off 12 rfl (by kernel_rfl) rfl ⟨17, rfl, .inl ⟨_, rfl, gdq (v := true) (nf (bf h2271)) rfl⟩⟩ rfl (ts_in 0 1 rfl rfl) ?_
  refine aa_off 13 rfl (by kernel_rfl) rfl ⟨17, rfl, .inl ⟨_, rfl, gdq (v := true) (nf (bf h2271)) rfl⟩⟩ rfl (ts_in 0 1 rfl rfl) ?_
  refine aa_pure 14 rfl (by kernel_rfl) rfl rfl (lt_pick true rfl (nf (bf h2271)) rfl) rfl (ts_in 0 1 rfl rfl) ?_
  refine aa_done (by kernel_rfl) (ts_in 0 1 rfl rfl) ?_
  refine at_then ?_
  refine at_true rfl rfl ?_
  refine s_sr ?_
  refine s_as rfl ?_
  refine s_nt ?_
  refine at_ret ?_
  have hq := oinj hr
  clear hr
  subst hq
  refine at_then_ret ?_
  exact at_return (.bool false) [] hS Tryz.results30 (.cons (.tmp rfl) .nil) rfl rfl ⟨rfl, rfl⟩
 replace hr := ineg h2268 hr
 refine aa_start 15 (by kernel_rfl) ?_
 refine aa_p 0 rfl (lt_move rfl) ?_
 refine aa_one 1 ?_
 refine aa_op rfl rfl ?_
 refine hv_call0 [2] (f27_spec h2267) rfl rfl rfl rfl ?_
 rintro _ _ ⟨rfl, rfl⟩
 refine aa_p 2 rfl (lt_not rfl) ?_
 refine aa_p 3 rfl (lt_move rfl) ?_
 refine aa_o 4 rfl ⟨12, rfl, .inl ⟨_, rfl, gdq (v := true) (nf (bf h2268)) rfl⟩⟩ ?_
 refine aa_o 5 rfl ⟨12, rfl, .inl ⟨_, rfl, gdq (v := true) (nf (bf h2268)) rfl⟩⟩ ?_
 refine aa_o 6 rfl ⟨12, rfl, .inl ⟨_, rfl, gdq (v := true) (nf (bf h2268)) rfl⟩⟩ ?_
 refine aa_p 7 rfl (lt_pick true rfl (nf (bf h2268)) rfl) ?_
 refine aa_p 8 rfl (lt_move rfl) ?_
 refine aa_o 9 rfl ⟨17, rfl, .inl ⟨_, rfl, gdq (v := true) rfl rfl⟩⟩ ?_
 refine aa_o 10 rfl ⟨17, rfl, .inl ⟨_, rfl, gdq (v := true) rfl rfl⟩⟩ ?_
 refine aa_o 11 rfl ⟨17, rfl, .inl ⟨_, rfl, gdq (v := true) rfl rfl⟩⟩ ?_
 refine aa_o 12 rfl ⟨17, rfl, .inl ⟨_, rfl, gdq (v := true) rfl rfl⟩⟩ ?_
 refine aa_o 13 rfl ⟨17, rfl, .inl ⟨_, rfl, gdq (v := true) rfl rfl⟩⟩ ?_
 refine aa_p 14 rfl (lt_pick true rfl rfl rfl) ?_
 refine aa_done (by kernel_rfl) (ts_in 0 0 rfl rfl) ?_
 refine at_then ?_
 refine at_true rfl rfl ?_
 refine s_sr ?_
 refine s_as rfl ?_
 refine s_nt ?_
 refine at_ret ?_
 have hq := oinj hr
 clear hr
 subst hq
 refine at_then_ret ?_
 exact at_return (.bool false) [] hS Tryz.results30 (.cons (.tmp rfl) .nil) rfl rfl ⟨rfl, rfl⟩
/-! 7 bookplate/bookplatelaw16.CrosswalkLoss -/
def m7 (a0 : (List D_ref16_Entry)) : Option Bool :=
  (m10).bind fun x2304 =>
  if x2304 = true then
   (m11 a0).bind fun x2307 =>
   if x2307 = true then
    (m24 a0).bind fun x2310 =>
    if x2310 = true then
     (m15 a0).bind fun x2313 =>
     (m31 x2313).bind fun x2316 =>
     (m15 a0).bind fun x2322 =>
     (m17 x2322).bind fun x2325 =>
     if x2325 = true then
      some (!x2316.2)
     else
      if x2316.2 = true then
       (m13 a0 (⟨x2316.1.ID, x2316.1.Fields⟩ : D_api_Record)).bind fun x2329 =>
       if x2329 = true then
        (m15 a0).bind fun x2332 =>
        (m30 x2332 (⟨x2316.1.ID, x2316.1.Fields⟩ : D_api_Record)).bind fun x2335 =>
        if x2335 = true then
         Option.bind (α := (Int × D_api_Record)) (
          (m15 a0).bind fun x2354 =>
          (m14 x2354 (⟨x2316.1.ID, x2316.1.Fields⟩ : D_api_Record)).bind fun x2357 =>
          some (x2357.2, (⟨x2357.1.ID, x2357.1.Fields⟩ : D_api_Record))
         ) fun (x2348, x2349) =>
         Option.bind (α := (Int × D_api_Record)) (
          (m15 a0).bind fun x2393 =>
          (m16 x2393 (⟨x2349.ID, x2349.Fields⟩ : D_api_Record)).bind fun x2396 =>
          some (x2396.2, (⟨x2396.1.ID, x2396.1.Fields⟩ : D_api_Record))
         ) fun (x2387, x2388) =>
         if x2348 = 0 then
          if x2387 = 0 then
           (m18 (⟨x2388.ID, x2388.Fields⟩ : D_api_Record) (⟨x2316.1.ID, x2316.1.Fields⟩ : D_api_Record)).bind fun x2418 =>
           some (!x2418)
          else
           some true
         else
          some false
        else
         some false
       else
        some false
      else
       some false
    else
     some true
   else
    some true
  else
   some false
def post7 (r : Bool) (v : Value) (fs : List Fact) : Prop := v = .bool r ∧ fs = []
theorem en7 : Enters Tryz.prog 7 := ⟨_, Tryz.func7, by kernel_rfl, rfl⟩
theorem f7_spec {a0 : (List D_ref16_Entry)} {w2303 : Value} {r : Bool} (hr : m7 a0 = some r) : Spec Tryz.prog 7 [w2303] [((Ty.slice ty50).fact a0 [w2303]), (utf8F 1 2)] (post7 r) := by
 refine spec_start (N := 71) Tryz.func7 (by kernel_rfl) rfl rfl rfl ?_
 intro g hS
 unfold m7 at hr
 refine s_sr ?_
 refine s_as rfl ?_
 refine s_nt ?_
 refine at_seq ?_
 refine s_sr ?_
 replace hr := obind hr
 obtain ⟨x2304, h2305, hr⟩ := hr
 refine at_hv rfl ?_
 refine hv_call0 [1] (f10_spec h2305) rfl rfl rfl rfl ?_
 rintro _ _ ⟨rfl, rfl⟩
 refine at_lt (lt_not rfl) rfl ?_
 refine s_nt ?_
 by_cases h2306 : x2304 = true
 ·replace hr := ipos h2306 hr
  refine at_false rfl (nt h2306) ?_
  refine at_skip ?_
  refine at_then ?_
  refine at_seq ?_
  refine s_sr ?_
  refine s_mv rfl ?_
  replace hr := obind hr
  obtain ⟨x2307, h2308, hr⟩ := hr
  refine at_hv rfl ?_
  refine hv_call0 [0] (f11_spec h2308) rfl rfl rfl rfl ?_
  rintro _ _ ⟨rfl, rfl⟩
  refine at_lt (lt_not rfl) rfl ?_
  refine s_mv rfl ?_
  by_cases h2309 : x2307 = true
  ·replace hr := ipos h2309 hr
   refine at_on rfl rfl (nt h2309) ?_
   refine s_mv rfl ?_
   replace hr := obind hr
   obtain ⟨x2310, h2311, hr⟩ := hr
   refine at_on rfl rfl (nt h2309) ?_
   refine at_hv rfl ?_
   refine hv_call0 [0] (f24_spec h2311) rfl rfl rfl rfl ?_
   rintro _ _ ⟨rfl, rfl⟩
   refine at_on rfl rfl (nt h2309) ?_
   refine at_lt (lt_not rfl) rfl ?_
   refine at_lt (lt_pick false rfl (nt h2309) rfl) rfl ?_
   refine s_nt ?_
   by_cases h2312 : x2310 = true
   ·replace hr := ipos h2312 hr
    refine at_false rfl (nt h2312) ?_
    refine at_skip ?_
    refine s_tsr ?_
    refine s_mv rfl ?_
    replace hr := obind hr
    obtain ⟨x2313, h2314, hr⟩ := hr
    refine at_hv rfl ?_
    refine hv_call0 [0] (f15_spec h2314) rfl rfl rfl rfl ?_
    rintro s2315 _ ⟨_, rfl, rfl⟩
    replace hr := obind hr
    obtain ⟨x2316, h2317, hr⟩ := hr
    refine at_hv rfl ?_
    refine hv_call0 [0] (f31_spec h2317) rfl rfl rfl rfl ?_
    rintro _ _ ⟨s2318, rfl, rfl⟩
    refine at_open (A := Unit) 0 rfl (fun _ => True) (fun _ => [((Ty.int .i64).fact x2316.1.ID [.int .i64 x2316.1.ID]), ((Ty.slice ty69).fact x2316.1.Fields [s2318])]) (fun F w h => ⟨(), trivial, ex25 h⟩) (fun _ _ => ?_)
    refine at_inv 0 rfl (fun l2319 => ?_)
    replace l2319 : (-9223372036854775808) ≤ x2316.1.ID ∧ x2316.1.ID ≤ 9223372036854775807 := l2319
    refine s_mv rfl ?_
    refine at_lt (lt_extract rfl rfl) rfl ?_
    refine at_lt (lt_extract rfl rfl) rfl ?_
    refine at_hv rfl ?_
    refine hv_alloc (cs := [.int .i64 0, (.slice none 0 0)]) ti25 rfl rfl (fun b2320 => ?_)
    refine at_one 1 rfl (fun ho2321 => ?_)
    refine at_hv rfl ?_
    refine hv_store_box 0 (cs' := [.int .i64 x2316.1.ID, s2318]) rfl rfl ti25 rfl rfl rfl rfl (allc rfl (allc ho2321 rfl)) ?_
    refine s_as rfl ?_
    refine s_nt ?_
    refine at_seq ?_
    refine s_sr ?_
    refine s_mv rfl ?_
    replace hr := obind hr
    obtain ⟨x2322, h2323, hr⟩ := hr
    refine at_hv rfl ?_
    refine hv_call0 [4] (f15_spec h2323) rfl rfl rfl rfl ?_
    rintro s2324 _ ⟨_, rfl, rfl⟩
    replace hr := obind hr
    obtain ⟨x2325, h2326, hr⟩ := hr
    refine at_hv rfl ?_
    refine hv_call0 [0] (f17_spec h2326) rfl rfl rfl rfl ?_
    rintro _ _ ⟨rfl, rfl⟩
    refine s_nt ?_
    by_cases h2327 : x2325 = true
    ·replace hr := ipos h2327 hr
     refine at_true rfl h2327 ?_
     refine s_sr ?_
     refine s_mv rfl ?_
     refine at_lt (lt_not rfl) rfl ?_
     refine s_as rfl ?_
     refine s_nt ?_
     refine at_ret ?_
     have hq := oinj hr
     clear hr
     subst hq
     refine at_then_ret ?_
     exact at_return (.bool (!x2316.2)) [] hS Tryz.results7 (.cons (.tmp rfl) .nil) rfl rfl ⟨rfl, rfl⟩
    replace hr := ineg h2327 hr
    refine at_false rfl (bf h2327) ?_
    refine at_skip ?_
    refine at_then ?_
    refine at_seq ?_
    refine at_seq ?_
    by_cases h2328 : x2316.2 = true
    ·replace hr := ipos h2328 hr
     replace hr := obind hr
     obtain ⟨x2329, h2330, hr⟩ := hr
     by_cases h2331 : x2329 = true
     ·replace hr := ipos h2331 hr
      replace hr := obind hr
      obtain ⟨x2332, h2333, hr⟩ := hr
      replace hr := obind hr
      obtain ⟨x2335, h2336, hr⟩ := hr
      refine aa_start 15 (by kernel_rfl) ?_
      refine aa_p 0 rfl (lt_move rfl) ?_
      refine aa_p 1 rfl (lt_not rfl) ?_
      refine aa_p 2 rfl (lt_move rfl) ?_
      refine aa_pg 3 rfl ⟨32, rfl, .inl ⟨_, rfl, gdq (v := false) (nt h2328) rfl⟩⟩ (lt_move rfl) ?_
      refine aa_lg 4 rfl ⟨32, rfl, .inl ⟨_, rfl, gdq (v := false) (nt h2328) rfl⟩⟩ (lt_load_box 0 rfl ti25 rfl rfl rfl rfl rfl) ?_
      refine aa_one 5 ?_
      refine at_derive [1, 2] (ty25.fact (⟨x2316.1.ID, x2316.1.Fields⟩ : D_api_Record) [.int .i64 x2316.1.ID, s2318]) rfl (fun F w h => mk25 (x := (⟨x2316.1.ID, x2316.1.Fields⟩ : D_api_Record)) h) ?_
      refine aa_op rfl ⟨32, rfl, .inl ⟨_, rfl, gdq (v := false) (nt h2328) rfl⟩⟩ ?_
      refine hv_call0 [6, 0] (f13_spec h2330) rfl rfl rfl rfl ?_
      rintro _ _ ⟨rfl, rfl⟩
      refine aa_pure 6 rfl (by kernel_rfl) rfl ⟨32, rfl, .inl ⟨_, rfl, gdq (v := false) (nt h2328) rfl⟩⟩ (lt_not rfl) rfl (ts_in 0 1 rfl rfl) ?_
      refine aa_pure 7 rfl (by kernel_rfl) rfl rfl (lt_pick false rfl (nt h2328) rfl) rfl (ts_in 0 1 rfl rfl) ?_
      refine aa_pure 8 rfl (by kernel_rfl) rfl rfl (lt_move rfl) rfl (ts_in 0 1 rfl rfl) ?_
      refine aa_pure 9 rfl (by kernel_rfl) rfl ⟨38, rfl, .inl ⟨_, rfl, gdq (v := false) (nt h2331) rfl⟩⟩ (lt_move rfl) rfl (ts_in 0 1 rfl rfl) ?_
      refine aa_load 11 rfl (by kernel_rfl) rfl ⟨38, rfl, .inl ⟨_, rfl, gdq (v := false) (nt h2331) rfl⟩⟩ (lt_load_box 0 rfl ti25 rfl rfl rfl rfl rfl) rfl (ts_in 0 1 rfl rfl) ?_
      refine aa_all (rs := [10]) (by kernel_rfl) rfl (ts_in 0 1 rfl rfl) (List.forall_mem_singleton.2 ?_)
      refine aa_op rfl ⟨38, rfl, .inl ⟨_, rfl, gdq (v := false) (nt h2331) rfl⟩⟩ ?_
      refine hv_call0 [6] (f15_spec h2333) rfl rfl rfl rfl ?_
      rintro s2334 _ ⟨_, rfl, rfl⟩
      refine aa_all (rs := [12]) (by kernel_rfl) rfl (ts_in 0 2 rfl rfl) (List.forall_mem_singleton.2 ?_)
      refine aa_op rfl ⟨38, rfl, .inl ⟨_, rfl, gdq (v := false) (nt h2331) rfl⟩⟩ ?_
      refine hv_call0 [0, 1, 8] (f30_spec h2336) rfl rfl rfl rfl ?_
      rintro _ _ ⟨rfl, rfl⟩
      refine aa_pure 13 rfl (by kernel_rfl) rfl ⟨38, rfl, .inl ⟨_, rfl, gdq (v := false) (nt h2331) rfl⟩⟩ (lt_not rfl) rfl (ts_in 0 2 rfl rfl) ?_
      refine aa_pure 14 rfl (by kernel_rfl) rfl rfl (lt_pick false rfl (nt h2331) rfl) rfl (ts_in 0 2 rfl rfl) ?_
      refine aa_done (by kernel_rfl) (ts_in 0 2 rfl rfl) ?_
      refine at_then ?_
      by_cases h2337 : x2335 = true
      ·replace hr := ipos h2337 hr
       refine at_false rfl (nt h2337) ?_
       refine at_skip ?_
       refine at_then ?_
       refine at_seq ?_
       replace hr := obind hr
       obtain ⟨r2352, hc2353, hr⟩ := hr
       refine at_cut (V := Value × Nat) (fun e => (⟨[(0, w2303), (3, .pointer (some (Addr.add ⟨b2320, 0, none⟩ 0))), (5, .pointer (some (Addr.add ⟨e.2, 0, none⟩ 0))), (6, .int .i64 r2352.1)], [⟨e.2, [.int .i64 r2352.2.ID, e.1], 25⟩, ⟨b2320, [.int .i64 x2316.1.ID, s2318], 25⟩], [], [((Ty.int .i64).fact r2352.1 [.int .i64 r2352.1]), ((Ty.int .i64).fact r2352.2.ID [.int .i64 r2352.2.ID]), ((Ty.slice ty69).fact r2352.2.Fields [e.1]), ((Ty.slice ty50).fact a0 [w2303]), ((Ty.int .i64).fact x2316.1.ID [.int .i64 x2316.1.ID]), ((Ty.slice ty69).fact x2316.1.Fields [s2318]), (utf8F 1 2)]⟩ : St)) ?_ ?_
       ·clear hr
        have hr := hc2353
        clear hc2353
        replace hr := obind hr
        obtain ⟨x2354, h2355, hr⟩ := hr
        replace hr := obind hr
        obtain ⟨x2357, h2358, hr⟩ := hr
        refine aa_start 10 (by kernel_rfl) ?_
        refine aa_p 0 rfl (lt_move rfl) ?_
        refine aa_l 2 rfl (lt_load_box 0 rfl ti25 rfl rfl rfl rfl rfl) ?_
        refine aa_all (rs := [1, 7]) (by kernel_rfl) rfl (ts_in 0 0 rfl rfl) (List.forall_mem_cons.2 ⟨?_, (List.forall_mem_singleton.2 ?_)⟩)
        ·refine aa_op rfl rfl ?_
         refine hv_call0 [7] (f15_spec h2355) rfl rfl rfl rfl ?_
         rintro s2356 _ ⟨_, rfl, rfl⟩
         refine aa_all (rs := [3, 7]) (by kernel_rfl) rfl (ts_in 0 1 rfl rfl) (List.forall_mem_cons.2 ⟨?_, (List.forall_mem_singleton.2 ?_)⟩)
         ·refine aa_op rfl rfl ?_
          refine hv_call0 [0, 2, 9] (f14_spec h2358) rfl rfl rfl rfl ?_
          rintro _ _ ⟨s2359, rfl, rfl⟩
          refine at_open (A := Unit) 0 rfl (fun _ => True) (fun _ => [((Ty.int .i64).fact x2357.1.ID [.int .i64 x2357.1.ID]), ((Ty.slice ty69).fact x2357.1.Fields [s2359])]) (fun F w h => ⟨(), trivial, ex25 h⟩) (fun _ _ => ?_)
          refine at_inv 0 rfl (fun l2364 => ?_)
          replace l2364 : (-9223372036854775808) ≤ x2357.1.ID ∧ x2357.1.ID ≤ 9223372036854775807 := l2364
          refine at_inv 3 rfl (fun l2365 => ?_)
          replace l2365 : (-9223372036854775808) ≤ x2357.2 ∧ x2357.2 ≤ 9223372036854775807 := l2365
          refine aa_pure 4 rfl (by kernel_rfl) rfl rfl (lt_move rfl) rfl (ts_in 0 5 rfl rfl) ?_
          refine aa_pure 5 rfl (by kernel_rfl) rfl rfl (lt_extract rfl rfl) rfl (ts_in 0 5 rfl rfl) ?_
          refine aa_pure 6 rfl (by kernel_rfl) rfl rfl (lt_extract rfl rfl) rfl (ts_in 0 5 rfl rfl) ?_
          refine aa_all (rs := [7]) (by kernel_rfl) rfl (ts_in 0 5 rfl rfl) (List.forall_mem_singleton.2 ?_)
          refine aa_op rfl rfl ?_
          refine hv_alloc (cs := [.int .i64 0, (.slice none 0 0)]) ti25 rfl rfl (fun b2366 => ?_)
          refine aa_all (rs := [8]) (by kernel_rfl) rfl (ts_in 1 5 rfl rfl) (List.forall_mem_singleton.2 ?_)
          refine at_one 1 rfl (fun ho2367 => ?_)
          refine aa_op rfl rfl ?_
          refine hv_store_box 0 (cs' := [.int .i64 x2357.1.ID, s2359]) rfl rfl ti25 rfl rfl rfl rfl (allc rfl (allc ho2367 rfl)) ?_
          refine aa_pure 9 rfl (by kernel_rfl) rfl rfl (lt_assign rfl) rfl (ts_in 1 5 rfl rfl) ?_
          refine aa_done (by kernel_rfl) (ts_in 1 5 rfl rfl) ?_
          have hq := oinj hr
          clear hr
          subst hq
          exact at_leaf (s2359, b2366) ⟨⟨rfl, ⟨rfl, ⟨rfl, ⟨rfl, trivial⟩⟩⟩⟩, ⟨[true, true], rfl⟩, ⟨[], rfl⟩, ⟨[3, 0, 1, 12, 8, 9, 13], rfl⟩⟩
         ·refine aa_op rfl rfl ?_
          refine hv_alloc (cs := [.int .i64 0, (.slice none 0 0)]) ti25 rfl rfl (fun b2368 => ?_)
          refine aa_all (rs := [3]) (by kernel_rfl) rfl (ts_in 1 1 rfl rfl) (List.forall_mem_singleton.2 ?_)
          refine aa_op rfl rfl ?_
          refine hv_call0 [0, 2, 9] (f14_spec h2358) rfl rfl rfl rfl ?_
          rintro _ _ ⟨s2359, rfl, rfl⟩
          refine at_open (A := Unit) 0 rfl (fun _ => True) (fun _ => [((Ty.int .i64).fact x2357.1.ID [.int .i64 x2357.1.ID]), ((Ty.slice ty69).fact x2357.1.Fields [s2359])]) (fun F w h => ⟨(), trivial, ex25 h⟩) (fun _ _ => ?_)
          refine at_inv 0 rfl (fun l2369 => ?_)
          replace l2369 : (-9223372036854775808) ≤ x2357.1.ID ∧ x2357.1.ID ≤ 9223372036854775807 := l2369
          refine at_inv 3 rfl (fun l2370 => ?_)
          replace l2370 : (-9223372036854775808) ≤ x2357.2 ∧ x2357.2 ≤ 9223372036854775807 := l2370
          refine aa_pure 4 rfl (by kernel_rfl) rfl rfl (lt_move rfl) rfl (ts_in 1 5 rfl rfl) ?_
          refine aa_pure 5 rfl (by kernel_rfl) rfl rfl (lt_extract rfl rfl) rfl (ts_in 1 5 rfl rfl) ?_
          refine aa_pure 6 rfl (by kernel_rfl) rfl rfl (lt_extract rfl rfl) rfl (ts_in 1 5 rfl rfl) ?_
          refine aa_all (rs := [8]) (by kernel_rfl) rfl (ts_in 1 5 rfl rfl) (List.forall_mem_singleton.2 ?_)
          refine at_one 1 rfl (fun ho2371 => ?_)
          refine aa_op rfl rfl ?_
          refine hv_store_box 0 (cs' := [.int .i64 x2357.1.ID, s2359]) rfl rfl ti25 rfl rfl rfl rfl (allc rfl (allc ho2371 rfl)) ?_
          refine aa_pure 9 rfl (by kernel_rfl) rfl rfl (lt_assign rfl) rfl (ts_in 1 5 rfl rfl) ?_
          refine aa_done (by kernel_rfl) (ts_in 1 5 rfl rfl) ?_
          have hq := oinj hr
          clear hr
          subst hq
          exact at_leaf (s2359, b2368) ⟨⟨rfl, ⟨rfl, ⟨rfl, ⟨rfl, trivial⟩⟩⟩⟩, ⟨[true, true], rfl⟩, ⟨[], rfl⟩, ⟨[3, 0, 1, 12, 8, 9, 13], rfl⟩⟩
        ·refine aa_op rfl rfl ?_
         refine hv_alloc (cs := [.int .i64 0, (.slice none 0 0)]) ti25 rfl rfl (fun b2372 => ?_)
         refine aa_all (rs := [1]) (by kernel_rfl) rfl (ts_in 1 0 rfl rfl) (List.forall_mem_singleton.2 ?_)
         refine aa_op rfl rfl ?_
         refine hv_call0 [7] (f15_spec h2355) rfl rfl rfl rfl ?_
         rintro s2356 _ ⟨_, rfl, rfl⟩
         refine aa_all (rs := [3]) (by kernel_rfl) rfl (ts_in 1 1 rfl rfl) (List.forall_mem_singleton.2 ?_)
         refine aa_op rfl rfl ?_
         refine hv_call0 [0, 2, 9] (f14_spec h2358) rfl rfl rfl rfl ?_
         rintro _ _ ⟨s2359, rfl, rfl⟩
         refine at_open (A := Unit) 0 rfl (fun _ => True) (fun _ => [((Ty.int .i64).fact x2357.1.ID [.int .i64 x2357.1.ID]), ((Ty.slice ty69).fact x2357.1.Fields [s2359])]) (fun F w h => ⟨(), trivial, ex25 h⟩) (fun _ _ => ?_)
         refine at_inv 0 rfl (fun l2373 => ?_)
         replace l2373 : (-9223372036854775808) ≤ x2357.1.ID ∧ x2357.1.ID ≤ 9223372036854775807 := l2373
         refine at_inv 3 rfl (fun l2374 => ?_)
         replace l2374 : (-9223372036854775808) ≤ x2357.2 ∧ x2357.2 ≤ 9223372036854775807 := l2374
         refine aa_pure 4 rfl (by kernel_rfl) rfl rfl (lt_move rfl) rfl (ts_in 1 5 rfl rfl) ?_
         refine aa_pure 5 rfl (by kernel_rfl) rfl rfl (lt_extract rfl rfl) rfl (ts_in 1 5 rfl rfl) ?_
         refine aa_pure 6 rfl (by kernel_rfl) rfl rfl (lt_extract rfl rfl) rfl (ts_in 1 5 rfl rfl) ?_
         refine aa_all (rs := [8]) (by kernel_rfl) rfl (ts_in 1 5 rfl rfl) (List.forall_mem_singleton.2 ?_)
         refine at_one 1 rfl (fun ho2375 => ?_)
         refine aa_op rfl rfl ?_
         refine hv_store_box 0 (cs' := [.int .i64 x2357.1.ID, s2359]) rfl rfl ti25 rfl rfl rfl rfl (allc rfl (allc ho2375 rfl)) ?_
         refine aa_pure 9 rfl (by kernel_rfl) rfl rfl (lt_assign rfl) rfl (ts_in 1 5 rfl rfl) ?_
         refine aa_done (by kernel_rfl) (ts_in 1 5 rfl rfl) ?_
         have hq := oinj hr
         clear hr
         subst hq
         exact at_leaf (s2359, b2372) ⟨⟨rfl, ⟨rfl, ⟨rfl, ⟨rfl, trivial⟩⟩⟩⟩, ⟨[true, true], rfl⟩, ⟨[], rfl⟩, ⟨[3, 0, 1, 12, 8, 9, 13], rfl⟩⟩
       clear hc2353
       obtain ⟨x2348, x2349⟩ := r2352
       intro e
       obtain ⟨v2350, n2351⟩ := e
       change At _ _ (⟨[(0, w2303), (3, .pointer (some (Addr.add ⟨b2320, 0, none⟩ 0))), (5, .pointer (some (Addr.add ⟨n2351, 0, none⟩ 0))), (6, .int .i64 x2348)], [⟨n2351, [.int .i64 x2349.ID, v2350], 25⟩, ⟨b2320, [.int .i64 x2316.1.ID, s2318], 25⟩], [], [((Ty.int .i64).fact x2348 [.int .i64 x2348]), ((Ty.int .i64).fact x2349.ID [.int .i64 x2349.ID]), ((Ty.slice ty69).fact x2349.Fields [v2350]), ((Ty.slice ty50).fact a0 [w2303]), ((Ty.int .i64).fact x2316.1.ID [.int .i64 x2316.1.ID]), ((Ty.slice ty69).fact x2316.1.Fields [s2318]), (utf8F 1 2)]⟩ : St) _
       refine at_inv 0 rfl (fun l2376 => ?_)
       replace l2376 : (-9223372036854775808) ≤ x2348 ∧ x2348 ≤ 9223372036854775807 := l2376
       refine at_then ?_
       refine at_seq ?_
       replace hr := obind hr
       obtain ⟨r2391, hc2392, hr⟩ := hr
       refine at_cut (V := Value × Nat) (fun e => (⟨[(3, .pointer (some (Addr.add ⟨b2320, 0, none⟩ 0))), (6, .int .i64 x2348), (7, .pointer (some (Addr.add ⟨e.2, 0, none⟩ 0))), (8, .int .i64 r2391.1)], [⟨e.2, [.int .i64 r2391.2.ID, e.1], 25⟩, ⟨b2320, [.int .i64 x2316.1.ID, s2318], 25⟩], [], [((Ty.int .i64).fact r2391.1 [.int .i64 r2391.1]), ((Ty.int .i64).fact r2391.2.ID [.int .i64 r2391.2.ID]), ((Ty.slice ty69).fact r2391.2.Fields [e.1]), ((Ty.int .i64).fact x2348 [.int .i64 x2348]), ((Ty.int .i64).fact x2316.1.ID [.int .i64 x2316.1.ID]), ((Ty.slice ty69).fact x2316.1.Fields [s2318]), (utf8F 1 2)]⟩ : St)) ?_ ?_
       ·clear hr
        have hr := hc2392
        clear hc2392
        replace hr := obind hr
        obtain ⟨x2393, h2394, hr⟩ := hr
        replace hr := obind hr
        obtain ⟨x2396, h2397, hr⟩ := hr
        refine aa_start 10 (by kernel_rfl) ?_
        refine aa_p 0 rfl (lt_move rfl) ?_
        refine aa_l 2 rfl (lt_load_box 0 rfl ti25 rfl rfl rfl rfl rfl) ?_
        refine aa_all (rs := [1, 7]) (by kernel_rfl) rfl (ts_in 0 0 rfl rfl) (List.forall_mem_cons.2 ⟨?_, (List.forall_mem_singleton.2 ?_)⟩)
        ·refine aa_op rfl rfl ?_
         refine hv_call0 [3] (f15_spec h2394) rfl rfl rfl rfl ?_
         rintro s2395 _ ⟨_, rfl, rfl⟩
         refine aa_all (rs := [3, 7]) (by kernel_rfl) rfl (ts_in 0 1 rfl rfl) (List.forall_mem_cons.2 ⟨?_, (List.forall_mem_singleton.2 ?_)⟩)
         ·refine at_derive [2, 3] (ty25.fact (⟨x2349.ID, x2349.Fields⟩ : D_api_Record) [.int .i64 x2349.ID, v2350]) rfl (fun F w h => mk25 (x := (⟨x2349.ID, x2349.Fields⟩ : D_api_Record)) h) ?_
          refine aa_op rfl rfl ?_
          refine hv_call0 [1, 0, 8] (f16_spec h2397) rfl rfl rfl rfl ?_
          rintro _ _ ⟨s2398, rfl, rfl⟩
          refine at_open (A := Unit) 0 rfl (fun _ => True) (fun _ => [((Ty.int .i64).fact x2396.1.ID [.int .i64 x2396.1.ID]), ((Ty.slice ty69).fact x2396.1.Fields [s2398])]) (fun F w h => ⟨(), trivial, ex25 h⟩) (fun _ _ => ?_)
          refine at_inv 0 rfl (fun l2403 => ?_)
          replace l2403 : (-9223372036854775808) ≤ x2396.1.ID ∧ x2396.1.ID ≤ 9223372036854775807 := l2403
          refine at_inv 3 rfl (fun l2404 => ?_)
          replace l2404 : (-9223372036854775808) ≤ x2396.2 ∧ x2396.2 ≤ 9223372036854775807 := l2404
          refine aa_pure 4 rfl (by kernel_rfl) rfl rfl (lt_move rfl) rfl (ts_in 0 6 rfl rfl) ?_
          refine aa_pure 5 rfl (by kernel_rfl) rfl rfl (lt_extract rfl rfl) rfl (ts_in 0 6 rfl rfl) ?_
          refine aa_pure 6 rfl (by kernel_rfl) rfl rfl (lt_extract rfl rfl) rfl (ts_in 0 6 rfl rfl) ?_
          refine aa_all (rs := [7]) (by kernel_rfl) rfl (ts_in 0 6 rfl rfl) (List.forall_mem_singleton.2 ?_)
          refine aa_op rfl rfl ?_
          refine hv_alloc (cs := [.int .i64 0, (.slice none 0 0)]) ti25 rfl rfl (fun b2405 => ?_)
          refine aa_all (rs := [8]) (by kernel_rfl) rfl (ts_in 1 6 rfl rfl) (List.forall_mem_singleton.2 ?_)
          refine at_one 1 rfl (fun ho2406 => ?_)
          refine aa_op rfl rfl ?_
          refine hv_store_box 0 (cs' := [.int .i64 x2396.1.ID, s2398]) rfl rfl ti25 rfl rfl rfl rfl (allc rfl (allc ho2406 rfl)) ?_
          refine aa_pure 9 rfl (by kernel_rfl) rfl rfl (lt_assign rfl) rfl (ts_in 1 6 rfl rfl) ?_
          refine aa_done (by kernel_rfl) (ts_in 1 6 rfl rfl) ?_
          have hq := oinj hr
          clear hr
          subst hq
          exact at_leaf (s2398, b2405) ⟨⟨rfl, ⟨rfl, ⟨rfl, ⟨rfl, trivial⟩⟩⟩⟩, ⟨[true, false, true], rfl⟩, ⟨[], rfl⟩, ⟨[3, 0, 1, 6, 10, 11, 12], rfl⟩⟩
         ·refine aa_op rfl rfl ?_
          refine hv_alloc (cs := [.int .i64 0, (.slice none 0 0)]) ti25 rfl rfl (fun b2407 => ?_)
          refine aa_all (rs := [3]) (by kernel_rfl) rfl (ts_in 1 1 rfl rfl) (List.forall_mem_singleton.2 ?_)
          refine at_derive [2, 3] (ty25.fact (⟨x2349.ID, x2349.Fields⟩ : D_api_Record) [.int .i64 x2349.ID, v2350]) rfl (fun F w h => mk25 (x := (⟨x2349.ID, x2349.Fields⟩ : D_api_Record)) h) ?_
          refine aa_op rfl rfl ?_
          refine hv_call0 [1, 0, 8] (f16_spec h2397) rfl rfl rfl rfl ?_
          rintro _ _ ⟨s2398, rfl, rfl⟩
          refine at_open (A := Unit) 0 rfl (fun _ => True) (fun _ => [((Ty.int .i64).fact x2396.1.ID [.int .i64 x2396.1.ID]), ((Ty.slice ty69).fact x2396.1.Fields [s2398])]) (fun F w h => ⟨(), trivial, ex25 h⟩) (fun _ _ => ?_)
          refine at_inv 0 rfl (fun l2408 => ?_)
          replace l2408 : (-9223372036854775808) ≤ x2396.1.ID ∧ x2396.1.ID ≤ 9223372036854775807 := l2408
          refine at_inv 3 rfl (fun l2409 => ?_)
          replace l2409 : (-9223372036854775808) ≤ x2396.2 ∧ x2396.2 ≤ 9223372036854775807 := l2409
          refine aa_pure 4 rfl (by kernel_rfl) rfl rfl (lt_move rfl) rfl (ts_in 1 6 rfl rfl) ?_
          refine aa_pure 5 rfl (by kernel_rfl) rfl rfl (lt_extract rfl rfl) rfl (ts_in 1 6 rfl rfl) ?_
          refine aa_pure 6 rfl (by kernel_rfl) rfl rfl (lt_extract rfl rfl) rfl (ts_in 1 6 rfl rfl) ?_
          refine aa_all (rs := [8]) (by kernel_rfl) rfl (ts_in 1 6 rfl rfl) (List.forall_mem_singleton.2 ?_)
          refine at_one 1 rfl (fun ho2410 => ?_)
          refine aa_op rfl rfl ?_
          refine hv_store_box 0 (cs' := [.int .i64 x2396.1.ID, s2398]) rfl rfl ti25 rfl rfl rfl rfl (allc rfl (allc ho2410 rfl)) ?_
          refine aa_pure 9 rfl (by kernel_rfl) rfl rfl (lt_assign rfl) rfl (ts_in 1 6 rfl rfl) ?_
          refine aa_done (by kernel_rfl) (ts_in 1 6 rfl rfl) ?_
          have hq := oinj hr
          clear hr
          subst hq
          exact at_leaf (s2398, b2407) ⟨⟨rfl, ⟨rfl, ⟨rfl, ⟨rfl, trivial⟩⟩⟩⟩, ⟨[true, false, true], rfl⟩, ⟨[], rfl⟩, ⟨[3, 0, 1, 6, 10, 11, 12], rfl⟩⟩
        ·refine aa_op rfl rfl ?_
         refine hv_alloc (cs := [.int .i64 0, (.slice none 0 0)]) ti25 rfl rfl (fun b2411 => ?_)
         refine aa_all (rs := [1]) (by kernel_rfl) rfl (ts_in 1 0 rfl rfl) (List.forall_mem_singleton.2 ?_)
         refine aa_op rfl rfl ?_
         refine hv_call0 [3] (f15_spec h2394) rfl rfl rfl rfl ?_
         rintro s2395 _ ⟨_, rfl, rfl⟩
         refine aa_all (rs := [3]) (by kernel_rfl) rfl (ts_in 1 1 rfl rfl) (List.forall_mem_singleton.2 ?_)
         refine at_derive [2, 3] (ty25.fact (⟨x2349.ID, x2349.Fields⟩ : D_api_Record) [.int .i64 x2349.ID, v2350]) rfl (fun F w h => mk25 (x := (⟨x2349.ID, x2349.Fields⟩ : D_api_Record)) h) ?_
         refine aa_op rfl rfl ?_
         refine hv_call0 [1, 0, 8] (f16_spec h2397) rfl rfl rfl rfl ?_
         rintro _ _ ⟨s2398, rfl, rfl⟩
         refine at_open (A := Unit) 0 rfl (fun _ => True) (fun _ => [((Ty.int .i64).fact x2396.1.ID [.int .i64 x2396.1.ID]), ((Ty.slice ty69).fact x2396.1.Fields [s2398])]) (fun F w h => ⟨(), trivial, ex25 h⟩) (fun _ _ => ?_)
         refine at_inv 0 rfl (fun l2412 => ?_)
         replace l2412 : (-9223372036854775808) ≤ x2396.1.ID ∧ x2396.1.ID ≤ 9223372036854775807 := l2412
         refine at_inv 3 rfl (fun l2413 => ?_)
         replace l2413 : (-9223372036854775808) ≤ x2396.2 ∧ x2396.2 ≤ 9223372036854775807 := l2413
         refine aa_pure 4 rfl (by kernel_rfl) rfl rfl (lt_move rfl) rfl (ts_in 1 6 rfl rfl) ?_
         refine aa_pure 5 rfl (by kernel_rfl) rfl rfl (lt_extract rfl rfl) rfl (ts_in 1 6 rfl rfl) ?_
         refine aa_pure 6 rfl (by kernel_rfl) rfl rfl (lt_extract rfl rfl) rfl (ts_in 1 6 rfl rfl) ?_
         refine aa_all (rs := [8]) (by kernel_rfl) rfl (ts_in 1 6 rfl rfl) (List.forall_mem_singleton.2 ?_)
         refine at_one 1 rfl (fun ho2414 => ?_)
         refine aa_op rfl rfl ?_
         refine hv_store_box 0 (cs' := [.int .i64 x2396.1.ID, s2398]) rfl rfl ti25 rfl rfl rfl rfl (allc rfl (allc ho2414 rfl)) ?_
         refine aa_pure 9 rfl (by kernel_rfl) rfl rfl (lt_assign rfl) rfl (ts_in 1 6 rfl rfl) ?_
         refine aa_done (by kernel_rfl) (ts_in 1 6 rfl rfl) ?_
         have hq := oinj hr
         clear hr
         subst hq
         exact at_leaf (s2398, b2411) ⟨⟨rfl, ⟨rfl, ⟨rfl, ⟨rfl, trivial⟩⟩⟩⟩, ⟨[true, false, true], rfl⟩, ⟨[], rfl⟩, ⟨[3, 0, 1, 6, 10, 11, 12], rfl⟩⟩
       clear hc2392
       obtain ⟨x2387, x2388⟩ := r2391
       intro e
       obtain ⟨v2389, n2390⟩ := e
       change At _ _ (⟨[(3, .pointer (some (Addr.add ⟨b2320, 0, none⟩ 0))), (6, .int .i64 x2348), (7, .pointer (some (Addr.add ⟨n2390, 0, none⟩ 0))), (8, .int .i64 x2387)], [⟨n2390, [.int .i64 x2388.ID, v2389], 25⟩, ⟨b2320, [.int .i64 x2316.1.ID, s2318], 25⟩], [], [((Ty.int .i64).fact x2387 [.int .i64 x2387]), ((Ty.int .i64).fact x2388.ID [.int .i64 x2388.ID]), ((Ty.slice ty69).fact x2388.Fields [v2389]), ((Ty.int .i64).fact x2348 [.int .i64 x2348]), ((Ty.int .i64).fact x2316.1.ID [.int .i64 x2316.1.ID]), ((Ty.slice ty69).fact x2316.1.Fields [s2318]), (utf8F 1 2)]⟩ : St) _
       refine at_inv 0 rfl (fun l2415 => ?_)
       replace l2415 : (-9223372036854775808) ≤ x2387 ∧ x2387 ≤ 9223372036854775807 := l2415
       refine s_tsr ?_
       refine s_mv rfl ?_
       refine at_lt (lt_eql rfl rfl) rfl ?_
       refine s_mv rfl ?_
       by_cases h2416 : x2348 = 0
       ·replace hr := ipos h2416 hr
        refine at_on rfl rfl (decide_eq_true (by first | exact h2416 | omega)) ?_
        refine s_mv rfl ?_
        refine at_on rfl rfl (decide_eq_true (by first | exact h2416 | omega)) ?_
        refine at_lt (lt_neq rfl rfl) rfl ?_
        refine at_on rfl rfl (decide_eq_true (by first | exact h2416 | omega)) ?_
        refine s_mv rfl ?_
        by_cases h2417 : x2387 = 0
        ·replace hr := ipos h2417 hr
         refine at_on rfl rfl (nt (decide_eq_true (by first | exact h2417 | omega))) ?_
         refine at_lt (lt_load_box 0 rfl ti25 rfl rfl rfl rfl rfl) rfl ?_
         refine at_on rfl rfl (nt (decide_eq_true (by first | exact h2417 | omega))) ?_
         refine at_lt (lt_load_box 1 rfl ti25 rfl rfl rfl rfl rfl) rfl ?_
         replace hr := obind hr
         obtain ⟨x2418, h2419, hr⟩ := hr
         refine at_derive [1, 2] (ty25.fact (⟨x2388.ID, x2388.Fields⟩ : D_api_Record) [.int .i64 x2388.ID, v2389]) rfl (fun F w h => mk25 (x := (⟨x2388.ID, x2388.Fields⟩ : D_api_Record)) h) ?_
         refine at_derive [5, 6] (ty25.fact (⟨x2316.1.ID, x2316.1.Fields⟩ : D_api_Record) [.int .i64 x2316.1.ID, s2318]) rfl (fun F w h => mk25 (x := (⟨x2316.1.ID, x2316.1.Fields⟩ : D_api_Record)) h) ?_
         refine at_on rfl rfl (nt (decide_eq_true (by first | exact h2417 | omega))) ?_
         refine at_hv rfl ?_
         refine hv_call0 [1, 0] (f18_spec h2419) rfl rfl rfl rfl ?_
         rintro _ _ ⟨rfl, rfl⟩
         refine at_on rfl rfl (nt (decide_eq_true (by first | exact h2417 | omega))) ?_
         refine at_lt (lt_not rfl) rfl ?_
         refine at_on rfl rfl (decide_eq_true (by first | exact h2416 | omega)) ?_
         refine at_lt (lt_pick false rfl (nt (decide_eq_true (by first | exact h2417 | omega))) rfl) rfl ?_
         refine at_lt (lt_pick true rfl (decide_eq_true (by first | exact h2416 | omega)) rfl) rfl ?_
         refine s_as rfl ?_
         refine s_nt ?_
         refine at_ret ?_
         have hq := oinj hr
         clear hr
         subst hq
         exact at_return (.bool (!x2418)) [] hS Tryz.results7 (.cons (.tmp rfl) .nil) rfl rfl ⟨rfl, rfl⟩
        replace hr := ineg h2417 hr
        refine at_off rfl rfl (nf (decide_eq_false (by first | exact h2417 | omega))) rfl ?_
        refine at_off rfl rfl (nf (decide_eq_false (by first | exact h2417 | omega))) rfl ?_
        refine at_off rfl rfl (nf (decide_eq_false (by first | exact h2417 | omega))) rfl ?_
        refine at_off rfl rfl (nf (decide_eq_false (by first | exact h2417 | omega))) rfl ?_
        refine at_on rfl rfl (decide_eq_true (by first | exact h2416 | omega)) ?_
        refine at_lt (lt_pick true rfl (nf (decide_eq_false (by first | exact h2417 | omega))) rfl) rfl ?_
        refine at_lt (lt_pick true rfl (decide_eq_true (by first | exact h2416 | omega)) rfl) rfl ?_
        refine s_as rfl ?_
        refine s_nt ?_
        refine at_ret ?_
        have hq := oinj hr
        clear hr
        subst hq
        exact at_return (.bool true) [] hS Tryz.results7 (.cons (.tmp rfl) .nil) rfl rfl ⟨rfl, rfl⟩
       replace hr := ineg h2416 hr
       refine at_off rfl rfl (decide_eq_false (by first | exact h2416 | omega)) rfl ?_
       refine at_off rfl rfl (decide_eq_false (by first | exact h2416 | omega)) rfl ?_
       refine at_off rfl rfl (decide_eq_false (by first | exact h2416 | omega)) rfl ?_
       refine at_offu rfl rfl rfl ?_
       refine at_offu rfl rfl rfl ?_
       refine at_offu rfl rfl rfl ?_
       refine at_offu rfl rfl rfl ?_
       refine at_off rfl rfl (decide_eq_false (by first | exact h2416 | omega)) rfl ?_
       refine at_lt (lt_pick false rfl (decide_eq_false (by first | exact h2416 | omega)) rfl) rfl ?_
       refine s_as rfl ?_
       refine s_nt ?_
       refine at_ret ?_
       have hq := oinj hr
       clear hr
       subst hq
       exact at_return (.bool false) [] hS Tryz.results7 (.cons (.tmp rfl) .nil) rfl rfl ⟨rfl, rfl⟩
      replace hr := ineg h2337 hr
      refine at_true rfl (nf (bf h2337)) ?_
      refine s_sr ?_
      refine s_as rfl ?_
      refine s_nt ?_
      refine at_ret ?_
      have hq := oinj hr
      clear hr
      subst hq
      refine at_then_ret ?_
      exact at_return (.bool false) [] hS Tryz.results7 (.cons (.tmp rfl) .nil) rfl rfl ⟨rfl, rfl⟩
     replace hr := ineg h2331 hr
     refine aa_start 15 (by kernel_rfl) ?_
     refine aa_p 0 rfl (lt_move rfl) ?_
     refine aa_p 1 rfl (lt_not rfl) ?_
     refine aa_p 2 rfl (lt_move rfl) ?_
     refine aa_pg 3 rfl ⟨32, rfl, .inl ⟨_, rfl, gdq (v := false) (nt h2328) rfl⟩⟩ (lt_move rfl) ?_
     refine aa_lg 4 rfl ⟨32, rfl, .inl ⟨_, rfl, gdq (v := false) (nt h2328) rfl⟩⟩ (lt_load_box 0 rfl ti25 rfl rfl rfl rfl rfl) ?_
     refine aa_one 5 ?_
     refine at_derive [1, 2] (ty25.fact (⟨x2316.1.ID, x2316.1.Fields⟩ : D_api_Record) [.int .i64 x2316.1.ID, s2318]) rfl (fun F w h => mk25 (x := (⟨x2316.1.ID, x2316.1.Fields⟩ : D_api_Record)) h) ?_
     refine aa_op rfl ⟨32, rfl, .inl ⟨_, rfl, gdq (v := false) (nt h2328) rfl⟩⟩ ?_
     refine hv_call0 [6, 0] (f13_spec h2330) rfl rfl rfl rfl ?_
     rintro _ _ ⟨rfl, rfl⟩
     refine aa_pure 6 rfl (by kernel_rfl) rfl ⟨32, rfl, .inl ⟨_, rfl, gdq (v := false) (nt h2328) rfl⟩⟩ (lt_not rfl) rfl (ts_in 0 1 rfl rfl) ?_
     refine aa_pure 7 rfl (by kernel_rfl) rfl rfl (lt_pick false rfl (nt h2328) rfl) rfl (ts_in 0 1 rfl rfl) ?_
     refine aa_pure 8 rfl (by kernel_rfl) rfl rfl (lt_move rfl) rfl (ts_in 0 1 rfl rfl) ?_
     refine aa_off 9 rfl (by kernel_rfl) rfl ⟨38, rfl, .inl ⟨_, rfl, gdq (v := true) (nf (bf h2331)) rfl⟩⟩ rfl (ts_in 0 1 rfl rfl) ?_
     refine aa_off 10 rfl (by kernel_rfl) rfl ⟨38, rfl, .inl ⟨_, rfl, gdq (v := true) (nf (bf h2331)) rfl⟩⟩ rfl (ts_in 0 1 rfl rfl) ?_
     refine aa_off 11 rfl (by kernel_rfl) rfl ⟨38, rfl, .inl ⟨_, rfl, gdq (v := true) (nf (bf h2331)) rfl⟩⟩ rfl (ts_in 0 1 rfl rfl) ?_
     refine aa_off 12 rfl (by kernel_rfl) rfl ⟨38, rfl, .inl ⟨_, rfl, gdq (v := true) (nf (bf h2331)) rfl⟩⟩ rfl (ts_in 0 1 rfl rfl) ?_
     refine aa_off 13 rfl (by kernel_rfl) rfl ⟨38, rfl, .inl ⟨_, rfl, gdq (v := true) (nf (bf h2331)) rfl⟩⟩ rfl (ts_in 0 1 rfl rfl) ?_
     refine aa_pure 14 rfl (by kernel_rfl) rfl rfl (lt_pick true rfl (nf (bf h2331)) rfl) rfl (ts_in 0 1 rfl rfl) ?_
     refine aa_done (by kernel_rfl) (ts_in 0 1 rfl rfl) ?_
     refine at_then ?_
     refine at_true rfl rfl ?_
     refine s_sr ?_
     refine s_as rfl ?_
     refine s_nt ?_
     refine at_ret ?_
     have hq := oinj hr
     clear hr
     subst hq
     refine at_then_ret ?_
     exact at_return (.bool false) [] hS Tryz.results7 (.cons (.tmp rfl) .nil) rfl rfl ⟨rfl, rfl⟩
    replace hr := ineg h2328 hr
    refine aa_start 15 (by kernel_rfl) ?_
    refine aa_p 0 rfl (lt_move rfl) ?_
    refine aa_p 1 rfl (lt_not rfl) ?_
    refine aa_p 2 rfl (lt_move rfl) ?_
    refine aa_o 3 rfl ⟨32, rfl, .inl ⟨_, rfl, gdq (v := true) (nf (bf h2328)) rfl⟩⟩ ?_
    refine aa_o 4 rfl ⟨32, rfl, .inl ⟨_, rfl, gdq (v := true) (nf (bf h2328)) rfl⟩⟩ ?_
    refine aa_o 5 rfl ⟨32, rfl, .inl ⟨_, rfl, gdq (v := true) (nf (bf h2328)) rfl⟩⟩ ?_
    refine aa_o 6 rfl ⟨32, rfl, .inl ⟨_, rfl, gdq (v := true) (nf (bf h2328)) rfl⟩⟩ ?_
    refine aa_p 7 rfl (lt_pick true rfl (nf (bf h2328)) rfl) ?_
    refine aa_p 8 rfl (lt_move rfl) ?_
    refine aa_o 9 rfl ⟨38, rfl, .inl ⟨_, rfl, gdq (v := true) rfl rfl⟩⟩ ?_
    refine aa_o 10 rfl ⟨38, rfl, .inl ⟨_, rfl, gdq (v := true) rfl rfl⟩⟩ ?_
    refine aa_o 11 rfl ⟨38, rfl, .inl ⟨_, rfl, gdq (v := true) rfl rfl⟩⟩ ?_
    refine aa_o 12 rfl ⟨38, rfl, .inl ⟨_, rfl, gdq (v := true) rfl rfl⟩⟩ ?_
    refine aa_o 13 rfl ⟨38, rfl, .inl ⟨_, rfl, gdq (v := true) rfl rfl⟩⟩ ?_
    refine aa_p 14 rfl (lt_pick true rfl rfl rfl) ?_
    refine aa_done (by kernel_rfl) (ts_in 0 0 rfl rfl) ?_
    refine at_then ?_
    refine at_true rfl rfl ?_
    refine s_sr ?_
    refine s_as rfl ?_
    refine s_nt ?_
    refine at_ret ?_
    have hq := oinj hr
    clear hr
    subst hq
    refine at_then_ret ?_
    exact at_return (.bool false) [] hS Tryz.results7 (.cons (.tmp rfl) .nil) rfl rfl ⟨rfl, rfl⟩
   replace hr := ineg h2312 hr
   refine at_true rfl (nf (bf h2312)) ?_
   refine s_sr ?_
   refine s_as rfl ?_
   refine s_nt ?_
   refine at_ret ?_
   have hq := oinj hr
   clear hr
   subst hq
   refine at_then_ret ?_
   exact at_return (.bool true) [] hS Tryz.results7 (.cons (.tmp rfl) .nil) rfl rfl ⟨rfl, rfl⟩
  replace hr := ineg h2309 hr
  refine at_off rfl rfl (nf (bf h2309)) rfl ?_
  refine at_off rfl rfl (nf (bf h2309)) rfl ?_
  refine at_off rfl rfl (nf (bf h2309)) rfl ?_
  refine at_lt (lt_pick true rfl (nf (bf h2309)) rfl) rfl ?_
  refine s_nt ?_
  refine at_true rfl rfl ?_
  refine s_sr ?_
  refine s_as rfl ?_
  refine s_nt ?_
  refine at_ret ?_
  have hq := oinj hr
  clear hr
  subst hq
  refine at_then_ret ?_
  exact at_return (.bool true) [] hS Tryz.results7 (.cons (.tmp rfl) .nil) rfl rfl ⟨rfl, rfl⟩
 replace hr := ineg h2306 hr
 refine at_true rfl (nf (bf h2306)) ?_
 refine s_sr ?_
 refine s_as rfl ?_
 refine s_nt ?_
 refine at_ret ?_
 have hq := oinj hr
 clear hr
 subst hq
 refine at_then_ret ?_
 exact at_return (.bool false) [] hS Tryz.results7 (.cons (.tmp rfl) .nil) rfl rfl ⟨rfl, rfl⟩
end Go.WK.S
