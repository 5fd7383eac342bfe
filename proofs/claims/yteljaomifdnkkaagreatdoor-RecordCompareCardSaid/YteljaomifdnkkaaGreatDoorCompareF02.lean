
/- What functions of this program compute: a model of each, and the proof that it is kept. -/
import Derived.Test.YteljaomifdnkkaaGreatDoorCompareF01
import Derived.KernelRfl
set_option linter.unusedSimpArgs false
set_option linter.unusedVariables false
namespace Go.WK.S
open Go Go.Proofs Go.WK Go.RowKit
set_option linter.unusedVariables false
set_option maxRecDepth 100000
set_option maxHeartbeats 4000000
def m50_l2 (x485 : D_api_Sub) : Nat → Nat → (List UInt8) → Option (List UInt8)
  | 0, _, _ => none
  | k + 1, x500, x501 =>
    if x500 < x485.Value.length then
     (x485.Value[x500]?).bind fun c512 =>
     Option.bind (α := (List UInt8)) (
      if c512.toNat = 36 then
       if x501.length + 1 ≤ 140737488355328 then
        some (x501 ++ [92])
       else none
      else
       if c512.toNat = 92 then
        if x501.length + 1 ≤ 140737488355328 then
         some (x501 ++ [92])
        else none
       else
        some x501
     ) fun x514 =>
     (x485.Value[x500]?).bind fun c527 =>
     if x514.length + 1 ≤ 140737488355328 then
      m50_l2 x485 k (x500 + 1) (x514 ++ [c527])
     else none
    else
     some x501
def m50_l1 (a0 : D_api_Field) : Nat → Nat → (List UInt8) → Option (List UInt8)
  | 0, _, _ => none
  | k + 1, x473, x474 =>
    if x473 < a0.Subs.length then
     (a0.Subs[x473]?).bind fun x485 =>
     if x474.length + ([32, 36] : Str).length ≤ 140737488355328 then
      if (x474 ++ ([32, 36] : Str)).length + 1 ≤ 140737488355328 then
       if (x474 ++ ([32, 36] : Str) ++ [x485.Code]).length + 1 ≤ 140737488355328 then
        (m50_l2 x485 (x485.Value.length + 1) 0 (x474 ++ ([32, 36] : Str) ++ [x485.Code] ++ [32])).bind fun x505 =>
        m50_l1 a0 k (x473 + 1) x505
       else none
      else none
     else none
    else
     some x474
def m50 (a0 : D_api_Field) : Option Str :=
  if a0.Tag.length + ([32] : Str).length ≤ 9223372036854775807 then
   if ([] : (List UInt8)).length + (a0.Tag ++ ([32] : Str)).length ≤ 140737488355328 then
    (m106 a0.Ind_0).bind fun x461 =>
    if (([] : (List UInt8)) ++ (a0.Tag ++ ([32] : Str))).length + 1 ≤ 140737488355328 then
     (m106 a0.Ind_1).bind fun x466 =>
     if (([] : (List UInt8)) ++ (a0.Tag ++ ([32] : Str)) ++ [x461]).length + 1 ≤ 140737488355328 then
      (m50_l1 a0 (a0.Subs.length + 1) 0 (([] : (List UInt8)) ++ (a0.Tag ++ ([32] : Str)) ++ [x461] ++ [x466])).bind fun x478 =>
      if 0 < x478.length ∧ x478.length ≤ 140737488355328 then
       some x478
      else none
     else none
    else none
   else none
  else none
def post50 (r : Str) (v : Value) (fs : List Fact) : Prop := v = str r ∧ fs = [(Ty.str.fact r [str r])]
theorem en50 : Enters Tryz.prog 50 := ⟨_, Tryz.func50, by kernel_rfl, rfl⟩
theorem f50_spec {a0 : D_api_Field} {s454 : Value} {r : Str} (hr : m50 a0 = some r) : Spec Tryz.prog 50 [.agg #[str a0.Tag, .int .u8 (a0.Ind_0.toNat : Int), .int .u8 (a0.Ind_1.toNat : Int), s454]] [(ty59.fact a0 [str a0.Tag, .int .u8 (a0.Ind_0.toNat : Int), .int .u8 (a0.Ind_1.toNat : Int), s454])] (post50 r) := by
 refine spec_start (N := 59) Tryz.func50 (by kernel_rfl) rfl rfl rfl ?_
 intro g hS
 unfold m50 at hr
 refine at_open (A := Unit) 0 rfl (fun _ => True) (fun _ => [(Ty.str.fact a0.Tag [str a0.Tag]), ((Ty.slice ty67).fact a0.Subs [s454])]) (fun F w h => ⟨(), trivial, ex59 h⟩) (fun _ _ => ?_)
 refine s_sr (at_hv rfl ?_)
 refine hv_box (cs := [str a0.Tag, .int .u8 (a0.Ind_0.toNat : Int), .int .u8 (a0.Ind_1.toNat : Int), s454]) rfl rfl rfl (fun b455 => ?_)
 refine s_as rfl (s_ntsr (at_hv rfl ?_))
 refine hv_alloc (cs := [(.pointer none), (.slice none 0 0)]) ti115 rfl rfl (fun b456 => ?_)
 refine s_ntsr (at_lt (lt_fieldAddr 0 rfl fld59_0 rfl) rfl (at_lt (lt_load_box 1 rfl ti9 rfl rfl rfl rfl rfl) rfl ?_))
 replace hr := imust hr
 obtain ⟨h457, hr⟩ := hr
 refine at_lt (lt_sadd rfl rfl h457) rfl ?_
 replace hr := imust hr
 obtain ⟨h458, hr⟩ := hr
 refine at_rownew none 5 1 (at_rownil Ty.u8 (at_hv rfl (hv_callH0 [true, false] [true] [0] (f104_spec (a1 := a0.Tag ++ ([32] : Str)) (.inl rfl) h458) rfl rfl rfl rfl rfl rfl rfl rfl ?_)))
 rintro _ _ _ _ ⟨rfl, s459, i460, rfl, rfl, rfl⟩
 refine s_ntsr (at_lt (lt_fieldAddr 1 rfl fld59_1 rfl) rfl (at_lt (lt_aidx 0 rfl rfl rfl rfl und56 ti5 rfl) rfl (at_lt (lt_load_box 1 rfl ti5 rfl rfl rfl rfl rfl) rfl ?_)))
 replace hr := obind hr
 obtain ⟨x461, h462, hr⟩ := hr
 refine at_hv rfl (hv_call0 [] (f106_spec h462) rfl rfl rfl rfl ?_)
 rintro _ _ ⟨rfl, rfl⟩
 replace hr := imust hr
 obtain ⟨h463, hr⟩ := hr
 refine at_hv rfl (hv_callH0 [true, false] [true] [0] (f105_spec (a1 := x461) (.inr rfl) h463) rfl rfl rfl rfl rfl rfl rfl rfl ?_)
 rintro _ _ _ _ ⟨rfl, s464, i465, rfl, rfl, rfl⟩
 refine s_ntsr (at_lt (lt_fieldAddr 1 rfl fld59_1 rfl) rfl (at_lt (lt_aidx 1 rfl rfl rfl rfl und56 ti5 rfl) rfl (at_lt (lt_load_box 1 rfl ti5 rfl rfl rfl rfl rfl) rfl ?_)))
 replace hr := obind hr
 obtain ⟨x466, h467, hr⟩ := hr
 refine at_hv rfl (hv_call0 [] (f106_spec h467) rfl rfl rfl rfl ?_)
 rintro _ _ ⟨rfl, rfl⟩
 replace hr := imust hr
 obtain ⟨h468, hr⟩ := hr
 refine at_hv rfl (hv_callH0 [true, false] [true] [0] (f105_spec (a1 := x466) (.inr rfl) h468) rfl rfl rfl rfl rfl rfl rfl rfl ?_)
 rintro _ _ _ _ ⟨rfl, s469, i470, rfl, rfl, rfl⟩
 refine s_nt (at_seq (s_sr (at_lt (lt_fieldAddr 3 rfl fld59_2 rfl) rfl (at_lt (lt_load_box 1 rfl ti57 rfl rfl rfl rfl rfl) rfl ?_))))
 refine at_inv 5 rfl (fun i471 => ?_)
 have l472 := slice_len i471
 refine at_lt (lt_flen 5 rfl rfl und57) rfl (s_mv rfl (s_nt (at_int .i64 0 (by simp only [lo, hi]; omega) ?_)))
 refine at_mkpure (q := ((([] : (List UInt8)) ++ (a0.Tag ++ ([32] : Str)) ++ [x461] ++ [x466]).length * Ty.u8.bytes ≤ 140737488355328)) (by have hb_ := h468; simp only [List.length_append, List.length_cons, List.length_nil, Ty.int_bytes, Ty.u8_bytes, Ty.str_bytes, Ty.slice_bytes, Ty.bool_bytes, nb] at hb_ ⊢; omega) ?_
 replace hr := obind hr
 obtain ⟨x478, hl482, hr⟩ := hr
 refine at_cut (V := Value × Nat × (List Value)) (fun e => (⟨[(3, .pointer (some (Addr.add ⟨b456, 0, none⟩ 0)))], [⟨b456, [(kbp b456), e.1], 115⟩], [⟨e.1, 5, 1, e.2.1, e.2.2⟩], [(Ty.u8.row x478 e.2.2), (pureF (x478.length * Ty.u8.bytes ≤ 140737488355328))]⟩ : St)) ?_ ?_
 ·refine at_block ?_
  refine at_loopW (σ := (Nat × (List UInt8))) (V := Value × Nat × (List Value)) (r := x478) (fun n s => m50_l1 a0 n s.1 s.2) (fun s e => (⟨[(3, .pointer (some (Addr.add ⟨b456, 0, none⟩ 0))), (23, s454), (24, .int .i64 (a0.Subs.length : Int)), (25, .int .i64 (s.1 : Int))], [⟨b456, [(kbp b456), e.1], 115⟩], [⟨e.1, 5, 1, e.2.1, e.2.2⟩], [((Ty.int .i64).fact (s.1 : Int) [.int .i64 (s.1 : Int)]), (Ty.u8.row s.2 e.2.2), (pureF (s.2.length * Ty.u8.bytes ≤ 140737488355328)), ((Ty.slice ty67).fact a0.Subs [s454])]⟩ : St)) (fun _ => rfl) _ (0, ([] : (List UInt8)) ++ (a0.Tag ++ ([32] : Str)) ++ [x461] ++ [x466]) (s469, 0 + (a0.Tag ++ ([32] : Str)).length + 1 + 1, i470) hl482 ⟨⟨rfl, ⟨rfl, ⟨rfl, ⟨rfl, trivial⟩⟩⟩⟩, ⟨[true, false], rfl⟩, ⟨[true], rfl⟩, ⟨[1, 2, 0, 7], rfl⟩⟩ ?_
  clear hr hl482
  intro n s hr e
  obtain ⟨x473, x474⟩ := s
  obtain ⟨v475, n476, i477⟩ := e
  change m50_l1 a0 (n + 1) x473 x474 = some x478 at hr
  change At _ _ (⟨[(3, .pointer (some (Addr.add ⟨b456, 0, none⟩ 0))), (23, s454), (24, .int .i64 (a0.Subs.length : Int)), (25, .int .i64 (x473 : Int))], [⟨b456, [(kbp b456), v475], 115⟩], [⟨v475, 5, 1, n476, i477⟩], [((Ty.int .i64).fact (x473 : Int) [.int .i64 (x473 : Int)]), (Ty.u8.row x474 i477), (pureF (x474.length * Ty.u8.bytes ≤ 140737488355328)), ((Ty.slice ty67).fact a0.Subs [s454])]⟩ : St) _
  rw [m50_l1] at hr
  refine s_sr (at_lt (lt_lss rfl rfl) rfl (s_nt (at_seq ?_)))
  by_cases h484 : x473 < a0.Subs.length
  ·replace hr := ipos h484 hr
   refine at_true rfl (decide_eq_true (by omega)) ?_
   refine at_skip (at_then (at_seq (at_block (s_sr ?_))))
   replace hr := obind hr
   obtain ⟨x485, h486, hr⟩ := hr
   have := (List.getElem?_eq_some_iff.1 h486).1
   refine at_elem 3 rfl (nat_at' h486) (fun p487 ec pa488 => ?_)
   refine at_open (A := Unit) 0 rfl _ _ (fun F w h => op67 h) ?_
   rintro _ rfl
   refine at_lt (lt_idx rfl rfl pa488 und57 ti67) rfl (at_lt (lt_load_peek 2 rfl ti67 rfl rfl rfl rfl rfl) rfl (at_hv rfl ?_))
   refine hv_alloc (cs := [.int .u8 0, str ([] : Str)]) ti67 rfl rfl (fun b489 => ?_)
   refine at_hv rfl (hv_store_box 0 (cs' := [.int .u8 (x485.Code.toNat : Int), str x485.Value]) rfl rfl ti67 rfl rfl rfl rfl rfl (s_ntsr ?_))
   replace hr := imust hr
   obtain ⟨h490, hr⟩ := hr
   refine at_hv rfl (hv_callH0 [false, true] [true] [4] (f104_spec (a1 := ([32, 36] : Str)) (.inr rfl) h490) rfl rfl rfl rfl rfl rfl rfl rfl ?_)
   rintro _ _ _ _ ⟨rfl, s491, i492, rfl, rfl, rfl⟩
   refine s_ntsr (at_lt (lt_fieldAddr 0 rfl fld67_0 rfl) rfl (at_lt (lt_load_box 1 rfl ti5 rfl rfl rfl rfl rfl) rfl ?_))
   replace hr := imust hr
   obtain ⟨h493, hr⟩ := hr
   refine at_hv rfl (hv_callH0 [true, false] [true] [0] (f105_spec (a1 := x485.Code) (.inr rfl) h493) rfl rfl rfl rfl rfl rfl rfl rfl ?_)
   rintro _ _ _ _ ⟨rfl, s494, i495, rfl, rfl, rfl⟩
   refine s_ntsr ?_
   replace hr := imust hr
   obtain ⟨h496, hr⟩ := hr
   refine at_hv rfl (hv_callH0 [true, false] [true] [0] (f105_spec (a1 := 32) (.inr rfl) h496) rfl rfl rfl rfl rfl rfl rfl rfl ?_)
   rintro _ _ _ _ ⟨rfl, s497, i498, rfl, rfl, rfl⟩
   refine s_ntsr (at_lt (lt_fieldAddr 1 rfl fld67_1 rfl) rfl (at_lt (lt_load_box 1 rfl ti9 rfl rfl rfl rfl rfl) rfl ?_))
   refine at_inv 3 rfl (fun l499 => ?_)
   replace l499 : x485.Value.length ≤ 9223372036854775807 := l499
   refine at_lt (lt_slen rfl und9) rfl (s_mv rfl (s_nt (at_int .i64 0 (by simp only [lo, hi]; omega) ?_)))
   refine at_mkpure (q := ((x474 ++ ([32, 36] : Str) ++ [x485.Code] ++ [32]).length * Ty.u8.bytes ≤ 140737488355328)) (by have hb_ := h496; simp only [List.length_append, List.length_cons, List.length_nil, Ty.int_bytes, Ty.u8_bytes, Ty.str_bytes, Ty.slice_bytes, Ty.bool_bytes, nb] at hb_ ⊢; omega) ?_
   replace hr := obind hr
   obtain ⟨x505, hl509, hr⟩ := hr
   refine at_cut (V := Value × Nat × (List Value)) (fun e => (⟨[(3, .pointer (some (Addr.add ⟨b456, 0, none⟩ 0))), (23, s454), (24, .int .i64 (a0.Subs.length : Int)), (25, .int .i64 (x473 : Int))], [⟨b456, [(kbp b456), e.1], 115⟩], [⟨e.1, 5, 1, e.2.1, e.2.2⟩], [(Ty.u8.row x505 e.2.2), (pureF (x505.length * Ty.u8.bytes ≤ 140737488355328)), ((Ty.slice ty67).fact a0.Subs [s454]), ((Ty.int .i64).fact (x473 : Int) [.int .i64 (x473 : Int)])]⟩ : St)) ?_ ?_
   ·refine at_block ?_
    refine at_loopW (σ := (Nat × (List UInt8))) (V := Value × Nat × (List Value)) (r := x505) (fun n s => m50_l2 x485 n s.1 s.2) (fun s e => (⟨[(3, .pointer (some (Addr.add ⟨b456, 0, none⟩ 0))), (5, .pointer (some (Addr.add ⟨b489, 0, none⟩ 0))), (23, s454), (24, .int .i64 (a0.Subs.length : Int)), (25, .int .i64 (x473 : Int)), (36, .int .i64 (x485.Value.length : Int)), (37, .int .i64 (s.1 : Int))], [⟨b456, [(kbp b456), e.1], 115⟩, ⟨b489, [.int .u8 (x485.Code.toNat : Int), str x485.Value], 67⟩], [⟨e.1, 5, 1, e.2.1, e.2.2⟩], [((Ty.int .i64).fact (s.1 : Int) [.int .i64 (s.1 : Int)]), (Ty.u8.row s.2 e.2.2), (pureF (s.2.length * Ty.u8.bytes ≤ 140737488355328)), ((Ty.slice ty67).fact a0.Subs [s454]), ((Ty.int .i64).fact (x473 : Int) [.int .i64 (x473 : Int)]), (Ty.str.fact x485.Value [str x485.Value])]⟩ : St)) (fun _ => rfl) _ (0, x474 ++ ([32, 36] : Str) ++ [x485.Code] ++ [32]) (s497, n476 + ([32, 36] : Str).length + 1 + 1, i498) hl509 ⟨⟨rfl, ⟨rfl, ⟨rfl, ⟨rfl, ⟨rfl, ⟨rfl, ⟨rfl, trivial⟩⟩⟩⟩⟩⟩⟩, ⟨[true, true], rfl⟩, ⟨[true], rfl⟩, ⟨[1, 2, 0, 11, 8, 5], rfl⟩⟩ ?_
    clear hr hl509
    intro n s hr e
    obtain ⟨x500, x501⟩ := s
    obtain ⟨v502, n503, i504⟩ := e
    change m50_l2 x485 (n + 1) x500 x501 = some x505 at hr
    change At _ _ (⟨[(3, .pointer (some (Addr.add ⟨b456, 0, none⟩ 0))), (5, .pointer (some (Addr.add ⟨b489, 0, none⟩ 0))), (23, s454), (24, .int .i64 (a0.Subs.length : Int)), (25, .int .i64 (x473 : Int)), (36, .int .i64 (x485.Value.length : Int)), (37, .int .i64 (x500 : Int))], [⟨b456, [(kbp b456), v502], 115⟩, ⟨b489, [.int .u8 (x485.Code.toNat : Int), str x485.Value], 67⟩], [⟨v502, 5, 1, n503, i504⟩], [((Ty.int .i64).fact (x500 : Int) [.int .i64 (x500 : Int)]), (Ty.u8.row x501 i504), (pureF (x501.length * Ty.u8.bytes ≤ 140737488355328)), ((Ty.slice ty67).fact a0.Subs [s454]), ((Ty.int .i64).fact (x473 : Int) [.int .i64 (x473 : Int)]), (Ty.str.fact x485.Value [str x485.Value])]⟩ : St) _
    rw [m50_l2] at hr
    refine s_sr (at_lt (lt_lss rfl rfl) rfl (s_nt (at_seq ?_)))
    by_cases h511 : x500 < x485.Value.length
    ·replace hr := ipos h511 hr
     refine at_true rfl (decide_eq_true (by omega)) ?_
     refine at_skip (at_then (at_seq (at_block (s_sr (s_mv rfl (s_as rfl (s_nt (at_seq (s_sr ?_)))))))))
     refine at_lt (lt_fieldAddr 1 rfl fld67_1 rfl) rfl (at_lt (lt_load_box 1 rfl ti9 rfl rfl rfl rfl rfl) rfl (s_mv rfl ?_))
     replace hr := obind hr
     obtain ⟨c512, h513, hr⟩ := hr
     have := (List.getElem?_eq_some_iff.1 h513).1
     have := c512.toNat_lt
     refine at_lt (lt_sidx rfl rfl und9 (by omega) (nat_at h513)) rfl ?_
     refine s_as rfl (s_nt (at_seq ?_))
     replace hr := obind hr
     obtain ⟨x514, hc518, hr⟩ := hr
     refine at_cutR1 (V := Value × Nat × (List Value)) (fun e => (⟨[(3, .pointer (some (Addr.add ⟨b456, 0, none⟩ 0))), (5, .pointer (some (Addr.add ⟨b489, 0, none⟩ 0))), (6, .int .i64 (x500 : Int)), (23, s454), (24, .int .i64 (a0.Subs.length : Int)), (25, .int .i64 (x473 : Int)), (36, .int .i64 (x485.Value.length : Int)), (37, .int .i64 (x500 : Int))], [⟨b456, [(kbp b456), e.1], 115⟩, ⟨b489, [.int .u8 (x485.Code.toNat : Int), str x485.Value], 67⟩], [⟨e.1, 5, 1, e.2.1, e.2.2⟩], [(Ty.u8.row x514 e.2.2), (pureF (x514.length * Ty.u8.bytes ≤ 140737488355328)), ((Ty.int .i64).fact (x500 : Int) [.int .i64 (x500 : Int)]), ((Ty.slice ty67).fact a0.Subs [s454]), ((Ty.int .i64).fact (x473 : Int) [.int .i64 (x473 : Int)]), (Ty.str.fact x485.Value [str x485.Value])]⟩ : St)) ?_ ?_
     ·clear hr
      have hr := hc518
      clear hc518
      refine at_region (s_mv rfl (at_lt (lt_eql rfl rfl) rfl (s_mv rfl ?_)))
      by_cases h519 : c512.toNat = 36
      ·replace hr := ipos h519 hr
       refine at_off rfl rfl (decide_eq_true (by omega)) rfl ?_
       refine at_off rfl rfl (decide_eq_true (by omega)) rfl ?_
       refine at_lt (lt_pick true rfl (decide_eq_true (by omega)) rfl) rfl ?_
       refine s_nt (at_true rfl rfl (at_region ?_))
       replace hr := imust hr
       obtain ⟨h520, hr⟩ := hr
       refine at_hv rfl (hv_callH0 [true, false] [true] [1] (f105_spec (a1 := 92) (.inr rfl) h520) rfl rfl rfl rfl rfl rfl rfl rfl ?_)
       rintro _ _ _ _ ⟨rfl, s521, i522, rfl, rfl, rfl⟩
       refine at_nil ?_
       have hq := oinj hr
       clear hr
       subst hq
       refine at_mkpure (q := ((x501 ++ [92]).length * Ty.u8.bytes ≤ 140737488355328)) (by have hb_ := h520; simp only [List.length_append, List.length_cons, List.length_nil, Ty.int_bytes, Ty.u8_bytes, Ty.str_bytes, Ty.slice_bytes, Ty.bool_bytes, nb] at hb_ ⊢; omega) ?_
       exact at_leaf (s521, n503 + 1, i522) ⟨⟨rfl, ⟨rfl, ⟨rfl, ⟨rfl, ⟨rfl, ⟨rfl, ⟨rfl, ⟨rfl, trivial⟩⟩⟩⟩⟩⟩⟩⟩, ⟨[true, true], rfl⟩, ⟨[true], rfl⟩, ⟨[1, 0, 2, 5, 6, 7], rfl⟩⟩
      replace hr := ineg h519 hr
      refine at_on rfl rfl (decide_eq_false (by omega)) ?_
      refine s_mv rfl ?_
      refine at_on rfl rfl (decide_eq_false (by omega)) ?_
      refine at_lt (lt_eql rfl rfl) rfl ?_
      refine at_lt (lt_pick false rfl (decide_eq_false (by omega)) rfl) rfl ?_
      refine s_nt ?_
      by_cases h523 : c512.toNat = 92
      ·replace hr := ipos h523 hr
       refine at_true rfl (decide_eq_true (by omega)) ?_
       refine at_region ?_
       replace hr := imust hr
       obtain ⟨h524, hr⟩ := hr
       refine at_hv rfl (hv_callH0 [true, false] [true] [1] (f105_spec (a1 := 92) (.inr rfl) h524) rfl rfl rfl rfl rfl rfl rfl rfl ?_)
       rintro _ _ _ _ ⟨rfl, s525, i526, rfl, rfl, rfl⟩
       refine at_nil ?_
       have hq := oinj hr
       clear hr
       subst hq
       refine at_mkpure (q := ((x501 ++ [92]).length * Ty.u8.bytes ≤ 140737488355328)) (by have hb_ := h524; simp only [List.length_append, List.length_cons, List.length_nil, Ty.int_bytes, Ty.u8_bytes, Ty.str_bytes, Ty.slice_bytes, Ty.bool_bytes, nb] at hb_ ⊢; omega) ?_
       exact at_leaf (s525, n503 + 1, i526) ⟨⟨rfl, ⟨rfl, ⟨rfl, ⟨rfl, ⟨rfl, ⟨rfl, ⟨rfl, ⟨rfl, trivial⟩⟩⟩⟩⟩⟩⟩⟩, ⟨[true, true], rfl⟩, ⟨[true], rfl⟩, ⟨[1, 0, 2, 5, 6, 7], rfl⟩⟩
      replace hr := ineg h523 hr
      refine at_false rfl (decide_eq_false (by omega)) ?_
      refine at_skip ?_
      have hq := oinj hr
      clear hr
      subst hq
      exact at_leaf (v502, n503, i504) ⟨⟨rfl, ⟨rfl, ⟨rfl, ⟨rfl, ⟨rfl, ⟨rfl, ⟨rfl, ⟨rfl, trivial⟩⟩⟩⟩⟩⟩⟩⟩, ⟨[true, true], rfl⟩, ⟨[true], rfl⟩, ⟨[1, 2, 0, 3, 4, 5], rfl⟩⟩
     clear hc518
     intro e
     obtain ⟨v515, n516, i517⟩ := e
     change At _ _ (⟨[(3, .pointer (some (Addr.add ⟨b456, 0, none⟩ 0))), (5, .pointer (some (Addr.add ⟨b489, 0, none⟩ 0))), (6, .int .i64 (x500 : Int)), (23, s454), (24, .int .i64 (a0.Subs.length : Int)), (25, .int .i64 (x473 : Int)), (36, .int .i64 (x485.Value.length : Int)), (37, .int .i64 (x500 : Int))], [⟨b456, [(kbp b456), v515], 115⟩, ⟨b489, [.int .u8 (x485.Code.toNat : Int), str x485.Value], 67⟩], [⟨v515, 5, 1, n516, i517⟩], [(Ty.u8.row x514 i517), (pureF (x514.length * Ty.u8.bytes ≤ 140737488355328)), ((Ty.int .i64).fact (x500 : Int) [.int .i64 (x500 : Int)]), ((Ty.slice ty67).fact a0.Subs [s454]), ((Ty.int .i64).fact (x473 : Int) [.int .i64 (x473 : Int)]), (Ty.str.fact x485.Value [str x485.Value])]⟩ : St) _
     refine s_tr (at_lt (lt_fieldAddr 1 rfl fld67_1 rfl) rfl (at_lt (lt_load_box 1 rfl ti9 rfl rfl rfl rfl rfl) rfl (s_mv rfl ?_)))
     replace hr := obind hr
     obtain ⟨c527, h528, hr⟩ := hr
     have := (List.getElem?_eq_some_iff.1 h528).1
     have := c527.toNat_lt
     refine at_lt (lt_sidx rfl rfl und9 (by omega) (nat_at h528)) rfl ?_
     replace hr := imust hr
     obtain ⟨h529, hr⟩ := hr
     refine at_hv rfl (hv_callH0 [true, false] [true] [0] (f105_spec (a1 := c527) (.inr rfl) h529) rfl rfl rfl rfl rfl rfl rfl rfl ?_)
     rintro _ _ _ _ ⟨rfl, s530, i531, rfl, rfl, rfl⟩
     refine at_nil (at_in (s_tr (at_lt (lt_add rfl rfl (by simp only [lo, hi]; omega)) rfl (s_mv rfl (at_nil (at_int .i64 (x500 + 1 : Int) (by simp only [lo, hi]; omega) ?_))))))
     refine at_mkpure (q := ((x514 ++ [c527]).length * Ty.u8.bytes ≤ 140737488355328)) (by have hb_ := h529; simp only [List.length_append, List.length_cons, List.length_nil, Ty.int_bytes, Ty.u8_bytes, Ty.str_bytes, Ty.slice_bytes, Ty.bool_bytes, nb] at hb_ ⊢; omega) ?_
     exact at_again (σ := (Nat × (List UInt8))) (V := Value × Nat × (List Value)) (lp := fun n s => m50_l2 x485 n s.1 s.2) (S := fun s e => (⟨[(3, .pointer (some (Addr.add ⟨b456, 0, none⟩ 0))), (5, .pointer (some (Addr.add ⟨b489, 0, none⟩ 0))), (23, s454), (24, .int .i64 (a0.Subs.length : Int)), (25, .int .i64 (x473 : Int)), (36, .int .i64 (x485.Value.length : Int)), (37, .int .i64 (s.1 : Int))], [⟨b456, [(kbp b456), e.1], 115⟩, ⟨b489, [.int .u8 (x485.Code.toNat : Int), str x485.Value], 67⟩], [⟨e.1, 5, 1, e.2.1, e.2.2⟩], [((Ty.int .i64).fact (s.1 : Int) [.int .i64 (s.1 : Int)]), (Ty.u8.row s.2 e.2.2), (pureF (s.2.length * Ty.u8.bytes ≤ 140737488355328)), ((Ty.slice ty67).fact a0.Subs [s454]), ((Ty.int .i64).fact (x473 : Int) [.int .i64 (x473 : Int)]), (Ty.str.fact x485.Value [str x485.Value])]⟩ : St)) (x500 + 1, x514 ++ [c527]) (s530, n516 + 1, i531) hr ⟨⟨rfl, ⟨rfl, ⟨rfl, ⟨rfl, ⟨rfl, ⟨rfl, ⟨rfl, trivial⟩⟩⟩⟩⟩⟩⟩, ⟨[true, true], rfl⟩, ⟨[true], rfl⟩, ⟨[1, 2, 0, 6, 7, 8], rfl⟩⟩
    replace hr := ineg h511 hr
    refine at_false rfl (decide_eq_false (by omega)) ?_
    refine at_exit (at_then_exit (at_then_exit (at_in_exit ?_)))
    have hq := oinj hr
    clear hr
    subst hq
    exact at_leaf (v502, n503, i504) ⟨⟨rfl, ⟨rfl, ⟨rfl, ⟨rfl, trivial⟩⟩⟩⟩, ⟨[true, false], rfl⟩, ⟨[true], rfl⟩, ⟨[1, 2, 3, 4], rfl⟩⟩
   clear hl509
   intro e
   obtain ⟨v506, n507, i508⟩ := e
   change At _ _ (⟨[(3, .pointer (some (Addr.add ⟨b456, 0, none⟩ 0))), (23, s454), (24, .int .i64 (a0.Subs.length : Int)), (25, .int .i64 (x473 : Int))], [⟨b456, [(kbp b456), v506], 115⟩], [⟨v506, 5, 1, n507, i508⟩], [(Ty.u8.row x505 i508), (pureF (x505.length * Ty.u8.bytes ≤ 140737488355328)), ((Ty.slice ty67).fact a0.Subs [s454]), ((Ty.int .i64).fact (x473 : Int) [.int .i64 (x473 : Int)])]⟩ : St) _
   refine at_in (s_tr (at_lt (lt_add rfl rfl (by simp only [lo, hi]; omega)) rfl (s_mv rfl (at_nil (at_int .i64 (x473 + 1 : Int) (by simp only [lo, hi]; omega) ?_)))))
   exact at_again (σ := (Nat × (List UInt8))) (V := Value × Nat × (List Value)) (lp := fun n s => m50_l1 a0 n s.1 s.2) (S := fun s e => (⟨[(3, .pointer (some (Addr.add ⟨b456, 0, none⟩ 0))), (23, s454), (24, .int .i64 (a0.Subs.length : Int)), (25, .int .i64 (s.1 : Int))], [⟨b456, [(kbp b456), e.1], 115⟩], [⟨e.1, 5, 1, e.2.1, e.2.2⟩], [((Ty.int .i64).fact (s.1 : Int) [.int .i64 (s.1 : Int)]), (Ty.u8.row s.2 e.2.2), (pureF (s.2.length * Ty.u8.bytes ≤ 140737488355328)), ((Ty.slice ty67).fact a0.Subs [s454])]⟩ : St)) (x473 + 1, x505) (v506, n507, i508) hr ⟨⟨rfl, ⟨rfl, ⟨rfl, ⟨rfl, trivial⟩⟩⟩⟩, ⟨[true], rfl⟩, ⟨[true], rfl⟩, ⟨[0, 1, 2, 3], rfl⟩⟩
  replace hr := ineg h484 hr
  refine at_false rfl (decide_eq_false (by omega)) ?_
  refine at_exit (at_then_exit (at_then_exit (at_in_exit ?_)))
  have hq := oinj hr
  clear hr
  subst hq
  exact at_leaf (v475, n476, i477) ⟨⟨rfl, trivial⟩, ⟨[true], rfl⟩, ⟨[true], rfl⟩, ⟨[1, 2], rfl⟩⟩
 clear hl482
 intro e
 obtain ⟨v479, n480, i481⟩ := e
 change At _ _ (⟨[(3, .pointer (some (Addr.add ⟨b456, 0, none⟩ 0)))], [⟨b456, [(kbp b456), v479], 115⟩], [⟨v479, 5, 1, n480, i481⟩], [(Ty.u8.row x478 i481), (pureF (x478.length * Ty.u8.bytes ≤ 140737488355328))]⟩ : St) _
 refine s_tsr ?_
 replace hr := imust hr
 obtain ⟨h532, hr⟩ := hr
 refine at_hv rfl (hv_callH0 [true] [true] [0] (f107_spec (List.length_pos_iff.1 h532.1) h532.2) rfl rfl rfl rfl rfl rfl rfl rfl ?_)
 rintro _ _ _ _ ⟨rfl, rfl, rfl, rfl⟩
 refine s_as rfl (s_nt (at_ret ?_))
 have hq := oinj hr
 clear hr
 subst hq
 exact at_return (str x478) [0] hS Tryz.results50 (.cons (.tmp rfl) .nil) rfl rfl ⟨rfl, rfl⟩
def m13_l1 (a0 : D_api_Record) : Nat → Str → Nat → Option Str
  | 0, _, _ => none
  | k + 1, x545, x546 =>
    if x546 < a0.Fields.length then
     (a0.Fields[x546]?).bind fun x551 =>
     (m50 (⟨x551.Tag, x551.Ind_0, x551.Ind_1, x551.Subs⟩ : D_api_Field)).bind fun x558 =>
     if x558.length + ([10] : Str).length ≤ 9223372036854775807 then
      if x545.length + (x558 ++ ([10] : Str)).length ≤ 9223372036854775807 then
       m13_l1 a0 k (x545 ++ (x558 ++ ([10] : Str))) (x546 + 1)
      else none
     else none
    else
     some x545
def m13 (a0 : D_api_Record) : Option (Str × Int) :=
  (m37 (⟨a0.ID, a0.Fields⟩ : D_api_Record)).bind fun x536 =>
  if x536 = true then
   (m49 a0.ID).bind fun x539 =>
   if ([114, 101, 99, 111, 114, 100, 32] : Str).length + x539.length ≤ 9223372036854775807 then
    if (([114, 101, 99, 111, 114, 100, 32] : Str) ++ x539).length + ([10] : Str).length ≤ 9223372036854775807 then
     (m13_l1 a0 (a0.Fields.length + 1) (([114, 101, 99, 111, 114, 100, 32] : Str) ++ x539 ++ ([10] : Str)) 0).bind fun x547 =>
     some (x547, 0)
    else none
   else none
  else
   some (([] : Str), 1)
def post13 (r : (Str × Int)) (v : Value) (fs : List Fact) : Prop := v = .tuple #[str r.1, .int .i64 r.2] ∧ fs = [(Ty.str.fact r.1 [str r.1]), ((Ty.int .i64).fact r.2 [.int .i64 r.2])]
theorem en13 : Enters Tryz.prog 13 := ⟨_, Tryz.func13, by kernel_rfl, rfl⟩
theorem f13_spec {a0 : D_api_Record} {s533 : Value} {r : (Str × Int)} (hr : m13 a0 = some r) : Spec Tryz.prog 13 [.agg #[.int .i64 a0.ID, s533]] [(ty24.fact a0 [.int .i64 a0.ID, s533]), (tabsF Tryz.prog 4 5)] (post13 r) := by
 refine spec_start (N := 29) Tryz.func13 (by kernel_rfl) rfl rfl rfl ?_
 intro g hS
 unfold m13 at hr
 refine at_open (A := Unit) 0 rfl (fun _ => True) (fun _ => [((Ty.int .i64).fact a0.ID [.int .i64 a0.ID]), ((Ty.slice ty59).fact a0.Fields [s533])]) (fun F w h => ⟨(), trivial, ex24 h⟩) (fun _ _ => ?_)
 refine at_inv 0 rfl (fun l534 => ?_)
 replace l534 : (-9223372036854775808) ≤ a0.ID ∧ a0.ID ≤ 9223372036854775807 := l534
 refine s_sr (at_hv rfl ?_)
 refine hv_box (cs := [.int .i64 a0.ID, s533]) rfl rfl rfl (fun b535 => ?_)
 refine s_as rfl (s_as rfl (s_nt (at_seq (s_sr (at_lt (lt_load_box 0 rfl ti24 rfl rfl rfl rfl rfl) rfl ?_)))))
 replace hr := obind hr
 obtain ⟨x536, h537, hr⟩ := hr
 refine at_derive [0, 1] (ty24.fact (⟨a0.ID, a0.Fields⟩ : D_api_Record) [.int .i64 a0.ID, s533]) rfl (fun F w h => mk24 (x := (⟨a0.ID, a0.Fields⟩ : D_api_Record)) h) ?_
 refine at_hv rfl (hv_call0 [0, 4] (f37_spec h537) rfl rfl rfl rfl ?_)
 rintro _ _ ⟨rfl, rfl⟩
 refine at_lt (lt_not rfl) rfl (s_nt ?_)
 by_cases h538 : x536 = true
 ·replace hr := ipos h538 hr
  refine at_false rfl (nt h538) (at_skip (s_tsr (at_lt (lt_fieldAddr 0 rfl fld24_0 rfl) rfl (at_lt (lt_load_box 0 rfl ti3 rfl rfl rfl rfl rfl) rfl ?_))))
  replace hr := obind hr
  obtain ⟨x539, h540, hr⟩ := hr
  refine at_hv rfl (hv_call0 [1, 4] (f49_spec h540) rfl rfl rfl rfl ?_)
  rintro _ _ ⟨rfl, rfl⟩
  replace hr := imust hr
  obtain ⟨h541, hr⟩ := hr
  refine at_lt (lt_sadd rfl rfl h541) rfl ?_
  replace hr := imust hr
  obtain ⟨h542, hr⟩ := hr
  refine at_lt (lt_sadd rfl rfl h542) rfl (s_as rfl (s_nt (at_seq (s_sr (at_lt (lt_fieldAddr 1 rfl fld24_1 rfl) rfl (at_lt (lt_load_box 0 rfl ti22 rfl rfl rfl rfl rfl) rfl ?_))))))
  refine at_inv 3 rfl (fun i543 => ?_)
  have l544 := slice_len i543
  refine at_lt (lt_flen 3 rfl rfl und22) rfl (s_mv rfl (s_nt ?_))
  refine at_str (([114, 101, 99, 111, 114, 100, 32] : Str) ++ x539 ++ ([10] : Str)) (by rw [List.length_append]; exact h542) ?_
  refine at_int .i64 0 (by simp only [lo, hi]; omega) ?_
  replace hr := obind hr
  obtain ⟨x547, hl548, hr⟩ := hr
  refine at_cut (V := Unit) (fun e => (⟨[(4, str x547)], [], [], [(Ty.str.fact x547 [str x547]), (tabsF Tryz.prog 4 5)]⟩ : St)) ?_ ?_
  ·refine at_block ?_
   refine at_loopW (σ := (Str × Nat)) (V := Unit) (r := x547) (fun n s => m13_l1 a0 n s.1 s.2) (fun s e => (⟨[(4, str s.1), (16, s533), (17, .int .i64 (a0.Fields.length : Int)), (18, .int .i64 (s.2 : Int))], [], [], [(Ty.str.fact s.1 [str s.1]), ((Ty.int .i64).fact (s.2 : Int) [.int .i64 (s.2 : Int)]), ((Ty.slice ty59).fact a0.Fields [s533]), (tabsF Tryz.prog 4 5)]⟩ : St)) (fun _ => rfl) _ (([114, 101, 99, 111, 114, 100, 32] : Str) ++ x539 ++ ([10] : Str), 0) () hl548 ⟨⟨rfl, ⟨rfl, ⟨rfl, ⟨rfl, trivial⟩⟩⟩⟩, ⟨[false], rfl⟩, ⟨[], rfl⟩, ⟨[1, 0, 5, 7], rfl⟩⟩ ?_
   clear hr hl548
   intro n s hr e
   obtain ⟨x545, x546⟩ := s
   skip
   change m13_l1 a0 (n + 1) x545 x546 = some x547 at hr
   change At _ _ (⟨[(4, str x545), (16, s533), (17, .int .i64 (a0.Fields.length : Int)), (18, .int .i64 (x546 : Int))], [], [], [(Ty.str.fact x545 [str x545]), ((Ty.int .i64).fact (x546 : Int) [.int .i64 (x546 : Int)]), ((Ty.slice ty59).fact a0.Fields [s533]), (tabsF Tryz.prog 4 5)]⟩ : St) _
   rw [m13_l1] at hr
   refine s_sr (at_lt (lt_lss rfl rfl) rfl (s_nt (at_seq ?_)))
   by_cases h550 : x546 < a0.Fields.length
   ·replace hr := ipos h550 hr
    refine at_true rfl (decide_eq_true (by omega)) ?_
    refine at_skip (at_then (at_seq (at_block (s_sr ?_))))
    replace hr := obind hr
    obtain ⟨x551, h552, hr⟩ := hr
    have := (List.getElem?_eq_some_iff.1 h552).1
    refine at_elem 2 rfl (nat_at' h552) (fun p554 ec pa555 => ?_)
    refine at_open (A := Value) 0 rfl _ _ (fun F w h => op59 h) ?_
    rintro s553 rfl
    refine at_lt (lt_idx rfl rfl pa555 und22 ti59) rfl (at_lt (lt_load_peek 3 rfl ti59 rfl rfl rfl rfl rfl) rfl (at_hv rfl ?_))
    refine hv_alloc (cs := [str ([] : Str), .int .u8 0, .int .u8 0, (.slice none 0 0)]) ti59 rfl rfl (fun b556 => ?_)
    refine at_one 1 rfl (fun ho557 => ?_)
    refine at_hv rfl (hv_store_box 0 (cs' := [str x551.Tag, .int .u8 (x551.Ind_0.toNat : Int), .int .u8 (x551.Ind_1.toNat : Int), s553]) rfl rfl ti59 rfl rfl rfl rfl (allc rfl (allc rfl (allc rfl (allc ho557 rfl)))) (at_nil (s_tr (s_mv rfl (at_lt (lt_load_box 0 rfl ti59 rfl rfl rfl rfl rfl) rfl ?_)))))
    replace hr := obind hr
    obtain ⟨x558, h559, hr⟩ := hr
    refine at_derive [0, 1] (ty59.fact (⟨x551.Tag, x551.Ind_0, x551.Ind_1, x551.Subs⟩ : D_api_Field) [str x551.Tag, .int .u8 (x551.Ind_0.toNat : Int), .int .u8 (x551.Ind_1.toNat : Int), s553]) rfl (fun F w h => mk59 (x := (⟨x551.Tag, x551.Ind_0, x551.Ind_1, x551.Subs⟩ : D_api_Field)) h) ?_
    refine at_hv rfl (hv_call0 [0] (f50_spec h559) rfl rfl rfl rfl ?_)
    rintro _ _ ⟨rfl, rfl⟩
    replace hr := imust hr
    obtain ⟨h560, hr⟩ := hr
    refine at_lt (lt_sadd rfl rfl h560) rfl ?_
    replace hr := imust hr
    obtain ⟨h561, hr⟩ := hr
    refine at_lt (lt_sadd rfl rfl h561) rfl (s_as rfl (at_nil (at_in (s_tr ?_))))
    refine at_inv 0 rfl (fun l562 => ?_)
    replace l562 : x558.length ≤ 9223372036854775807 := l562
    refine at_inv 6 rfl (fun l563 => ?_)
    replace l563 : x545.length ≤ 9223372036854775807 := l563
    refine at_lt (lt_add rfl rfl (by simp only [lo, hi]; omega)) rfl (s_mv rfl (at_nil ?_))
    refine at_str (x545 ++ (x558 ++ ([10] : Str))) (by rw [List.length_append]; exact h561) ?_
    refine at_int .i64 (x546 + 1 : Int) (by simp only [lo, hi]; omega) ?_
    exact at_again (σ := (Str × Nat)) (V := Unit) (lp := fun n s => m13_l1 a0 n s.1 s.2) (S := fun s e => (⟨[(4, str s.1), (16, s533), (17, .int .i64 (a0.Fields.length : Int)), (18, .int .i64 (s.2 : Int))], [], [], [(Ty.str.fact s.1 [str s.1]), ((Ty.int .i64).fact (s.2 : Int) [.int .i64 (s.2 : Int)]), ((Ty.slice ty59).fact a0.Fields [s533]), (tabsF Tryz.prog 4 5)]⟩ : St)) (x545 ++ (x558 ++ ([10] : Str)), x546 + 1) () hr ⟨⟨rfl, ⟨rfl, ⟨rfl, ⟨rfl, trivial⟩⟩⟩⟩, ⟨[false], rfl⟩, ⟨[], rfl⟩, ⟨[1, 0, 10, 11], rfl⟩⟩
   replace hr := ineg h550 hr
   refine at_false rfl (decide_eq_false (by omega)) ?_
   refine at_exit (at_then_exit (at_then_exit (at_in_exit ?_)))
   have hq := oinj hr
   clear hr
   subst hq
   exact at_leaf () ⟨⟨rfl, trivial⟩, ⟨[], rfl⟩, ⟨[], rfl⟩, ⟨[0, 3], rfl⟩⟩
  clear hl548
  intro e
  change At _ _ (⟨[(4, str x547)], [], [], [(Ty.str.fact x547 [str x547]), (tabsF Tryz.prog 4 5)]⟩ : St) _
  refine s_tsr (s_mv rfl (s_as rfl (s_as rfl (s_nt (at_ret ?_)))))
  have hq := oinj hr
  clear hr
  subst hq
  refine at_int .i64 0 (by simp only [lo, hi]; omega) ?_
  exact at_return (.tuple #[str x547, .int .i64 0]) [1, 0] hS Tryz.results13 (.cons (.tmp rfl) (.cons (.tmp rfl) .nil)) rfl rfl ⟨rfl, rfl⟩
 replace hr := ineg h538 hr
 refine at_true rfl (nf (bf h538)) (s_sr (s_as rfl (s_as rfl (s_nt (at_ret ?_)))))
 have hq := oinj hr
 clear hr
 subst hq
 refine at_then_ret ?_
 refine at_str ([] : Str) (by decide) ?_
 refine at_int .i64 1 (by simp only [lo, hi]; omega) ?_
 exact at_return (.tuple #[str ([] : Str), .int .i64 1]) [1, 0] hS Tryz.results13 (.cons (.tmp rfl) (.cons (.tmp rfl) .nil)) rfl rfl ⟨rfl, rfl⟩
def m134 (a0 : Str) (a1 : Str) : Option Int :=
  if a1.length = 0 then
   some 0
  else
   if a1 = a0 then
    some 0
   else
    if a1.length = 1 then
     (a1[0]?).bind fun c568 =>
     (m162 a0 c568).bind fun x570 =>
     some x570
    else
     if a0.length ≤ a1.length then
      some (-1)
     else
      none
def post134 (r : Int) (v : Value) (fs : List Fact) : Prop := v = .int .i64 r ∧ fs = [((Ty.int .i64).fact r [.int .i64 r])]
theorem en134 : Enters Tryz.prog 134 := ⟨_, Tryz.func134, by kernel_rfl, rfl⟩
theorem f134_spec {a0 : Str} {a1 : Str} {r : Int} (hr : m134 a0 a1 = some r) : Spec Tryz.prog 134 [str a0, str a1] [(Ty.str.fact a0 [str a0]), (Ty.str.fact a1 [str a1])] (post134 r) := by
 refine spec_start (N := 143) Tryz.func134 (by kernel_rfl) rfl rfl rfl ?_
 intro g hS
 unfold m134 at hr
 refine s_sr (s_as rfl (s_ntsr (s_mv rfl ?_)))
 refine at_inv 1 rfl (fun l564 => ?_)
 replace l564 : a1.length ≤ 9223372036854775807 := l564
 refine at_lt (lt_slen rfl und9) rfl (s_as rfl (s_nt (at_seq (at_block (s_sr (s_mv rfl (at_lt (lt_eql rfl rfl) rfl (s_mv rfl ?_))))))))
 by_cases h565 : a1.length = 0
 ·replace hr := ipos h565 hr
  refine at_off rfl rfl (decide_eq_true (by omega)) rfl ?_
  refine at_off rfl rfl (decide_eq_true (by omega)) rfl ?_
  refine at_off rfl rfl (decide_eq_true (by omega)) rfl ?_
  refine at_lt (lt_pick true rfl (decide_eq_true (by omega)) rfl) rfl ?_
  refine s_as rfl (s_nt (at_true rfl rfl (s_sr (s_as rfl (s_nt (at_ret ?_))))))
  have hq := oinj hr
  clear hr
  subst hq
  refine at_in_ret (at_then_ret (at_int .i64 0 (by simp only [lo, hi]; omega) ?_))
  exact at_return (.int .i64 0) [0] hS Tryz.results134 (.cons (.tmp rfl) .nil) rfl rfl ⟨rfl, rfl⟩
 replace hr := ineg h565 hr
 refine at_on rfl rfl (decide_eq_false (by omega)) ?_
 refine s_mv rfl ?_
 refine at_on rfl rfl (decide_eq_false (by omega)) ?_
 refine s_mv rfl ?_
 refine at_on rfl rfl (decide_eq_false (by omega)) ?_
 refine at_lt (lt_seql rfl rfl) rfl ?_
 refine at_lt (lt_pick false rfl (decide_eq_false (by omega)) rfl) rfl ?_
 refine s_as rfl (s_nt ?_)
 by_cases h566 : a1 = a0
 ·replace hr := ipos h566 hr
  refine at_true rfl (decide_eq_true h566) (s_sr (s_as rfl (s_nt (at_ret ?_))))
  have hq := oinj hr
  clear hr
  subst hq
  refine at_in_ret (at_then_ret (at_int .i64 0 (by simp only [lo, hi]; omega) ?_))
  exact at_return (.int .i64 0) [0] hS Tryz.results134 (.cons (.tmp rfl) .nil) rfl rfl ⟨rfl, rfl⟩
 replace hr := ineg h566 hr
 refine at_false rfl (decide_eq_false h566) (s_sr (s_mv rfl (at_lt (lt_eql rfl rfl) rfl (s_as rfl (s_nt ?_)))))
 by_cases h567 : a1.length = 1
 ·replace hr := ipos h567 hr
  refine at_true rfl (decide_eq_true (by omega)) ?_
  refine s_sr (s_mv rfl (s_mv rfl ?_))
  replace hr := obind hr
  obtain ⟨c568, h569, hr⟩ := hr
  have := (List.getElem?_eq_some_iff.1 h569).1
  have := c568.toNat_lt
  refine at_lt (lt_sidx rfl rfl und9 (by omega) h569) rfl ?_
  replace hr := obind hr
  obtain ⟨x570, h571, hr⟩ := hr
  refine at_hv rfl (hv_call0 [0] (f162_spec h571) rfl rfl rfl rfl ?_)
  rintro _ _ ⟨rfl, rfl⟩
  refine at_inv 0 rfl (fun l572 => ?_)
  replace l572 : (-9223372036854775808) ≤ x570 ∧ x570 ≤ 9223372036854775807 := l572
  refine s_as rfl (s_nt (at_ret ?_))
  have hq := oinj hr
  clear hr
  subst hq
  refine at_in_ret (at_then_ret ?_)
  exact at_return (.int .i64 x570) [0] hS Tryz.results134 (.cons (.tmp rfl) .nil) rfl rfl ⟨rfl, rfl⟩
 replace hr := ineg h567 hr
 refine at_false rfl (decide_eq_false (by omega)) ?_
 refine s_sr (s_mv rfl (s_mv rfl ?_))
 refine at_inv 0 rfl (fun l573 => ?_)
 replace l573 : a0.length ≤ 9223372036854775807 := l573
 refine at_lt (lt_slen rfl und9) rfl (at_lt (lt_geq rfl rfl) rfl (s_as rfl (s_nt ?_)))
 by_cases h574 : a0.length ≤ a1.length
 ·replace hr := ipos h574 hr
  refine at_true rfl (decide_eq_true (by omega)) ?_
  refine s_sr (s_as rfl (s_nt (at_ret ?_)))
  have hq := oinj hr
  clear hr
  subst hq
  refine at_in_ret (at_then_ret (at_int .i64 (-1) (by simp only [lo, hi]; omega) ?_))
  exact at_return (.int .i64 (-1)) [0] hS Tryz.results134 (.cons (.tmp rfl) .nil) rfl rfl ⟨rfl, rfl⟩
 replace hr := ineg h574 hr
 cases hr
def m108 (a0 : Str) (a1 : Str) : Option (Str × Str × Bool) :=
  (m134 a0 a1).bind fun x577 =>
  if (0 : Int) ≤ x577 then
   if 0 ≤ x577 ∧ x577.toNat ≤ a0.length then
    if 0 ≤ IntKind.i64.wrap (x577 + (a1.length : Int)) ∧ (IntKind.i64.wrap (x577 + (a1.length : Int))).toNat ≤ a0.length then
     some (a0.take x577.toNat, a0.drop ((IntKind.i64.wrap (x577 + (a1.length : Int))).toNat), true)
    else none
   else none
  else
   some (a0, ([] : Str), false)
def post108 (r : (Str × Str × Bool)) (v : Value) (fs : List Fact) : Prop := v = .tuple #[str r.1, str r.2.1, .bool r.2.2] ∧ fs = [(Ty.str.fact r.1 [str r.1]), (Ty.str.fact r.2.1 [str r.2.1])]
theorem en108 : Enters Tryz.prog 108 := ⟨_, Tryz.func108, by kernel_rfl, rfl⟩
theorem f108_spec {a0 : Str} {a1 : Str} {r : (Str × Str × Bool)} (hr : m108 a0 a1 = some r) : Spec Tryz.prog 108 [str a0, str a1] [(Ty.str.fact a0 [str a0]), (Ty.str.fact a1 [str a1])] (post108 r) := by
 refine spec_start (N := 23) Tryz.func108 (by kernel_rfl) rfl rfl rfl ?_
 intro g hS
 unfold m108 at hr
 refine s_sr (s_as rfl (s_as rfl (s_as rfl (s_nt (at_seq (s_sr (s_mv rfl (s_mv rfl ?_))))))))
 replace hr := obind hr
 obtain ⟨x577, h578, hr⟩ := hr
 refine at_hv rfl (hv_call0 [0, 1] (f134_spec h578) rfl rfl rfl rfl ?_)
 rintro _ _ ⟨rfl, rfl⟩
 refine at_inv 0 rfl (fun l579 => ?_)
 replace l579 : (-9223372036854775808) ≤ x577 ∧ x577 ≤ 9223372036854775807 := l579
 refine s_as rfl (s_ntsr (s_mv rfl (at_lt (lt_geq rfl rfl) rfl (s_nt ?_))))
 by_cases h580 : (0 : Int) ≤ x577
 ·replace hr := ipos h580 hr
  refine at_true rfl (decide_eq_true (by first | exact h580 | omega)) ?_
  refine at_seq ?_
  replace hr := imust hr
  obtain ⟨h581, hr⟩ := hr
  refine at_inv 1 rfl (fun l582 => ?_)
  replace l582 : a0.length ≤ 9223372036854775807 := l582
  refine at_inv 2 rfl (fun l583 => ?_)
  replace l583 : a1.length ≤ 9223372036854775807 := l583
  replace hr := imust hr
  obtain ⟨h584, hr⟩ := hr
  refine aa_start 12 (by kernel_rfl) ?_
  refine aa_p 0 rfl (lt_move rfl) (aa_p 1 rfl (lt_move rfl) ?_)
  refine aa_p 2 rfl (lt_scut_h x577.toNat rfl rfl (by omega) und9 (by omega)) ?_
  refine aa_p 3 rfl (lt_move rfl) (aa_p 4 rfl (lt_move rfl) (aa_p 5 rfl (lt_move rfl) (aa_p 6 rfl (lt_slen rfl und9) (aa_p 7 rfl (lt_addw rfl rfl) ?_))))
  refine aa_p 8 rfl (lt_scut_l ((IntKind.i64.wrap (x577 + (a1.length : Int))).toNat) rfl rfl (by omega) und9 (by omega)) ?_
  refine aa_p 9 rfl (lt_assign rfl) (aa_p 10 rfl (lt_assign rfl) (aa_p 11 rfl (lt_assign rfl) ?_))
  refine aa_done (by kernel_rfl) (ts_in 0 0 rfl rfl) ?_
  refine at_then (at_ret ?_)
  have hq := oinj hr
  clear hr
  subst hq
  refine at_then_ret ?_
  refine at_str (a0.take x577.toNat) (by simp only [List.length_take, List.length_drop]; omega) ?_
  refine at_str (a0.drop ((IntKind.i64.wrap (x577 + (a1.length : Int))).toNat)) (by simp only [List.length_take, List.length_drop]; omega) ?_
  exact at_return (.tuple #[str (a0.take x577.toNat), str (a0.drop ((IntKind.i64.wrap (x577 + (a1.length : Int))).toNat)), .bool true]) [1, 0] hS Tryz.results108 (.cons (.tmp rfl) (.cons (.tmp rfl) (.cons (.tmp rfl) .nil))) rfl rfl ⟨rfl, rfl⟩
 replace hr := ineg h580 hr
 refine at_false rfl (decide_eq_false (by first | exact h580 | omega)) ?_
 refine at_skip (s_tsr (s_mv rfl (s_as rfl (s_as rfl (s_as rfl (s_nt (at_ret ?_)))))))
 have hq := oinj hr
 clear hr
 subst hq
 refine at_str ([] : Str) (by decide) ?_
 exact at_return (.tuple #[str a0, str ([] : Str), .bool false]) [2, 0] hS Tryz.results108 (.cons (.tmp rfl) (.cons (.tmp rfl) (.cons (.tmp rfl) .nil))) rfl rfl ⟨rfl, rfl⟩
def m53 (a0 : Str) (a1 : Str) : Option (Str × Str × Bool) :=
  (m108 a0 a1).bind fun x585 =>
  some (x585.1, x585.2.1, x585.2.2)
def post53 (r : (Str × Str × Bool)) (v : Value) (fs : List Fact) : Prop := v = .tuple #[str r.1, str r.2.1, .bool r.2.2] ∧ fs = [(Ty.str.fact r.1 [str r.1]), (Ty.str.fact r.2.1 [str r.2.1])]
theorem en53 : Enters Tryz.prog 53 := ⟨_, Tryz.func53, by kernel_rfl, rfl⟩
theorem f53_spec {a0 : Str} {a1 : Str} {r : (Str × Str × Bool)} (hr : m53 a0 a1 = some r) : Spec Tryz.prog 53 [str a0, str a1] [(Ty.str.fact a0 [str a0]), (Ty.str.fact a1 [str a1])] (post53 r) := by
 refine spec_start (N := 13) Tryz.func53 (by kernel_rfl) rfl rfl rfl ?_
 intro g hS
 unfold m53 at hr
 refine s_sr (s_as rfl (s_as rfl (s_as rfl (s_ntsr (s_mv rfl (s_mv rfl ?_))))))
 replace hr := obind hr
 obtain ⟨x585, h586, hr⟩ := hr
 refine at_hv rfl (hv_call0 [0, 1] (f108_spec h586) rfl rfl rfl rfl ?_)
 rintro _ _ ⟨rfl, rfl⟩
 refine at_lt (lt_extract rfl rfl) rfl (at_lt (lt_extract rfl rfl) rfl (at_lt (lt_extract rfl rfl) rfl (s_as rfl (s_as rfl (s_as rfl (s_nt (at_ret ?_)))))))
 have hq := oinj hr
 clear hr
 subst hq
 exact at_return (.tuple #[str x585.1, str x585.2.1, .bool x585.2.2]) [0, 1] hS Tryz.results53 (.cons (.tmp rfl) (.cons (.tmp rfl) (.cons (.tmp rfl) .nil))) rfl rfl ⟨rfl, rfl⟩
def m135 (a0 : Str) (a1 : Str) : Option Bool :=
  if a1.length ≤ a0.length then
   some (decide (a0.take a1.length = a1))
  else
   some false
def post135 (r : Bool) (v : Value) (fs : List Fact) : Prop := v = .bool r ∧ fs = []
theorem en135 : Enters Tryz.prog 135 := ⟨_, Tryz.func135, by kernel_rfl, rfl⟩
theorem f135_spec {a0 : Str} {a1 : Str} {r : Bool} (hr : m135 a0 a1 = some r) : Spec Tryz.prog 135 [str a0, str a1] [(Ty.str.fact a0 [str a0]), (Ty.str.fact a1 [str a1])] (post135 r) := by
 refine spec_start (N := 18) Tryz.func135 (by kernel_rfl) rfl rfl rfl ?_
 intro g hS
 unfold m135 at hr
 refine s_sr (s_as rfl (s_ntsr (s_mv rfl ?_)))
 refine at_inv 0 rfl (fun l587 => ?_)
 replace l587 : a0.length ≤ 9223372036854775807 := l587
 refine at_lt (lt_slen rfl und9) rfl (s_mv rfl ?_)
 refine at_inv 1 rfl (fun l588 => ?_)
 replace l588 : a1.length ≤ 9223372036854775807 := l588
 refine at_lt (lt_slen rfl und9) rfl (at_lt (lt_geq rfl rfl) rfl (s_mv rfl ?_))
 by_cases h589 : a1.length ≤ a0.length
 ·replace hr := ipos h589 hr
  refine at_on rfl rfl (decide_eq_true (by omega)) ?_
  refine s_mv rfl ?_
  refine at_on rfl rfl (decide_eq_true (by omega)) ?_
  refine s_mv rfl ?_
  refine at_on rfl rfl (decide_eq_true (by omega)) ?_
  refine at_lt (lt_slen rfl und9) rfl ?_
  refine at_on rfl rfl (decide_eq_true (by omega)) ?_
  refine at_lt (lt_scut_h a1.length rfl rfl (by omega) und9 (by omega)) rfl ?_
  refine at_on rfl rfl (decide_eq_true (by omega)) ?_
  refine s_mv rfl ?_
  refine at_on rfl rfl (decide_eq_true (by omega)) ?_
  refine at_lt (lt_seql rfl rfl) rfl ?_
  refine at_lt (lt_pick true rfl (decide_eq_true (by omega)) rfl) rfl ?_
  refine s_as rfl (s_nt (at_ret ?_))
  have hq := oinj hr
  clear hr
  subst hq
  exact at_return (.bool (decide (a0.take a1.length = a1))) [] hS Tryz.results135 (.cons (.tmp rfl) .nil) rfl rfl ⟨rfl, rfl⟩
 replace hr := ineg h589 hr
 refine at_off rfl rfl (decide_eq_false (by omega)) rfl ?_
 refine at_off rfl rfl (decide_eq_false (by omega)) rfl ?_
 refine at_off rfl rfl (decide_eq_false (by omega)) rfl ?_
 refine at_off rfl rfl (decide_eq_false (by omega)) rfl ?_
 refine at_off rfl rfl (decide_eq_false (by omega)) rfl ?_
 refine at_off rfl rfl (decide_eq_false (by omega)) rfl ?_
 refine at_lt (lt_pick false rfl (decide_eq_false (by omega)) rfl) rfl ?_
 refine s_as rfl (s_nt (at_ret ?_))
 have hq := oinj hr
 clear hr
 subst hq
 exact at_return (.bool false) [] hS Tryz.results135 (.cons (.tmp rfl) .nil) rfl rfl ⟨rfl, rfl⟩
def m109 (a0 : Str) (a1 : Str) : Option (Str × Bool) :=
  (m135 a0 a1).bind fun x590 =>
  if x590 = true then
   if a1.length ≤ a0.length then
    some (a0.drop a1.length, true)
   else none
  else
   some (a0, false)
def post109 (r : (Str × Bool)) (v : Value) (fs : List Fact) : Prop := v = .tuple #[str r.1, .bool r.2] ∧ fs = [(Ty.str.fact r.1 [str r.1])]
theorem en109 : Enters Tryz.prog 109 := ⟨_, Tryz.func109, by kernel_rfl, rfl⟩
theorem f109_spec {a0 : Str} {a1 : Str} {r : (Str × Bool)} (hr : m109 a0 a1 = some r) : Spec Tryz.prog 109 [str a0, str a1] [(Ty.str.fact a0 [str a0]), (Ty.str.fact a1 [str a1])] (post109 r) := by
 refine spec_start (N := 15) Tryz.func109 (by kernel_rfl) rfl rfl rfl ?_
 intro g hS
 unfold m109 at hr
 refine s_sr (s_as rfl (s_as rfl (s_nt (at_seq (s_sr (s_mv rfl (s_mv rfl ?_)))))))
 replace hr := obind hr
 obtain ⟨x590, h591, hr⟩ := hr
 refine at_hv rfl (hv_call0 [0, 1] (f135_spec h591) rfl rfl rfl rfl ?_)
 rintro _ _ ⟨rfl, rfl⟩
 refine at_lt (lt_not rfl) rfl (s_nt ?_)
 by_cases h592 : x590 = true
 ·replace hr := ipos h592 hr
  refine at_false rfl (nt h592) (at_skip (s_tsr (s_mv rfl (s_mv rfl ?_))))
  refine at_inv 1 rfl (fun l593 => ?_)
  replace l593 : a1.length ≤ 9223372036854775807 := l593
  refine at_lt (lt_slen rfl und9) rfl ?_
  replace hr := imust hr
  obtain ⟨h594, hr⟩ := hr
  refine at_inv 0 rfl (fun l595 => ?_)
  replace l595 : a0.length ≤ 9223372036854775807 := l595
  refine at_lt (lt_scut_l a1.length rfl rfl (by omega) und9 (by omega)) rfl ?_
  refine s_as rfl (s_as rfl (s_nt (at_ret ?_)))
  have hq := oinj hr
  clear hr
  subst hq
  refine at_str (a0.drop a1.length) (by simp only [List.length_take, List.length_drop]; omega) ?_
  exact at_return (.tuple #[str (a0.drop a1.length), .bool true]) [0] hS Tryz.results109 (.cons (.tmp rfl) (.cons (.tmp rfl) .nil)) rfl rfl ⟨rfl, rfl⟩
 replace hr := ineg h592 hr
 refine at_true rfl (nf (bf h592)) (s_sr (s_mv rfl (s_as rfl (s_as rfl (s_nt (at_ret ?_))))))
 have hq := oinj hr
 clear hr
 subst hq
 refine at_then_ret ?_
 exact at_return (.tuple #[str a0, .bool false]) [0] hS Tryz.results109 (.cons (.tmp rfl) (.cons (.tmp rfl) .nil)) rfl rfl ⟨rfl, rfl⟩
def m54 (a0 : Str) (a1 : Str) : Option (Str × Bool) :=
  (m109 a0 a1).bind fun x596 =>
  some (x596.1, x596.2)
def post54 (r : (Str × Bool)) (v : Value) (fs : List Fact) : Prop := v = .tuple #[str r.1, .bool r.2] ∧ fs = [(Ty.str.fact r.1 [str r.1])]
theorem en54 : Enters Tryz.prog 54 := ⟨_, Tryz.func54, by kernel_rfl, rfl⟩
theorem f54_spec {a0 : Str} {a1 : Str} {r : (Str × Bool)} (hr : m54 a0 a1 = some r) : Spec Tryz.prog 54 [str a0, str a1] [(Ty.str.fact a0 [str a0]), (Ty.str.fact a1 [str a1])] (post54 r) := by
 refine spec_start (N := 11) Tryz.func54 (by kernel_rfl) rfl rfl rfl ?_
 intro g hS
 unfold m54 at hr
 refine s_sr (s_as rfl (s_as rfl (s_ntsr (s_mv rfl (s_mv rfl ?_)))))
 replace hr := obind hr
 obtain ⟨x596, h597, hr⟩ := hr
 refine at_hv rfl (hv_call0 [0, 1] (f109_spec h597) rfl rfl rfl rfl ?_)
 rintro _ _ ⟨rfl, rfl⟩
 refine at_lt (lt_extract rfl rfl) rfl (at_lt (lt_extract rfl rfl) rfl (s_as rfl (s_as rfl (s_nt (at_ret ?_)))))
 have hq := oinj hr
 clear hr
 subst hq
 exact at_return (.tuple #[str x596.1, .bool x596.2]) [0] hS Tryz.results54 (.cons (.tmp rfl) (.cons (.tmp rfl) .nil)) rfl rfl ⟨rfl, rfl⟩
def m55 (a0 : Str) : Option (Int × Bool) :=
  (m110 a0).bind fun x598 =>
  if x598.2 = true then
   if (1 : Int) ≤ x598.1 then
    if x598.1 ≤ 1000000000 then
     (m49 x598.1).bind fun x605 =>
     some (x598.1, decide (x605 = a0))
    else
     some (x598.1, false)
   else
    some (x598.1, false)
  else
   some (x598.1, false)
def post55 (r : (Int × Bool)) (v : Value) (fs : List Fact) : Prop := v = .tuple #[.int .i64 r.1, .bool r.2] ∧ fs = [((Ty.int .i64).fact r.1 [.int .i64 r.1])]
theorem en55 : Enters Tryz.prog 55 := ⟨_, Tryz.func55, by kernel_rfl, rfl⟩
theorem f55_spec {a0 : Str} {r : (Int × Bool)} (hr : m55 a0 = some r) : Spec Tryz.prog 55 [str a0] [(Ty.str.fact a0 [str a0]), (tabsF Tryz.prog 4 5)] (post55 r) := by
 refine spec_start (N := 28) Tryz.func55 (by kernel_rfl) rfl rfl rfl ?_
 intro g hS
 unfold m55 at hr
 refine s_sr (s_as rfl (s_as rfl (s_ntsr (s_mv rfl ?_))))
 replace hr := obind hr
 obtain ⟨x598, h599, hr⟩ := hr
 refine at_hv rfl (hv_call0 [0, 1] (f110_spec h599) rfl rfl rfl rfl ?_)
 rintro _ _ ⟨s600, rfl, rfl⟩
 refine at_inv 0 rfl (fun l601 => ?_)
 replace l601 : (-9223372036854775808) ≤ x598.1 ∧ x598.1 ≤ 9223372036854775807 := l601
 refine s_mv rfl (at_lt (lt_extract rfl rfl) rfl (at_lt (lt_extract rfl rfl) rfl (s_as rfl (s_as rfl (s_ntsr (s_mv rfl (s_mv rfl (at_lt (lt_errq 1 rfl rfl und117) rfl (s_mv rfl ?_)))))))))
 by_cases h602 : x598.2 = true
 ·replace hr := ipos h602 hr
  refine at_on rfl rfl h602 (s_mv rfl (at_on rfl rfl h602 (at_lt (lt_geq rfl rfl) rfl (at_lt (lt_pick true rfl h602 rfl) rfl (s_mv rfl ?_)))))
  by_cases h603 : (1 : Int) ≤ x598.1
  ·replace hr := ipos h603 hr
   refine at_on rfl rfl (decide_eq_true (by first | exact h603 | omega)) ?_
   refine s_mv rfl ?_
   refine at_on rfl rfl (decide_eq_true (by first | exact h603 | omega)) ?_
   refine at_lt (lt_leq rfl rfl) rfl ?_
   refine at_lt (lt_pick true rfl (decide_eq_true (by first | exact h603 | omega)) rfl) rfl ?_
   refine s_mv rfl ?_
   by_cases h604 : x598.1 ≤ 1000000000
   ·replace hr := ipos h604 hr
    refine at_on rfl rfl (decide_eq_true (by first | exact h604 | omega)) ?_
    refine s_mv rfl ?_
    replace hr := obind hr
    obtain ⟨x605, h606, hr⟩ := hr
    refine at_on rfl rfl (decide_eq_true (by first | exact h604 | omega)) ?_
    refine at_hv rfl (hv_call0 [0, 3] (f49_spec h606) rfl rfl rfl rfl ?_)
    rintro _ _ ⟨rfl, rfl⟩
    refine at_on rfl rfl (decide_eq_true (by first | exact h604 | omega)) ?_
    refine s_mv rfl ?_
    refine at_on rfl rfl (decide_eq_true (by first | exact h604 | omega)) ?_
    refine at_lt (lt_seql rfl rfl) rfl ?_
    refine at_lt (lt_pick true rfl (decide_eq_true (by first | exact h604 | omega)) rfl) rfl ?_
    refine s_as rfl (s_as rfl (s_nt (at_ret ?_)))
    have hq := oinj hr
    clear hr
    subst hq
    exact at_return (.tuple #[.int .i64 x598.1, .bool (decide (x605 = a0))]) [1] hS Tryz.results55 (.cons (.tmp rfl) (.cons (.tmp rfl) .nil)) rfl rfl ⟨rfl, rfl⟩
   replace hr := ineg h604 hr
   refine at_off rfl rfl (decide_eq_false (by first | exact h604 | omega)) rfl ?_
   refine at_off rfl rfl (decide_eq_false (by first | exact h604 | omega)) rfl ?_
   refine at_off rfl rfl (decide_eq_false (by first | exact h604 | omega)) rfl ?_
   refine at_off rfl rfl (decide_eq_false (by first | exact h604 | omega)) rfl ?_
   refine at_lt (lt_pick false rfl (decide_eq_false (by first | exact h604 | omega)) rfl) rfl ?_
   refine s_as rfl (s_as rfl (s_nt (at_ret ?_)))
   have hq := oinj hr
   clear hr
   subst hq
   exact at_return (.tuple #[.int .i64 x598.1, .bool false]) [0] hS Tryz.results55 (.cons (.tmp rfl) (.cons (.tmp rfl) .nil)) rfl rfl ⟨rfl, rfl⟩
  replace hr := ineg h603 hr
  refine at_off rfl rfl (decide_eq_false (by first | exact h603 | omega)) rfl ?_
  refine at_off rfl rfl (decide_eq_false (by first | exact h603 | omega)) rfl ?_
  refine at_lt (lt_pick false rfl (decide_eq_false (by first | exact h603 | omega)) rfl) rfl ?_
  refine s_mv rfl (at_off rfl rfl rfl rfl (at_off rfl rfl rfl rfl (at_off rfl rfl rfl rfl (at_off rfl rfl rfl rfl (at_lt (lt_pick false rfl rfl rfl) rfl (s_as rfl (s_as rfl (s_nt (at_ret ?_)))))))))
  have hq := oinj hr
  clear hr
  subst hq
  exact at_return (.tuple #[.int .i64 x598.1, .bool false]) [0] hS Tryz.results55 (.cons (.tmp rfl) (.cons (.tmp rfl) .nil)) rfl rfl ⟨rfl, rfl⟩
 replace hr := ineg h602 hr
 refine at_off rfl rfl (bf h602) rfl (at_off rfl rfl (bf h602) rfl (at_lt (lt_pick false rfl (bf h602) rfl) rfl (s_mv rfl (at_off rfl rfl rfl rfl (at_off rfl rfl rfl rfl (at_lt (lt_pick false rfl rfl rfl) rfl (s_mv rfl (at_off rfl rfl rfl rfl (at_off rfl rfl rfl rfl ?_)))))))))
 refine at_off rfl rfl rfl rfl (at_off rfl rfl rfl rfl (at_lt (lt_pick false rfl rfl rfl) rfl (s_as rfl (s_as rfl (s_nt (at_ret ?_))))))
 have hq := oinj hr
 clear hr
 subst hq
 exact at_return (.tuple #[.int .i64 x598.1, .bool false]) [0] hS Tryz.results55 (.cons (.tmp rfl) (.cons (.tmp rfl) .nil)) rfl rfl ⟨rfl, rfl⟩
def m111 (a0 : UInt8) : Option UInt8 :=
  if a0.toNat = 95 then
   some 32
  else
   if a0.toNat = 32 then
    some 95
   else
    some a0
def post111 (r : UInt8) (v : Value) (fs : List Fact) : Prop := v = .int .u8 (r.toNat : Int) ∧ fs = []
theorem en111 : Enters Tryz.prog 111 := ⟨_, Tryz.func111, by kernel_rfl, rfl⟩
theorem f111_spec {a0 : UInt8} {r : UInt8} (hr : m111 a0 = some r) : Spec Tryz.prog 111 [.int .u8 (a0.toNat : Int)] [] (post111 r) := by
 refine spec_start (N := 9) Tryz.func111 (by kernel_rfl) rfl rfl rfl ?_
 intro g hS
 unfold m111 at hr
 refine s_sr (s_as rfl (s_nt (at_seq (s_sr (s_mv rfl (s_nt (at_block (s_sr (at_lt (lt_eql rfl rfl) rfl ?_)))))))))
 refine s_as rfl (s_nt ?_)
 by_cases h607 : a0.toNat = 95
 ·replace hr := ipos h607 hr
  refine at_true rfl (decide_eq_true (by omega)) ?_
  refine s_sr (s_as rfl (s_nt (at_ret ?_)))
  have hq := oinj hr
  clear hr
  subst hq
  refine at_in_ret (at_then_ret ?_)
  exact at_return (.int .u8 32) [] hS Tryz.results111 (.cons (.tmp rfl) .nil) rfl rfl ⟨rfl, rfl⟩
 replace hr := ineg h607 hr
 refine at_false rfl (decide_eq_false (by omega)) ?_
 refine s_sr (at_lt (lt_eql rfl rfl) rfl (s_as rfl (s_nt ?_)))
 by_cases h608 : a0.toNat = 32
 ·replace hr := ipos h608 hr
  refine at_true rfl (decide_eq_true (by omega)) ?_
  refine s_sr (s_as rfl (s_nt (at_ret ?_)))
  have hq := oinj hr
  clear hr
  subst hq
  refine at_in_ret (at_then_ret ?_)
  exact at_return (.int .u8 95) [] hS Tryz.results111 (.cons (.tmp rfl) .nil) rfl rfl ⟨rfl, rfl⟩
 replace hr := ineg h608 hr
 refine at_false rfl (decide_eq_false (by omega)) ?_
 refine at_skip (at_in (s_tsr (s_mv rfl (s_as rfl (s_nt (at_ret ?_))))))
 have hq := oinj hr
 clear hr
 subst hq
 exact at_return (.int .u8 (a0.toNat : Int)) [] hS Tryz.results111 (.cons (.tmp rfl) .nil) rfl rfl ⟨rfl, rfl⟩
def m190 (a0 : Str) (a1 : Str) : Option Bool :=
  if a1.length ≤ a0.length then
   if 0 ≤ (a0.length : Int) - (a1.length : Int) ∧ ((a0.length : Int) - (a1.length : Int)).toNat ≤ a0.length then
    some (decide (a0.drop (((a0.length : Int) - (a1.length : Int)).toNat) = a1))
   else none
  else
   some false
def post190 (r : Bool) (v : Value) (fs : List Fact) : Prop := v = .bool r ∧ fs = []
theorem en190 : Enters Tryz.prog 190 := ⟨_, Tryz.func190, by kernel_rfl, rfl⟩
theorem f190_spec {a0 : Str} {a1 : Str} {r : Bool} (hr : m190 a0 a1 = some r) : Spec Tryz.prog 190 [str a0, str a1] [(Ty.str.fact a0 [str a0]), (Ty.str.fact a1 [str a1])] (post190 r) := by
 refine spec_start (N := 21) Tryz.func190 (by kernel_rfl) rfl rfl rfl ?_
 intro g hS
 unfold m190 at hr
 refine s_sr (s_as rfl (s_ntsr (s_mv rfl ?_)))
 refine at_inv 0 rfl (fun l609 => ?_)
 replace l609 : a0.length ≤ 9223372036854775807 := l609
 refine at_lt (lt_slen rfl und9) rfl (s_mv rfl ?_)
 refine at_inv 1 rfl (fun l610 => ?_)
 replace l610 : a1.length ≤ 9223372036854775807 := l610
 refine at_lt (lt_slen rfl und9) rfl (at_lt (lt_geq rfl rfl) rfl (s_mv rfl ?_))
 by_cases h611 : a1.length ≤ a0.length
 ·replace hr := ipos h611 hr
  refine at_on rfl rfl (decide_eq_true (by omega)) ?_
  refine s_mv rfl ?_
  refine at_on rfl rfl (decide_eq_true (by omega)) ?_
  refine s_mv rfl ?_
  refine at_on rfl rfl (decide_eq_true (by omega)) ?_
  refine at_lt (lt_slen rfl und9) rfl ?_
  refine at_on rfl rfl (decide_eq_true (by omega)) ?_
  refine s_mv rfl ?_
  refine at_on rfl rfl (decide_eq_true (by omega)) ?_
  refine at_lt (lt_slen rfl und9) rfl ?_
  refine at_on rfl rfl (decide_eq_true (by omega)) ?_
  refine at_lt (lt_sub rfl rfl (by simp only [lo, hi]; omega)) rfl ?_
  replace hr := imust hr
  obtain ⟨h612, hr⟩ := hr
  refine at_on rfl rfl (decide_eq_true (by omega)) ?_
  refine at_lt (lt_scut_l (((a0.length : Int) - (a1.length : Int)).toNat) rfl rfl (by omega) und9 (by omega)) rfl ?_
  refine at_on rfl rfl (decide_eq_true (by omega)) ?_
  refine s_mv rfl ?_
  refine at_on rfl rfl (decide_eq_true (by omega)) ?_
  refine at_lt (lt_seql rfl rfl) rfl ?_
  refine at_lt (lt_pick true rfl (decide_eq_true (by omega)) rfl) rfl ?_
  refine s_as rfl (s_nt (at_ret ?_))
  have hq := oinj hr
  clear hr
  subst hq
  exact at_return (.bool (decide (a0.drop (((a0.length : Int) - (a1.length : Int)).toNat) = a1))) [] hS Tryz.results190 (.cons (.tmp rfl) .nil) rfl rfl ⟨rfl, rfl⟩
 replace hr := ineg h611 hr
 refine at_off rfl rfl (decide_eq_false (by omega)) rfl ?_
 refine at_off rfl rfl (decide_eq_false (by omega)) rfl ?_
 refine at_off rfl rfl (decide_eq_false (by omega)) rfl ?_
 refine at_off rfl rfl (decide_eq_false (by omega)) rfl ?_
 refine at_off rfl rfl (decide_eq_false (by omega)) rfl ?_
 refine at_off rfl rfl (decide_eq_false (by omega)) rfl ?_
 refine at_off rfl rfl (decide_eq_false (by omega)) rfl ?_
 refine at_off rfl rfl (decide_eq_false (by omega)) rfl ?_
 refine at_off rfl rfl (decide_eq_false (by omega)) rfl ?_
 refine at_lt (lt_pick false rfl (decide_eq_false (by omega)) rfl) rfl ?_
 refine s_as rfl (s_nt (at_ret ?_))
 have hq := oinj hr
 clear hr
 subst hq
 exact at_return (.bool false) [] hS Tryz.results190 (.cons (.tmp rfl) .nil) rfl rfl ⟨rfl, rfl⟩
def m171 (a0 : Str) (a1 : Str) : Option Str :=
  (m190 a0 a1).bind fun x613 =>
  if x613 = true then
   if 0 ≤ (a0.length : Int) - (a1.length : Int) ∧ ((a0.length : Int) - (a1.length : Int)).toNat ≤ a0.length then
    some (a0.take (((a0.length : Int) - (a1.length : Int)).toNat))
   else none
  else
   some a0
def post171 (r : Str) (v : Value) (fs : List Fact) : Prop := v = str r ∧ fs = [(Ty.str.fact r [str r])]
theorem en171 : Enters Tryz.prog 171 := ⟨_, Tryz.func171, by kernel_rfl, rfl⟩
theorem f171_spec {a0 : Str} {a1 : Str} {r : Str} (hr : m171 a0 a1 = some r) : Spec Tryz.prog 171 [str a0, str a1] [(Ty.str.fact a0 [str a0]), (Ty.str.fact a1 [str a1])] (post171 r) := by
 refine spec_start (N := 16) Tryz.func171 (by kernel_rfl) rfl rfl rfl ?_
 intro g hS
 unfold m171 at hr
 refine s_sr (s_as rfl (s_nt (at_seq (s_sr (s_mv rfl (s_mv rfl ?_))))))
 replace hr := obind hr
 obtain ⟨x613, h614, hr⟩ := hr
 refine at_hv rfl (hv_call0 [0, 1] (f190_spec h614) rfl rfl rfl rfl ?_)
 rintro _ _ ⟨rfl, rfl⟩
 refine s_nt ?_
 by_cases h615 : x613 = true
 ·replace hr := ipos h615 hr
  refine at_true rfl h615 (s_sr (s_mv rfl (s_mv rfl ?_)))
  refine at_inv 0 rfl (fun l616 => ?_)
  replace l616 : a0.length ≤ 9223372036854775807 := l616
  refine at_lt (lt_slen rfl und9) rfl (s_mv rfl ?_)
  refine at_inv 1 rfl (fun l617 => ?_)
  replace l617 : a1.length ≤ 9223372036854775807 := l617
  refine at_lt (lt_slen rfl und9) rfl (at_lt (lt_sub rfl rfl (by simp only [lo, hi]; omega)) rfl ?_)
  replace hr := imust hr
  obtain ⟨h618, hr⟩ := hr
  refine at_lt (lt_scut_h (((a0.length : Int) - (a1.length : Int)).toNat) rfl rfl (by omega) und9 (by omega)) rfl ?_
  refine s_as rfl (s_nt (at_ret ?_))
  have hq := oinj hr
  clear hr
  subst hq
  refine at_then_ret ?_
  refine at_str (a0.take (((a0.length : Int) - (a1.length : Int)).toNat)) (by simp only [List.length_take, List.length_drop]; omega) ?_
  exact at_return (str (a0.take (((a0.length : Int) - (a1.length : Int)).toNat))) [0] hS Tryz.results171 (.cons (.tmp rfl) .nil) rfl rfl ⟨rfl, rfl⟩
 replace hr := ineg h615 hr
 refine at_false rfl (bf h615) (at_skip (s_tsr (s_mv rfl (s_as rfl (s_nt (at_ret ?_))))))
 have hq := oinj hr
 clear hr
 subst hq
 exact at_return (str a0) [0] hS Tryz.results171 (.cons (.tmp rfl) .nil) rfl rfl ⟨rfl, rfl⟩
def m138 (a0 : Str) (a1 : Str) : Option Str :=
  (m171 a0 a1).bind fun x619 =>
  some x619
def post138 (r : Str) (v : Value) (fs : List Fact) : Prop := v = str r ∧ fs = [(Ty.str.fact r [str r])]
theorem en138 : Enters Tryz.prog 138 := ⟨_, Tryz.func138, by kernel_rfl, rfl⟩
theorem f138_spec {a0 : Str} {a1 : Str} {r : Str} (hr : m138 a0 a1 = some r) : Spec Tryz.prog 138 [str a0, str a1] [(Ty.str.fact a0 [str a0]), (Ty.str.fact a1 [str a1])] (post138 r) := by
 refine spec_start (N := 8) Tryz.func138 (by kernel_rfl) rfl rfl rfl ?_
 intro g hS
 unfold m138 at hr
 refine s_sr (s_as rfl (s_ntsr (s_mv rfl (s_mv rfl ?_))))
 replace hr := obind hr
 obtain ⟨x619, h620, hr⟩ := hr
 refine at_hv rfl (hv_call0 [0, 1] (f171_spec h620) rfl rfl rfl rfl ?_)
 rintro _ _ ⟨rfl, rfl⟩
 refine s_as rfl (s_nt (at_ret ?_))
 have hq := oinj hr
 clear hr
 subst hq
 exact at_return (str x619) [0] hS Tryz.results138 (.cons (.tmp rfl) .nil) rfl rfl ⟨rfl, rfl⟩
def m112_l1 (a0 : Str) : Nat → (List UInt8) → Nat → Option (Fl (Str × Int) (List UInt8))
  | 0, _, _ => none
  | k + 1, x621, x622 =>
    if x622 < a0.length then
     (a0[x622]?).bind fun c635 =>
     if c635.toNat = 36 then
      (m138 x621 ([32] : Str)).bind fun x639 =>
      some (Fl.ret (x639, max ((x622 : Int) - 1) (0 : Int)))
     else
      Option.bind (α := Nat) (
       (a0[x622]?).bind fun c643 =>
       if c643.toNat = 92 then
        if x622 + 1 < a0.length then
         some (x622 + 1)
        else
         some x622
       else
        some x622
      ) fun x641 =>
      (a0[x641]?).bind fun c647 =>
      if x621.length + 1 ≤ 140737488355328 then
       if x641 + 1 ≤ 9223372036854775807 then
        m112_l1 a0 k (x621 ++ [c647]) (x641 + 1)
       else none
      else none
    else
     some (Fl.go x621)
def m112 (a0 : Str) : Option (Str × Int) :=
  (m112_l1 a0 (a0.length + 1) ([] : (List UInt8)) 0).bind fun r => match r with
  | .ret x => some x
  | .go x626 =>
   some (x626, (a0.length : Int))
def post112 (r : (Str × Int)) (v : Value) (fs : List Fact) : Prop := v = .tuple #[str r.1, .int .i64 r.2] ∧ fs = [(Ty.str.fact r.1 [str r.1]), ((Ty.int .i64).fact r.2 [.int .i64 r.2])]
theorem en112 : Enters Tryz.prog 112 := ⟨_, Tryz.func112, by kernel_rfl, rfl⟩
theorem f112_spec {a0 : Str} {r : (Str × Int)} (hr : m112 a0 = some r) : Spec Tryz.prog 112 [str a0] [(Ty.str.fact a0 [str a0])] (post112 r) := by
 refine spec_start (N := 47) Tryz.func112 (by kernel_rfl) rfl rfl rfl ?_
 intro g hS
 unfold m112 at hr
 refine s_sr (s_as rfl (s_as rfl (s_ntsr (s_as rfl (s_nt (at_seq (s_sr (s_as rfl (s_nt ?_)))))))))
 refine at_rownew none 5 1 (at_rownil Ty.u8 ?_)
 refine at_mkpure (q := (([] : (List UInt8)).length * Ty.u8.bytes ≤ 140737488355328)) (by simp only [List.nil_append, List.cons_append, List.length_cons, List.length_nil, Ty.int_bytes, Ty.u8_bytes, Ty.str_bytes, Ty.slice_bytes, Ty.bool_bytes, nb] <;> omega) ?_
 refine at_int .i64 0 (by simp only [lo, hi]; omega) ?_
 replace hr := obind hr
 obtain ⟨r630, hl631, hk632⟩ := hr
 refine at_cutP (V := ((List UInt8)) × (Value × Nat × (List Value))) (fun v => r630 = Fl.go v.1) (fun v => (⟨[(0, str a0), (4, v.2.1)], [], [⟨v.2.1, 5, 1, v.2.2.1, v.2.2.2⟩], [(Ty.u8.row v.1 v.2.2.2), (pureF (v.1.length * Ty.u8.bytes ≤ 140737488355328)), (Ty.str.fact a0 [str a0])]⟩ : St)) ?_ ?_
 ·refine at_block ?_
  refine at_loopW (σ := ((List UInt8) × Nat)) (V := Value × Nat × (List Value)) (r := r630) (fun n s => m112_l1 a0 n s.1 s.2) (fun s e => (⟨[(0, str a0), (4, e.1), (5, .int .i64 (s.2 : Int))], [], [⟨e.1, 5, 1, e.2.1, e.2.2⟩], [(Ty.u8.row s.1 e.2.2), (pureF (s.1.length * Ty.u8.bytes ≤ 140737488355328)), ((Ty.int .i64).fact (s.2 : Int) [.int .i64 (s.2 : Int)]), (Ty.str.fact a0 [str a0])]⟩ : St)) (fun _ => rfl) _ (([] : (List UInt8)), 0) ((.slice none 0 0), 0, []) hl631 ⟨⟨rfl, ⟨rfl, ⟨rfl, trivial⟩⟩⟩, ⟨[], rfl⟩, ⟨[true], rfl⟩, ⟨[2, 1, 0, 3], rfl⟩⟩ ?_
  clear hl631
  intro n s hr e
  obtain ⟨x621, x622⟩ := s
  obtain ⟨v623, n624, i625⟩ := e
  change m112_l1 a0 (n + 1) x621 x622 = some r630 at hr
  change At _ _ (⟨[(0, str a0), (4, v623), (5, .int .i64 (x622 : Int))], [], [⟨v623, 5, 1, n624, i625⟩], [(Ty.u8.row x621 i625), (pureF (x621.length * Ty.u8.bytes ≤ 140737488355328)), ((Ty.int .i64).fact (x622 : Int) [.int .i64 (x622 : Int)]), (Ty.str.fact a0 [str a0])]⟩ : St) _
  rw [m112_l1] at hr
  refine at_seq (s_sr (s_mv rfl (s_mv rfl ?_)))
  refine at_inv 3 rfl (fun l633 => ?_)
  replace l633 : a0.length ≤ 9223372036854775807 := l633
  refine at_lt (lt_slen rfl und9) rfl (at_lt (lt_lss rfl rfl) rfl (s_nt ?_))
  by_cases h634 : x622 < a0.length
  ·replace hr := ipos h634 hr
   refine at_true rfl (decide_eq_true (by omega)) ?_
   refine at_skip (at_then (at_seq (at_block (at_seq (at_block (s_sr (s_mv rfl (s_mv rfl ?_))))))))
   replace hr := obind hr
   obtain ⟨c635, h636, hr⟩ := hr
   have := (List.getElem?_eq_some_iff.1 h636).1
   have := c635.toNat_lt
   refine at_lt (lt_sidx rfl rfl und9 (by omega) (nat_at h636)) rfl ?_
   refine at_lt (lt_eql rfl rfl) rfl (s_as rfl (s_nt ?_))
   by_cases h637 : c635.toNat = 36
   ·replace hr := ipos h637 hr
    refine at_true rfl (decide_eq_true (by omega)) ?_
    refine s_sr (s_mv rfl ?_)
    refine at_pure 1 rfl (fun hb638 => ?_)
    refine at_hv rfl (lt_bstr2 0 0 rfl rfl rfl und48 und5 und9 rfl ?_)
    replace hr := obind hr
    obtain ⟨x639, h640, hr⟩ := hr
    refine at_str x621 (by have hb_ : x621.length * Ty.u8.bytes ≤ 140737488355328 := hb638; rw [show Ty.u8.bytes = 1 from rfl] at hb_; omega) ?_
    refine at_str ([32] : Str) (by decide) ?_
    refine at_hv rfl (hv_call0 [1, 0] (f138_spec h640) rfl rfl rfl rfl ?_)
    rintro _ _ ⟨rfl, rfl⟩
    refine s_mv rfl (at_lt (lt_sub rfl rfl (by simp only [lo, hi]; omega)) rfl (at_lt (lt_max rfl rfl) rfl (s_as rfl (s_as rfl (s_nt (at_ret ?_))))))
    have hq := oinj hr
    clear hr
    subst hq
    have hq := oinj hk632
    clear hk632
    subst hq
    refine at_in_ret (at_then_ret (at_in_ret (at_then_ret (at_then_ret (at_in_ret (at_then_ret (at_then_ret (at_int .i64 (max ((x622 : Int) - 1) (0 : Int)) (by simp only [lo, hi]; omega) ?_))))))))
    exact at_return (.tuple #[str x639, .int .i64 (max ((x622 : Int) - 1) (0 : Int))]) [1, 0] hS Tryz.results112 (.cons (.tmp rfl) (.cons (.tmp rfl) .nil)) rfl rfl ⟨rfl, rfl⟩
   replace hr := ineg h637 hr
   refine at_false rfl (decide_eq_false (by omega)) ?_
   refine at_seq ?_
   replace hr := obind hr
   obtain ⟨x641, hc642, hr⟩ := hr
   refine at_cutR1 (V := Unit) (fun e => (⟨[(0, str a0), (4, v623), (5, .int .i64 (x641 : Int))], [], [⟨v623, 5, 1, n624, i625⟩], [((Ty.int .i64).fact (x641 : Int) [.int .i64 (x641 : Int)]), (Ty.str.fact a0 [str a0]), (Ty.u8.row x621 i625), (pureF (x621.length * Ty.u8.bytes ≤ 140737488355328))]⟩ : St)) ?_ ?_
   ·clear hr
    have hr := hc642
    clear hc642
    refine at_region (s_mv rfl (s_mv rfl ?_))
    replace hr := obind hr
    obtain ⟨c643, h644, hr⟩ := hr
    have := (List.getElem?_eq_some_iff.1 h644).1
    have := c643.toNat_lt
    refine at_lt (lt_sidx rfl rfl und9 (by omega) (nat_at h644)) rfl ?_
    refine at_lt (lt_eql rfl rfl) rfl (s_mv rfl ?_)
    by_cases h645 : c643.toNat = 92
    ·replace hr := ipos h645 hr
     refine at_on rfl rfl (decide_eq_true (by omega)) ?_
     refine s_mv rfl ?_
     refine at_on rfl rfl (decide_eq_true (by omega)) ?_
     refine at_lt (lt_add rfl rfl (by simp only [lo, hi]; omega)) rfl ?_
     refine at_on rfl rfl (decide_eq_true (by omega)) ?_
     refine s_mv rfl ?_
     refine at_on rfl rfl (decide_eq_true (by omega)) ?_
     refine at_lt (lt_slen rfl und9) rfl ?_
     refine at_on rfl rfl (decide_eq_true (by omega)) ?_
     refine at_lt (lt_lss rfl rfl) rfl ?_
     refine at_lt (lt_pick true rfl (decide_eq_true (by omega)) rfl) rfl ?_
     refine s_as rfl (s_nt ?_)
     by_cases h646 : x622 + 1 < a0.length
     ·replace hr := ipos h646 hr
      refine at_true rfl (decide_eq_true (by omega)) ?_
      refine at_region (s_mv rfl (at_lt (lt_add rfl rfl (by simp only [lo, hi]; omega)) rfl (s_as rfl (at_nil ?_))))
      have hq := oinj hr
      clear hr
      subst hq
      refine at_int .i64 (x622 + 1 : Int) (by simp only [lo, hi]; omega) ?_
      exact at_leaf () ⟨⟨rfl, ⟨rfl, ⟨rfl, trivial⟩⟩⟩, ⟨[], rfl⟩, ⟨[true], rfl⟩, ⟨[0, 4, 1, 2], rfl⟩⟩
     replace hr := ineg h646 hr
     refine at_false rfl (decide_eq_false (by omega)) ?_
     refine at_skip ?_
     have hq := oinj hr
     clear hr
     subst hq
     exact at_leaf () ⟨⟨rfl, ⟨rfl, ⟨rfl, trivial⟩⟩⟩, ⟨[], rfl⟩, ⟨[true], rfl⟩, ⟨[2, 3, 0, 1], rfl⟩⟩
    replace hr := ineg h645 hr
    refine at_off rfl rfl (decide_eq_false (by omega)) rfl ?_
    refine at_off rfl rfl (decide_eq_false (by omega)) rfl ?_
    refine at_off rfl rfl (decide_eq_false (by omega)) rfl ?_
    refine at_off rfl rfl (decide_eq_false (by omega)) rfl ?_
    refine at_off rfl rfl (decide_eq_false (by omega)) rfl ?_
    refine at_lt (lt_pick false rfl (decide_eq_false (by omega)) rfl) rfl ?_
    refine s_as rfl (s_nt (at_false rfl rfl (at_skip ?_)))
    have hq := oinj hr
    clear hr
    subst hq
    exact at_leaf () ⟨⟨rfl, ⟨rfl, ⟨rfl, trivial⟩⟩⟩, ⟨[], rfl⟩, ⟨[true], rfl⟩, ⟨[2, 3, 0, 1], rfl⟩⟩
   clear hc642
   intro _
   change At _ _ (⟨[(0, str a0), (4, v623), (5, .int .i64 (x641 : Int))], [], [⟨v623, 5, 1, n624, i625⟩], [((Ty.int .i64).fact (x641 : Int) [.int .i64 (x641 : Int)]), (Ty.str.fact a0 [str a0]), (Ty.u8.row x621 i625), (pureF (x621.length * Ty.u8.bytes ≤ 140737488355328))]⟩ : St) _
   refine at_in (s_tr (s_mv rfl (s_mv rfl (s_mv rfl ?_))))
   replace hr := obind hr
   obtain ⟨c647, h648, hr⟩ := hr
   have := (List.getElem?_eq_some_iff.1 h648).1
   have := c647.toNat_lt
   refine at_lt (lt_sidx rfl rfl und9 (by omega) (nat_at h648)) rfl ?_
   refine at_hv rfl ?_
   refine hv_bslice (cs := [.int .u8 (c647.toNat : Int)]) rfl und48 ti5 rfl rfl rfl rfl rfl (fun s649 => ?_)
   replace hr := imust hr
   obtain ⟨h650, hr⟩ := hr
   refine at_know (Ty.u8.fact c647 [.int .u8 (c647.toNat : Int)]) (fun _ _ => ⟨rfl, trivial⟩) ?_
   refine at_rown 1 3 rfl rfl rfl (fun hn652 => ?_)
   refine at_hv rfl ?_
   refine hv_append 1 0 rfl rfl rfl rfl und48 ti5 rfl rfl rfl (by omega) (by omega) rfl (fun s651 => ?_)
   refine at_rowsnoc 3 0 rfl rfl (s_as rfl (at_nil (at_in (s_tr (s_mv rfl ?_)))))
   replace hr := imust hr
   obtain ⟨h653, hr⟩ := hr
   refine at_lt (lt_add rfl rfl (by simp only [lo, hi]; omega)) rfl (s_as rfl (at_nil ?_))
   refine at_mkpure (q := ((x621 ++ [c647]).length * Ty.u8.bytes ≤ 140737488355328)) (by simp only [List.length_append, List.length_cons, List.length_nil, Ty.int_bytes, Ty.u8_bytes, Ty.str_bytes, Ty.slice_bytes, Ty.bool_bytes, nb] <;> omega) ?_
   refine at_int .i64 (x641 + 1 : Int) (by simp only [lo, hi]; omega) ?_
   exact at_again (σ := ((List UInt8) × Nat)) (V := Value × Nat × (List Value)) (lp := fun n s => m112_l1 a0 n s.1 s.2) (S := fun s e => (⟨[(0, str a0), (4, e.1), (5, .int .i64 (s.2 : Int))], [], [⟨e.1, 5, 1, e.2.1, e.2.2⟩], [(Ty.u8.row s.1 e.2.2), (pureF (s.1.length * Ty.u8.bytes ≤ 140737488355328)), ((Ty.int .i64).fact (s.2 : Int) [.int .i64 (s.2 : Int)]), (Ty.str.fact a0 [str a0])]⟩ : St)) (x621 ++ [c647], x641 + 1) (s651, n624 + 1, i625 ++ [.int .u8 (c647.toNat : Int)]) hr ⟨⟨rfl, ⟨rfl, ⟨rfl, trivial⟩⟩⟩, ⟨[], rfl⟩, ⟨[false, true], rfl⟩, ⟨[2, 1, 0, 5], rfl⟩⟩
  replace hr := ineg h634 hr
  refine at_false rfl (decide_eq_false (by omega)) ?_
  refine at_exit (at_then_exit (at_then_exit (at_in_exit ?_)))
  have hq := oinj hr
  clear hr
  subst hq
  exact at_leafP (x621, (v623, n624, i625)) rfl ⟨⟨rfl, ⟨rfl, trivial⟩⟩, ⟨[], rfl⟩, ⟨[true], rfl⟩, ⟨[0, 1, 3], rfl⟩⟩
 rintro ⟨x626, ⟨v627, n628, i629⟩⟩ hp
 replace hr := hk632
 subst hp
 clear hl631
 change At _ _ (⟨[(0, str a0), (4, v627)], [], [⟨v627, 5, 1, n628, i629⟩], [(Ty.u8.row x626 i629), (pureF (x626.length * Ty.u8.bytes ≤ 140737488355328)), (Ty.str.fact a0 [str a0])]⟩ : St) _
 refine s_tsr (s_mv rfl ?_)
 refine at_pure 1 rfl (fun hb654 => ?_)
 refine at_hv rfl (lt_bstr2 0 0 rfl rfl rfl und48 und5 und9 rfl (s_mv rfl ?_))
 refine at_inv 2 rfl (fun l655 => ?_)
 replace l655 : a0.length ≤ 9223372036854775807 := l655
 refine at_lt (lt_slen rfl und9) rfl (s_as rfl (s_as rfl (s_nt (at_ret ?_))))
 have hq := oinj hr
 clear hr
 subst hq
 refine at_str x626 (by have hb_ : x626.length * Ty.u8.bytes ≤ 140737488355328 := hb654; rw [show Ty.u8.bytes = 1 from rfl] at hb_; omega) ?_
 refine at_int .i64 (a0.length : Int) (by simp only [lo, hi]; omega) ?_
 exact at_return (.tuple #[str x626, .int .i64 (a0.length : Int)]) [1, 0] hS Tryz.results112 (.cons (.tmp rfl) (.cons (.tmp rfl) .nil)) rfl rfl ⟨rfl, rfl⟩
def m56_l1 : Nat → Str → (List D_api_Sub) → Str → UInt8 → UInt8 → (List D_api_Sub) → Option (Fl (D_api_Field × Bool) ((List D_api_Sub) × Str × UInt8 × UInt8 × (List D_api_Sub)))
  | 0, _, _, _, _, _, _ => none
  | k + 1, x699, x700, x701, x702, x703, x704 =>
    if x699 = ([] : Str) then
     some (Fl.go (x700, x701, x702, x703, x704))
    else
     if x699.length < 5 then
      some (Fl.ret ((⟨([] : Str), 0, 0, ([] : (List D_api_Sub))⟩ : D_api_Field), false))
     else
      if 20 < x700.length then
       some (Fl.ret ((⟨([] : Str), 0, 0, ([] : (List D_api_Sub))⟩ : D_api_Field), false))
      else
       if 4 ≤ x699.length then
        (m112 (x699.drop 4)).bind fun x729 =>
        (x699[2]?).bind fun c732 =>
        if x700.length + 1 ≤ 5864062014805 then
         if 0 ≤ IntKind.i64.wrap (4 + x729.2) ∧ (IntKind.i64.wrap (4 + x729.2)).toNat ≤ x699.length then
          m56_l1 k (x699.drop ((IntKind.i64.wrap (4 + x729.2)).toNat)) (x700 ++ [(⟨c732, x729.1⟩ : D_api_Sub)]) x701 x702 x703 x704
         else none
        else none
       else none
def m56 (a0 : Str) : Option (D_api_Field × Bool) :=
  if a0.length < 6 then
   some ((⟨([] : Str), 0, 0, ([] : (List D_api_Sub))⟩ : D_api_Field), false)
  else
   Option.bind (α := D_api_Field) (
    if 3 ≤ a0.length then
     (a0[4]?).bind fun c686 =>
     (m111 c686).bind fun x688 =>
     (a0[5]?).bind fun c690 =>
     (m111 c690).bind fun x692 =>
     some (⟨a0.take 3, x688, x692, ([] : (List D_api_Sub))⟩ : D_api_Field)
    else none
   ) fun x682 =>
   if 6 ≤ a0.length then
    (m56_l1 9223372036854775808 (a0.drop 6) ([] : (List D_api_Sub)) ([] : Str) 0 0 ([] : (List D_api_Sub))).bind fun r => match r with
    | .ret x => some x
    | .go (x709, x710, x711, x712, x713) =>
     (m35 (⟨x682.Tag, x682.Ind_0, x682.Ind_1, x709⟩ : D_api_Field)).bind fun x744 =>
     if x744 = true then
      (m50 (⟨x682.Tag, x682.Ind_0, x682.Ind_1, x709⟩ : D_api_Field)).bind fun x748 =>
      some ((⟨x682.Tag, x682.Ind_0, x682.Ind_1, x709⟩ : D_api_Field), decide (x748 = a0))
     else
      some ((⟨x682.Tag, x682.Ind_0, x682.Ind_1, x709⟩ : D_api_Field), false)
   else none
def post56 (r : (D_api_Field × Bool)) (v : Value) (fs : List Fact) : Prop := ∃ s756 : Value, v = .tuple #[.agg #[str r.1.Tag, .int .u8 (r.1.Ind_0.toNat : Int), .int .u8 (r.1.Ind_1.toNat : Int), s756], .bool r.2] ∧ fs = [(ty59.fact r.1 [str r.1.Tag, .int .u8 (r.1.Ind_0.toNat : Int), .int .u8 (r.1.Ind_1.toNat : Int), s756])]
theorem en56 : Enters Tryz.prog 56 := ⟨_, Tryz.func56, by kernel_rfl, rfl⟩
theorem f56_spec {a0 : Str} {r : (D_api_Field × Bool)} (hr : m56 a0 = some r) : Spec Tryz.prog 56 [str a0] [(Ty.str.fact a0 [str a0]), (tabsF Tryz.prog 4 5)] (post56 r) := by
 refine spec_start (N := 64) Tryz.func56 (by kernel_rfl) rfl rfl rfl ?_
 intro g hS
 unfold m56 at hr
 refine s_sr (at_hv rfl ?_)
 refine hv_alloc (cs := [str ([] : Str), .int .u8 0, .int .u8 0, (.slice none 0 0)]) ti59 rfl rfl (fun b656 => ?_)
 refine s_as rfl (s_nt (at_seq (s_sr (s_mv rfl ?_))))
 refine at_inv 0 rfl (fun l657 => ?_)
 replace l657 : a0.length ≤ 9223372036854775807 := l657
 refine at_lt (lt_slen rfl und9) rfl (at_lt (lt_lss rfl rfl) rfl (s_nt ?_))
 by_cases h658 : a0.length < 6
 ·replace hr := ipos h658 hr
  refine at_true rfl (decide_eq_true (by omega)) ?_
  refine s_sr (at_lt (lt_build (cs := [str ([] : Str), .int .u8 0, .int .u8 0, (.slice none 0 0)]) rfl ti59 pl59 rfl) rfl (at_hv rfl (hv_store_box 0 (cs' := [str ([] : Str), .int .u8 0, .int .u8 0, (.slice none 0 0)]) rfl rfl ti59 rfl rfl rfl rfl rfl (s_as rfl (s_nt (at_ret ?_))))))
  have hq := oinj hr
  clear hr
  subst hq
  refine at_then_ret ?_
  refine at_str ([] : Str) (by decide) ?_
  refine at_fnil ty67 none ?_
  refine at_derive [1, 0] (ty59.fact (⟨([] : Str), 0, 0, ([] : (List D_api_Sub))⟩ : D_api_Field) [str ([] : Str), .int .u8 0, .int .u8 0, (.slice none 0 0)]) rfl (fun F w h => mk59 (x := (⟨([] : Str), 0, 0, ([] : (List D_api_Sub))⟩ : D_api_Field)) h) ?_
  exact at_return (.tuple #[.agg #[str ([] : Str), .int .u8 0, .int .u8 0, (.slice none 0 0)], .bool false]) [0] hS Tryz.results56 (.cons (.cell 0 rfl ti59 rfl rfl rfl rfl) (.cons (.tmp rfl) .nil)) rfl rfl ⟨((.slice none 0 0)), rfl, rfl⟩
 replace hr := ineg h658 hr
 refine at_false rfl (decide_eq_false (by omega)) ?_
 refine at_skip (at_then (at_seq ?_))
 replace hr := obind hr
 obtain ⟨x682, hc684, hr⟩ := hr
 refine at_cut (V := Nat) (fun e => (⟨[(0, str a0), (2, .pointer (some (Addr.add ⟨b656, 0, none⟩ 0))), (4, .pointer (some (Addr.add ⟨e, 0, none⟩ 0)))], [⟨e, [str x682.Tag, .int .u8 (x682.Ind_0.toNat : Int), .int .u8 (x682.Ind_1.toNat : Int), (.slice none 0 0)], 59⟩, ⟨b656, [str ([] : Str), .int .u8 0, .int .u8 0, (.slice none 0 0)], 59⟩], [], [(Ty.str.fact x682.Tag [str x682.Tag]), (Ty.str.fact a0 [str a0]), (tabsF Tryz.prog 4 5)]⟩ : St)) ?_ ?_
 ·clear hr
  have hr := hc684
  clear hc684
  replace hr := imust hr
  obtain ⟨h685, hr⟩ := hr
  replace hr := obind hr
  obtain ⟨c686, h687, hr⟩ := hr
  have := (List.getElem?_eq_some_iff.1 h687).1
  have := c686.toNat_lt
  replace hr := obind hr
  obtain ⟨x688, h689, hr⟩ := hr
  replace hr := obind hr
  obtain ⟨c690, h691, hr⟩ := hr
  have := (List.getElem?_eq_some_iff.1 h691).1
  have := c690.toNat_lt
  replace hr := obind hr
  obtain ⟨x692, h693, hr⟩ := hr
  refine aa_start 12 (by kernel_rfl) ?_
  refine aa_p 0 rfl (lt_move rfl) ?_
  refine aa_p 1 rfl (lt_scut_h 3 rfl rfl (by omega) und9 (by omega)) ?_
  refine aa_p 2 rfl (lt_move rfl) ?_
  refine aa_p 3 rfl (lt_sidx rfl rfl und9 (by omega) h687) ?_
  refine aa_p 5 rfl (lt_move rfl) ?_
  refine aa_p 6 rfl (lt_sidx rfl rfl und9 (by omega) h691) ?_
  refine aa_all (rs := [4, 10]) (by kernel_rfl) rfl (ts_in 0 0 rfl rfl) (List.forall_mem_cons.2 ⟨?_, (List.forall_mem_singleton.2 ?_)⟩)
  ·refine aa_op rfl rfl ?_
   refine hv_call0 [] (f111_spec h689) rfl rfl rfl rfl ?_
   rintro _ _ ⟨rfl, rfl⟩
   refine aa_all (rs := [7, 10]) (by kernel_rfl) rfl (ts_in 0 0 rfl rfl) (List.forall_mem_cons.2 ⟨?_, (List.forall_mem_singleton.2 ?_)⟩)
   ·refine aa_op rfl rfl ?_
    refine hv_call0 [] (f111_spec h693) rfl rfl rfl rfl ?_
    rintro _ _ ⟨rfl, rfl⟩
    refine aa_p 8 rfl (lt_abuild (cs := [.int .u8 (x688.toNat : Int), .int .u8 (x692.toNat : Int)]) rfl ti56 und56 ti5 rfl) (aa_p 9 rfl (lt_build (cs := [str (a0.take 3), .int .u8 (x688.toNat : Int), .int .u8 (x692.toNat : Int), (.slice none 0 0)]) rfl ti59 pl59 rfl) (aa_one 10 (aa_op rfl rfl ?_)))
    refine hv_alloc (cs := [str ([] : Str), .int .u8 0, .int .u8 0, (.slice none 0 0)]) ti59 rfl rfl (fun b695 => ?_)
    refine aa_all (rs := [11]) (by kernel_rfl) rfl (ts_in 1 0 rfl rfl) (List.forall_mem_singleton.2 ?_)
    refine aa_op rfl rfl (hv_store_box 0 (cs' := [str (a0.take 3), .int .u8 (x688.toNat : Int), .int .u8 (x692.toNat : Int), (.slice none 0 0)]) rfl rfl ti59 rfl rfl rfl rfl rfl ?_)
    refine aa_done (by kernel_rfl) (ts_in 1 0 rfl rfl) ?_
    have hq := oinj hr
    clear hr
    subst hq
    refine at_str (a0.take 3) (by simp only [List.length_take, List.length_drop]; omega) ?_
    exact at_leaf b695 ⟨⟨rfl, ⟨rfl, ⟨rfl, trivial⟩⟩⟩, ⟨[true, true], rfl⟩, ⟨[], rfl⟩, ⟨[0, 1, 2], rfl⟩⟩
   ·refine aa_op rfl rfl ?_
    refine hv_alloc (cs := [str ([] : Str), .int .u8 0, .int .u8 0, (.slice none 0 0)]) ti59 rfl rfl (fun b696 => ?_)
    refine aa_all (rs := [7]) (by kernel_rfl) rfl (ts_in 1 0 rfl rfl) (List.forall_mem_singleton.2 ?_)
    refine aa_op rfl rfl (hv_call0 [] (f111_spec h693) rfl rfl rfl rfl ?_)
    rintro _ _ ⟨rfl, rfl⟩
    refine aa_pure 8 rfl (by kernel_rfl) rfl rfl (lt_abuild (cs := [.int .u8 (x688.toNat : Int), .int .u8 (x692.toNat : Int)]) rfl ti56 und56 ti5 rfl) rfl (ts_in 1 0 rfl rfl) ?_
    refine aa_pure 9 rfl (by kernel_rfl) rfl rfl (lt_build (cs := [str (a0.take 3), .int .u8 (x688.toNat : Int), .int .u8 (x692.toNat : Int), (.slice none 0 0)]) rfl ti59 pl59 rfl) rfl (ts_in 1 0 rfl rfl) ?_
    refine aa_all (rs := [11]) (by kernel_rfl) rfl (ts_in 1 0 rfl rfl) (List.forall_mem_singleton.2 ?_)
    refine aa_op rfl rfl (hv_store_box 0 (cs' := [str (a0.take 3), .int .u8 (x688.toNat : Int), .int .u8 (x692.toNat : Int), (.slice none 0 0)]) rfl rfl ti59 rfl rfl rfl rfl rfl ?_)
    refine aa_done (by kernel_rfl) (ts_in 1 0 rfl rfl) ?_
    have hq := oinj hr
    clear hr
    subst hq
    refine at_str (a0.take 3) (by simp only [List.length_take, List.length_drop]; omega) ?_
    exact at_leaf b696 ⟨⟨rfl, ⟨rfl, ⟨rfl, trivial⟩⟩⟩, ⟨[true, true], rfl⟩, ⟨[], rfl⟩, ⟨[0, 1, 2], rfl⟩⟩
  ·refine aa_op rfl rfl ?_
   refine hv_alloc (cs := [str ([] : Str), .int .u8 0, .int .u8 0, (.slice none 0 0)]) ti59 rfl rfl (fun b697 => ?_)
   refine aa_all (rs := [4]) (by kernel_rfl) rfl (ts_in 1 0 rfl rfl) (List.forall_mem_singleton.2 ?_)
   refine aa_op rfl rfl (hv_call0 [] (f111_spec h689) rfl rfl rfl rfl ?_)
   rintro _ _ ⟨rfl, rfl⟩
   refine aa_all (rs := [7]) (by kernel_rfl) rfl (ts_in 1 0 rfl rfl) (List.forall_mem_singleton.2 ?_)
   refine aa_op rfl rfl (hv_call0 [] (f111_spec h693) rfl rfl rfl rfl ?_)
   rintro _ _ ⟨rfl, rfl⟩
   refine aa_pure 8 rfl (by kernel_rfl) rfl rfl (lt_abuild (cs := [.int .u8 (x688.toNat : Int), .int .u8 (x692.toNat : Int)]) rfl ti56 und56 ti5 rfl) rfl (ts_in 1 0 rfl rfl) ?_
   refine aa_pure 9 rfl (by kernel_rfl) rfl rfl (lt_build (cs := [str (a0.take 3), .int .u8 (x688.toNat : Int), .int .u8 (x692.toNat : Int), (.slice none 0 0)]) rfl ti59 pl59 rfl) rfl (ts_in 1 0 rfl rfl) ?_
   refine aa_all (rs := [11]) (by kernel_rfl) rfl (ts_in 1 0 rfl rfl) (List.forall_mem_singleton.2 ?_)
   refine aa_op rfl rfl (hv_store_box 0 (cs' := [str (a0.take 3), .int .u8 (x688.toNat : Int), .int .u8 (x692.toNat : Int), (.slice none 0 0)]) rfl rfl ti59 rfl rfl rfl rfl rfl ?_)
   refine aa_done (by kernel_rfl) (ts_in 1 0 rfl rfl) ?_
   have hq := oinj hr
   clear hr
   subst hq
   refine at_str (a0.take 3) (by simp only [List.length_take, List.length_drop]; omega) ?_
   exact at_leaf b697 ⟨⟨rfl, ⟨rfl, ⟨rfl, trivial⟩⟩⟩, ⟨[true, true], rfl⟩, ⟨[], rfl⟩, ⟨[0, 1, 2], rfl⟩⟩
 clear hc684
 intro n683
 change At _ _ (⟨[(0, str a0), (2, .pointer (some (Addr.add ⟨b656, 0, none⟩ 0))), (4, .pointer (some (Addr.add ⟨n683, 0, none⟩ 0)))], [⟨n683, [str x682.Tag, .int .u8 (x682.Ind_0.toNat : Int), .int .u8 (x682.Ind_1.toNat : Int), (.slice none 0 0)], 59⟩, ⟨b656, [str ([] : Str), .int .u8 0, .int .u8 0, (.slice none 0 0)], 59⟩], [], [(Ty.str.fact x682.Tag [str x682.Tag]), (Ty.str.fact a0 [str a0]), (tabsF Tryz.prog 4 5)]⟩ : St) _
 refine at_then (at_seq (s_sr (s_mv rfl ?_)))
 replace hr := imust hr
 obtain ⟨h698, hr⟩ := hr
 refine at_lt (lt_scut_l 6 rfl rfl (by omega) und9 (by omega)) rfl ?_
 refine s_as rfl (s_nt ?_)
 refine at_str (a0.drop 6) (by simp only [List.length_take, List.length_drop]; omega) ?_
 refine at_rownew none 67 2 (at_rownil ty67 ?_)
 refine at_mkpure (q := (([] : (List D_api_Sub)).length * ty67.bytes ≤ 140737488355328)) (by simp only [List.nil_append, List.cons_append, List.length_cons, List.length_nil, ty67_bytes] <;> omega) ?_
 refine at_str ([] : Str) (by decide) ?_
 refine at_fnil ty67 none ?_
 replace hr := obind hr
 obtain ⟨r718, hl719, hk720⟩ := hr
 refine at_cutP (V := (((List D_api_Sub) × Str × UInt8 × UInt8 × (List D_api_Sub))) × (Value × Nat × (List Value) × Value)) (fun v => r718 = Fl.go v.1) (fun v => (⟨[(0, str a0), (2, .pointer (some (Addr.add ⟨b656, 0, none⟩ 0))), (4, .pointer (some (Addr.add ⟨n683, 0, none⟩ 0)))], [⟨n683, [str x682.Tag, .int .u8 (x682.Ind_0.toNat : Int), .int .u8 (x682.Ind_1.toNat : Int), v.2.1], 59⟩, ⟨b656, [str v.1.2.1, .int .u8 (v.1.2.2.1.toNat : Int), .int .u8 (v.1.2.2.2.1.toNat : Int), v.2.2.2.2], 59⟩], [⟨v.2.1, 67, 2, v.2.2.1, v.2.2.2.1⟩], [(ty67.row v.1.1 v.2.2.2.1), (pureF (v.1.1.length * ty67.bytes ≤ 140737488355328)), (Ty.str.fact v.1.2.1 [str v.1.2.1]), ((Ty.slice ty67).fact v.1.2.2.2.2 [v.2.2.2.2]), (Ty.str.fact a0 [str a0]), (Ty.str.fact x682.Tag [str x682.Tag]), (tabsF Tryz.prog 4 5)]⟩ : St)) ?_ ?_
 ·refine at_block ?_
  refine at_loopW (σ := (Str × (List D_api_Sub) × Str × UInt8 × UInt8 × (List D_api_Sub))) (V := Value × Nat × (List Value) × Value) (r := r718) (fun n s => m56_l1 n s.1 s.2.1 s.2.2.1 s.2.2.2.1 s.2.2.2.2.1 s.2.2.2.2.2) (fun s e => (⟨[(0, str a0), (2, .pointer (some (Addr.add ⟨b656, 0, none⟩ 0))), (4, .pointer (some (Addr.add ⟨n683, 0, none⟩ 0))), (5, str s.1)], [⟨n683, [str x682.Tag, .int .u8 (x682.Ind_0.toNat : Int), .int .u8 (x682.Ind_1.toNat : Int), e.1], 59⟩, ⟨b656, [str s.2.2.1, .int .u8 (s.2.2.2.1.toNat : Int), .int .u8 (s.2.2.2.2.1.toNat : Int), e.2.2.2], 59⟩], [⟨e.1, 67, 2, e.2.1, e.2.2.1⟩], [(Ty.str.fact s.1 [str s.1]), (ty67.row s.2.1 e.2.2.1), (pureF (s.2.1.length * ty67.bytes ≤ 140737488355328)), (Ty.str.fact s.2.2.1 [str s.2.2.1]), ((Ty.slice ty67).fact s.2.2.2.2.2 [e.2.2.2]), (Ty.str.fact a0 [str a0]), (Ty.str.fact x682.Tag [str x682.Tag]), (tabsF Tryz.prog 4 5)]⟩ : St)) (fun _ => rfl) _ (a0.drop 6, ([] : (List D_api_Sub)), ([] : Str), 0, 0, ([] : (List D_api_Sub))) ((.slice none 0 0), 0, [], (.slice none 0 0)) hl719 ⟨⟨rfl, ⟨rfl, ⟨rfl, ⟨rfl, trivial⟩⟩⟩⟩, ⟨[true, true], rfl⟩, ⟨[true], rfl⟩, ⟨[4, 3, 2, 1, 0, 6, 5, 7], rfl⟩⟩ ?_
  clear hl719
  intro n s hr e
  obtain ⟨x699, x700, x701, x702, x703, x704⟩ := s
  obtain ⟨v705, n706, i707, v708⟩ := e
  change m56_l1 (n + 1) x699 x700 x701 x702 x703 x704 = some r718 at hr
  change At _ _ (⟨[(0, str a0), (2, .pointer (some (Addr.add ⟨b656, 0, none⟩ 0))), (4, .pointer (some (Addr.add ⟨n683, 0, none⟩ 0))), (5, str x699)], [⟨n683, [str x682.Tag, .int .u8 (x682.Ind_0.toNat : Int), .int .u8 (x682.Ind_1.toNat : Int), v705], 59⟩, ⟨b656, [str x701, .int .u8 (x702.toNat : Int), .int .u8 (x703.toNat : Int), v708], 59⟩], [⟨v705, 67, 2, n706, i707⟩], [(Ty.str.fact x699 [str x699]), (ty67.row x700 i707), (pureF (x700.length * ty67.bytes ≤ 140737488355328)), (Ty.str.fact x701 [str x701]), ((Ty.slice ty67).fact x704 [v708]), (Ty.str.fact a0 [str a0]), (Ty.str.fact x682.Tag [str x682.Tag]), (tabsF Tryz.prog 4 5)]⟩ : St) _
  rw [m56_l1] at hr
  refine at_seq (s_sr (s_mv rfl (at_lt (lt_sneq rfl rfl) rfl (s_nt ?_))))
  by_cases h721 : x699 = ([] : Str)
  ·replace hr := ipos h721 hr
   refine at_false rfl (nt (decide_eq_true h721)) (at_exit (at_then_exit (at_then_exit (at_in_exit ?_))))
   have hq := oinj hr
   clear hr
   subst hq
   exact at_leafP ((x700, x701, x702, x703, x704), (v705, n706, i707, v708)) rfl ⟨⟨rfl, ⟨rfl, ⟨rfl, trivial⟩⟩⟩, ⟨[true, true], rfl⟩, ⟨[true], rfl⟩, ⟨[1, 2, 3, 4, 5, 6, 7], rfl⟩⟩
  replace hr := ineg h721 hr
  refine at_true rfl (nf (decide_eq_false h721)) (at_skip (at_then (at_block (at_seq (s_sr (s_mv rfl ?_))))))
  refine at_inv 0 rfl (fun l722 => ?_)
  replace l722 : x699.length ≤ 9223372036854775807 := l722
  refine at_lt (lt_slen rfl und9) rfl (at_lt (lt_lss rfl rfl) rfl (s_mv rfl ?_))
  by_cases h723 : x699.length < 5
  ·replace hr := ipos h723 hr
   refine at_off rfl rfl (decide_eq_true (by omega)) rfl ?_
   refine at_off rfl rfl (decide_eq_true (by omega)) rfl ?_
   refine at_off rfl rfl (decide_eq_true (by omega)) rfl ?_
   refine at_off rfl rfl (decide_eq_true (by omega)) rfl ?_
   refine at_lt (lt_pick true rfl (decide_eq_true (by omega)) rfl) rfl ?_
   refine s_nt (at_true rfl rfl (s_sr (at_lt (lt_build (cs := [str ([] : Str), .int .u8 0, .int .u8 0, (.slice none 0 0)]) rfl ti59 pl59 rfl) rfl (at_hv rfl (hv_store_box 1 (cs' := [str ([] : Str), .int .u8 0, .int .u8 0, (.slice none 0 0)]) rfl rfl ti59 rfl rfl rfl rfl rfl (s_as rfl (s_nt (at_ret ?_))))))))
   have hq := oinj hr
   clear hr
   subst hq
   have hq := oinj hk720
   clear hk720
   subst hq
   refine at_then_ret (at_in_ret (at_then_ret (at_in_ret (at_then_ret (at_then_ret ?_)))))
   refine at_str ([] : Str) (by decide) ?_
   refine at_fnil ty67 none ?_
   refine at_derive [1, 0] (ty59.fact (⟨([] : Str), 0, 0, ([] : (List D_api_Sub))⟩ : D_api_Field) [str ([] : Str), .int .u8 0, .int .u8 0, (.slice none 0 0)]) rfl (fun F w h => mk59 (x := (⟨([] : Str), 0, 0, ([] : (List D_api_Sub))⟩ : D_api_Field)) h) ?_
   exact at_return (.tuple #[.agg #[str ([] : Str), .int .u8 0, .int .u8 0, (.slice none 0 0)], .bool false]) [0] hS Tryz.results56 (.cons (.cell 1 rfl ti59 rfl rfl rfl rfl) (.cons (.tmp rfl) .nil)) rfl rfl ⟨((.slice none 0 0)), rfl, rfl⟩
  replace hr := ineg h723 hr
  refine at_on rfl rfl (decide_eq_false (by omega)) ?_
  refine at_lt (lt_fieldAddr 3 rfl fld59_2 rfl) rfl ?_
  refine at_on rfl rfl (decide_eq_false (by omega)) ?_
  refine at_lt (lt_load_box 0 rfl ti57 rfl rfl rfl rfl rfl) rfl ?_
  refine at_pure 2 rfl (fun hb726 => ?_)
  simp only [ty67_bytes] at hb726
  refine at_rown 0 1 rfl rfl rfl (fun hn724 => ?_)
  refine at_rowv 0 rfl (fun hv725 => ?_)
  refine at_on rfl rfl (decide_eq_false (by omega)) ?_
  refine at_lt (lt_rlen rfl hv725 und57 hn724) rfl ?_
  refine at_on rfl rfl (decide_eq_false (by omega)) ?_
  refine at_lt (lt_gtr rfl rfl) rfl ?_
  refine at_lt (lt_pick false rfl (decide_eq_false (by omega)) rfl) rfl ?_
  refine s_nt ?_
  by_cases h727 : 20 < x700.length
  ·replace hr := ipos h727 hr
   refine at_true rfl (decide_eq_true (by omega)) ?_
   refine s_sr (at_lt (lt_build (cs := [str ([] : Str), .int .u8 0, .int .u8 0, (.slice none 0 0)]) rfl ti59 pl59 rfl) rfl (at_hv rfl (hv_store_box 1 (cs' := [str ([] : Str), .int .u8 0, .int .u8 0, (.slice none 0 0)]) rfl rfl ti59 rfl rfl rfl rfl rfl (s_as rfl (s_nt (at_ret ?_))))))
   have hq := oinj hr
   clear hr
   subst hq
   have hq := oinj hk720
   clear hk720
   subst hq
   refine at_then_ret (at_in_ret (at_then_ret (at_in_ret (at_then_ret (at_then_ret ?_)))))
   refine at_str ([] : Str) (by decide) ?_
   refine at_fnil ty67 none ?_
   refine at_derive [1, 0] (ty59.fact (⟨([] : Str), 0, 0, ([] : (List D_api_Sub))⟩ : D_api_Field) [str ([] : Str), .int .u8 0, .int .u8 0, (.slice none 0 0)]) rfl (fun F w h => mk59 (x := (⟨([] : Str), 0, 0, ([] : (List D_api_Sub))⟩ : D_api_Field)) h) ?_
   exact at_return (.tuple #[.agg #[str ([] : Str), .int .u8 0, .int .u8 0, (.slice none 0 0)], .bool false]) [0] hS Tryz.results56 (.cons (.cell 1 rfl ti59 rfl rfl rfl rfl) (.cons (.tmp rfl) .nil)) rfl rfl ⟨((.slice none 0 0)), rfl, rfl⟩
  replace hr := ineg h727 hr
  refine at_false rfl (decide_eq_false (by omega)) ?_
  refine at_skip (s_tsr (s_mv rfl ?_))
  replace hr := imust hr
  obtain ⟨h728, hr⟩ := hr
  refine at_lt (lt_scut_l 4 rfl rfl (by omega) und9 (by omega)) rfl ?_
  replace hr := obind hr
  obtain ⟨x729, h730, hr⟩ := hr
  refine at_str (x699.drop 4) (by simp only [List.length_take, List.length_drop]; omega) ?_
  refine at_hv rfl (hv_call0 [0] (f112_spec h730) rfl rfl rfl rfl ?_)
  rintro _ _ ⟨rfl, rfl⟩
  refine at_inv 1 rfl (fun l731 => ?_)
  replace l731 : (-9223372036854775808) ≤ x729.2 ∧ x729.2 ≤ 9223372036854775807 := l731
  refine s_mv rfl (at_lt (lt_extract rfl rfl) rfl (at_lt (lt_extract rfl rfl) rfl (s_as rfl (s_as rfl (s_nt (at_seq ?_))))))
  replace hr := obind hr
  obtain ⟨c732, h733, hr⟩ := hr
  have := (List.getElem?_eq_some_iff.1 h733).1
  have := c732.toNat_lt
  replace hr := imust hr
  obtain ⟨h735, hr⟩ := hr
  refine aa_start 9 (by kernel_rfl) ?_
  refine aa_p 0 rfl (lt_fieldAddr 3 rfl fld59_2 rfl) (aa_l 1 rfl (lt_load_box 0 rfl ti57 rfl rfl rfl rfl rfl) (aa_p 2 rfl (lt_move rfl) ?_))
  refine aa_p 3 rfl (lt_sidx rfl rfl und9 (by omega) h733) ?_
  refine aa_p 4 rfl (lt_move rfl) (aa_p 5 rfl (lt_build (cs := [.int .u8 (c732.toNat : Int), str x729.1]) rfl ti67 pl67 rfl) (aa_one 6 (aa_op rfl rfl ?_)))
  refine hv_bslice (cs := [.int .u8 (c732.toNat : Int), str x729.1]) rfl und57 ti67 rfl rfl rfl rfl rfl (fun s739 => ?_)
  refine aa_one 7 ?_
  refine at_derive [0] (ty67.fact (⟨c732, x729.1⟩ : D_api_Sub) [.int .u8 (c732.toNat : Int), str x729.1]) rfl (fun F w h => mk67 (x := (⟨c732, x729.1⟩ : D_api_Sub)) h) ?_
  refine at_rown 1 5 rfl rfl rfl (fun hn741 => ?_)
  refine aa_op rfl rfl ?_
  refine hv_append 1 0 rfl rfl rfl rfl und57 ti67 rfl rfl rfl (by omega) (by omega) rfl (fun s740 => ?_)
  refine at_rowsnoc 5 0 rfl rfl ?_
  refine aa_pure 8 rfl (by kernel_rfl) rfl rfl (lt_fieldAddr 3 rfl fld59_2 rfl) rfl (ts_in 0 2 rfl rfl) ?_
  refine aa_all (rs := [9]) (by kernel_rfl) rfl (ts_in 0 2 rfl rfl) (List.forall_mem_singleton.2 ?_)
  refine at_rowv 1 rfl (fun ho742 => ?_)
  replace ho742 := row_one (by obtain ⟨a, c, h⟩ := ho742; exact ⟨a, _, c, h⟩)
  refine aa_op rfl rfl (hv_store1 0 (cs' := [str x682.Tag, .int .u8 (x682.Ind_0.toNat : Int), .int .u8 (x682.Ind_1.toNat : Int), s740]) rfl rfl ti57 rfl rfl rfl rfl ho742 ?_)
  refine aa_done (by kernel_rfl) (ts_out rfl) ?_
  refine s_tr (s_mv rfl (s_mv rfl (at_lt (lt_addw rfl rfl) rfl ?_)))
  replace hr := imust hr
  obtain ⟨h743, hr⟩ := hr
  refine at_lt (lt_scut_l ((IntKind.i64.wrap (4 + x729.2)).toNat) rfl rfl (by omega) und9 (by omega)) rfl ?_
  refine s_as rfl (at_nil (at_in ?_))
  refine at_str (x699.drop ((IntKind.i64.wrap (4 + x729.2)).toNat)) (by simp only [List.length_take, List.length_drop]; omega) ?_
  refine at_mkpure (q := ((x700 ++ [(⟨c732, x729.1⟩ : D_api_Sub)]).length * ty67.bytes ≤ 140737488355328)) (by simp only [List.length_append, List.length_cons, List.length_nil, ty67_bytes] <;> omega) ?_
  exact at_again (σ := (Str × (List D_api_Sub) × Str × UInt8 × UInt8 × (List D_api_Sub))) (V := Value × Nat × (List Value) × Value) (lp := fun n s => m56_l1 n s.1 s.2.1 s.2.2.1 s.2.2.2.1 s.2.2.2.2.1 s.2.2.2.2.2) (S := fun s e => (⟨[(0, str a0), (2, .pointer (some (Addr.add ⟨b656, 0, none⟩ 0))), (4, .pointer (some (Addr.add ⟨n683, 0, none⟩ 0))), (5, str s.1)], [⟨n683, [str x682.Tag, .int .u8 (x682.Ind_0.toNat : Int), .int .u8 (x682.Ind_1.toNat : Int), e.1], 59⟩, ⟨b656, [str s.2.2.1, .int .u8 (s.2.2.2.1.toNat : Int), .int .u8 (s.2.2.2.2.1.toNat : Int), e.2.2.2], 59⟩], [⟨e.1, 67, 2, e.2.1, e.2.2.1⟩], [(Ty.str.fact s.1 [str s.1]), (ty67.row s.2.1 e.2.2.1), (pureF (s.2.1.length * ty67.bytes ≤ 140737488355328)), (Ty.str.fact s.2.2.1 [str s.2.2.1]), ((Ty.slice ty67).fact s.2.2.2.2.2 [e.2.2.2]), (Ty.str.fact a0 [str a0]), (Ty.str.fact x682.Tag [str x682.Tag]), (tabsF Tryz.prog 4 5)]⟩ : St)) (x699.drop ((IntKind.i64.wrap (4 + x729.2)).toNat), x700 ++ [(⟨c732, x729.1⟩ : D_api_Sub)], x701, x702, x703, x704) (s740, n706 + 1, i707 ++ [.int .u8 (c732.toNat : Int), str x729.1], v708) hr ⟨⟨rfl, ⟨rfl, ⟨rfl, ⟨rfl, trivial⟩⟩⟩⟩, ⟨[true, true], rfl⟩, ⟨[false, true], rfl⟩, ⟨[1, 2, 0, 10, 11, 12, 13, 14], rfl⟩⟩
 rintro ⟨⟨x709, x710, x711, x712, x713⟩, ⟨v714, n715, i716, v717⟩⟩ hp
 replace hr := hk720
 subst hp
 clear hl719
 change At _ _ (⟨[(0, str a0), (2, .pointer (some (Addr.add ⟨b656, 0, none⟩ 0))), (4, .pointer (some (Addr.add ⟨n683, 0, none⟩ 0)))], [⟨n683, [str x682.Tag, .int .u8 (x682.Ind_0.toNat : Int), .int .u8 (x682.Ind_1.toNat : Int), v714], 59⟩, ⟨b656, [str x710, .int .u8 (x711.toNat : Int), .int .u8 (x712.toNat : Int), v717], 59⟩], [⟨v714, 67, 2, n715, i716⟩], [(ty67.row x709 i716), (pureF (x709.length * ty67.bytes ≤ 140737488355328)), (Ty.str.fact x710 [str x710]), ((Ty.slice ty67).fact x713 [v717]), (Ty.str.fact a0 [str a0]), (Ty.str.fact x682.Tag [str x682.Tag]), (tabsF Tryz.prog 4 5)]⟩ : St) _
 refine at_then (at_seq ?_)
 replace hr := obind hr
 obtain ⟨x744, h745, hr⟩ := hr
 by_cases h747 : x744 = true
 ·replace hr := ipos h747 hr
  replace hr := obind hr
  obtain ⟨x748, h749, hr⟩ := hr
  refine aa_start 9 (by kernel_rfl) ?_
  refine aa_l 0 rfl (lt_load_box 0 rfl ti59 rfl rfl rfl rfl rfl) (aa_one 1 (aa_op rfl rfl (hv_lt (lt_load_box 0 rfl ti59 rfl rfl rfl rfl rfl) rfl (aa_one 2 ?_))))
  refine at_pure 1 rfl (fun hb751 => ?_)
  refine at_release 0 0 rfl rfl rfl hb751 ?_
  refine at_derive [6, 0] (ty59.fact (⟨x682.Tag, x682.Ind_0, x682.Ind_1, x709⟩ : D_api_Field) [str x682.Tag, .int .u8 (x682.Ind_0.toNat : Int), .int .u8 (x682.Ind_1.toNat : Int), v714]) rfl (fun F w h => mk59 (x := (⟨x682.Tag, x682.Ind_0, x682.Ind_1, x709⟩ : D_api_Field)) h) ?_
  refine aa_op rfl rfl (hv_call0 [0, 8] (f35_spec h745) rfl rfl rfl rfl ?_)
  rintro _ _ ⟨rfl, rfl⟩
  refine aa_pure 3 rfl (by kernel_rfl) rfl rfl (lt_move rfl) rfl (ts_in 0 2 rfl rfl) ?_
  refine aa_pure 6 rfl (by kernel_rfl) rfl ⟨58, rfl, .inl ⟨_, rfl, gdq (v := true) h747 rfl⟩⟩ (lt_move rfl) rfl (ts_in 0 2 rfl rfl) ?_
  refine aa_all (rs := [4]) (by kernel_rfl) rfl (ts_in 0 2 rfl rfl) (List.forall_mem_singleton.2 ?_)
  refine aa_op rfl ⟨58, rfl, .inl ⟨_, rfl, gdq (v := true) h747 rfl⟩⟩ ?_
  refine hv_lt (lt_load_box 0 rfl ti59 rfl rfl rfl rfl rfl) rfl ?_
  refine aa_all (rs := [5]) (by kernel_rfl) rfl (ts_in 0 2 rfl rfl) (List.forall_mem_singleton.2 ?_)
  refine aa_op rfl ⟨58, rfl, .inl ⟨_, rfl, gdq (v := true) h747 rfl⟩⟩ ?_
  refine hv_call0 [0] (f50_spec h749) rfl rfl rfl rfl ?_
  rintro _ _ ⟨rfl, rfl⟩
  refine aa_pure 7 rfl (by kernel_rfl) rfl ⟨58, rfl, .inl ⟨_, rfl, gdq (v := true) h747 rfl⟩⟩ (lt_seql rfl rfl) rfl (ts_in 0 3 rfl rfl) ?_
  refine aa_pure 8 rfl (by kernel_rfl) rfl rfl (lt_pick true rfl h747 rfl) rfl (ts_in 0 3 rfl rfl) ?_
  refine aa_all (rs := [9]) (by kernel_rfl) rfl (ts_in 0 3 rfl rfl) (List.forall_mem_singleton.2 ?_)
  refine at_one 2 rfl (fun ho752 => ?_)
  refine aa_op rfl rfl (hv_store_box 1 (cs' := [str x682.Tag, .int .u8 (x682.Ind_0.toNat : Int), .int .u8 (x682.Ind_1.toNat : Int), v714]) rfl rfl ti59 rfl rfl rfl rfl (allc rfl (allc rfl (allc rfl (allc ho752 rfl)))) ?_)
  refine aa_all (rs := [10]) (by kernel_rfl) rfl (ts_out rfl) (List.forall_mem_singleton.2 ?_)
  refine aa_op rfl rfl (hv_lt (lt_assign rfl) rfl ?_)
  refine aa_done (by kernel_rfl) (ts_out rfl) ?_
  refine at_then (at_ret ?_)
  have hq := oinj hr
  clear hr
  subst hq
  exact at_return (.tuple #[.agg #[str x682.Tag, .int .u8 (x682.Ind_0.toNat : Int), .int .u8 (x682.Ind_1.toNat : Int), v714], .bool (decide (x748 = a0))]) [1] hS Tryz.results56 (.cons (.cell 1 rfl ti59 rfl rfl rfl rfl) (.cons (.tmp rfl) .nil)) rfl rfl ⟨v714, rfl, rfl⟩
 replace hr := ineg h747 hr
 refine aa_start 9 (by kernel_rfl) ?_
 refine aa_l 0 rfl (lt_load_box 0 rfl ti59 rfl rfl rfl rfl rfl) (aa_one 1 (aa_op rfl rfl (hv_lt (lt_load_box 0 rfl ti59 rfl rfl rfl rfl rfl) rfl (aa_one 2 ?_))))
 refine at_pure 1 rfl (fun hb754 => ?_)
 refine at_release 0 0 rfl rfl rfl hb754 ?_
 refine at_derive [6, 0] (ty59.fact (⟨x682.Tag, x682.Ind_0, x682.Ind_1, x709⟩ : D_api_Field) [str x682.Tag, .int .u8 (x682.Ind_0.toNat : Int), .int .u8 (x682.Ind_1.toNat : Int), v714]) rfl (fun F w h => mk59 (x := (⟨x682.Tag, x682.Ind_0, x682.Ind_1, x709⟩ : D_api_Field)) h) ?_
 refine aa_op rfl rfl (hv_call0 [0, 8] (f35_spec h745) rfl rfl rfl rfl ?_)
 rintro _ _ ⟨rfl, rfl⟩
 refine aa_pure 3 rfl (by kernel_rfl) rfl rfl (lt_move rfl) rfl (ts_in 0 2 rfl rfl) ?_
 refine aa_off 4 rfl (by kernel_rfl) rfl ⟨58, rfl, .inl ⟨_, rfl, gdq (v := false) (bf h747) rfl⟩⟩ rfl (ts_in 0 2 rfl rfl) ?_
 refine aa_off 5 rfl (by kernel_rfl) rfl ⟨58, rfl, .inl ⟨_, rfl, gdq (v := false) (bf h747) rfl⟩⟩ rfl (ts_in 0 2 rfl rfl) ?_
 refine aa_off 6 rfl (by kernel_rfl) rfl ⟨58, rfl, .inl ⟨_, rfl, gdq (v := false) (bf h747) rfl⟩⟩ rfl (ts_in 0 2 rfl rfl) ?_
 refine aa_off 7 rfl (by kernel_rfl) rfl ⟨58, rfl, .inl ⟨_, rfl, gdq (v := false) (bf h747) rfl⟩⟩ rfl (ts_in 0 2 rfl rfl) ?_
 refine aa_pure 8 rfl (by kernel_rfl) rfl rfl (lt_pick false rfl (bf h747) rfl) rfl (ts_in 0 2 rfl rfl) ?_
 refine aa_all (rs := [9]) (by kernel_rfl) rfl (ts_in 0 2 rfl rfl) (List.forall_mem_singleton.2 ?_)
 refine at_one 1 rfl (fun ho755 => ?_)
 refine aa_op rfl rfl (hv_store_box 1 (cs' := [str x682.Tag, .int .u8 (x682.Ind_0.toNat : Int), .int .u8 (x682.Ind_1.toNat : Int), v714]) rfl rfl ti59 rfl rfl rfl rfl (allc rfl (allc rfl (allc rfl (allc ho755 rfl)))) ?_)
 refine aa_all (rs := [10]) (by kernel_rfl) rfl (ts_out rfl) (List.forall_mem_singleton.2 ?_)
 refine aa_op rfl rfl (hv_lt (lt_assign rfl) rfl ?_)
 refine aa_done (by kernel_rfl) (ts_out rfl) ?_
 refine at_then (at_ret ?_)
 have hq := oinj hr
 clear hr
 subst hq
 exact at_return (.tuple #[.agg #[str x682.Tag, .int .u8 (x682.Ind_0.toNat : Int), .int .u8 (x682.Ind_1.toNat : Int), v714], .bool false]) [0] hS Tryz.results56 (.cons (.cell 1 rfl ti59 rfl rfl rfl rfl) (.cons (.tmp rfl) .nil)) rfl rfl ⟨v714, rfl, rfl⟩
def m15_l1 : Nat → Str → Nat → Int → (List D_api_Field) → Option (Fl (D_api_Record × Int × Int) (Nat × Int × Int × (List D_api_Field)))
  | 0, _, _, _, _ => none
  | k + 1, x758, x759, x760, x761 =>
    (m53 x758 ([10] : Str)).bind fun x776 =>
    Option.bind (α := Bool) (
     if 1 < x759 then
      some (decide (x758 = ([] : Str)))
     else
      some false
    ) fun x778 =>
    if x778 = true then
     some (Fl.ret ((⟨x760, x761⟩ : D_api_Record), 0, 0))
    else
     if x776.2.2 = true then
      if 60 < x759 then
       some (Fl.ret ((⟨0, ([] : (List D_api_Field))⟩ : D_api_Record), (x759 : Int), 7))
      else
       if x759 = 0 then
        (m54 x776.1 ([114, 101, 99, 111, 114, 100, 32] : Str)).bind fun x787 =>
        (m55 x787.1).bind fun x789 =>
        if x787.2 = true then
         if x789.2 = true then
          if x759 + 1 ≤ 9223372036854775807 then
           m15_l1 k x776.2.1 (x759 + 1) x789.1 x761
          else none
         else
          some (Fl.ret ((⟨0, ([] : (List D_api_Field))⟩ : D_api_Record), 0, 7))
        else
         some (Fl.ret ((⟨0, ([] : (List D_api_Field))⟩ : D_api_Record), 0, 7))
       else
        (m56 x776.1).bind fun x795 =>
        if x795.2 = true then
         if x761.length + 1 ≤ 2932031007402 then
          if x759 + 1 ≤ 9223372036854775807 then
           m15_l1 k x776.2.1 (x759 + 1) x760 (x761 ++ [(⟨x795.1.Tag, x795.1.Ind_0, x795.1.Ind_1, x795.1.Subs⟩ : D_api_Field)])
          else none
         else none
        else
         some (Fl.ret ((⟨0, ([] : (List D_api_Field))⟩ : D_api_Record), (x759 : Int), 7))
     else
      some (Fl.ret ((⟨0, ([] : (List D_api_Field))⟩ : D_api_Record), (x759 : Int), 7))
def m15 (a0 : Str) : Option (D_api_Record × Int × Int) :=
  (m15_l1 9223372036854775808 a0 0 0 ([] : (List D_api_Field))).bind fun r => match r with
  | .ret x => some x
  | .go (x765, x766, x767, x768) =>
   some ((⟨x767, x768⟩ : D_api_Record), (x765 : Int), x766)
def post15 (r : (D_api_Record × Int × Int)) (v : Value) (fs : List Fact) : Prop := ∃ s810 : Value, v = .tuple #[.agg #[.int .i64 r.1.ID, s810], .int .i64 r.2.1, .int .i64 r.2.2] ∧ fs = [(ty24.fact r.1 [.int .i64 r.1.ID, s810]), ((Ty.int .i64).fact r.2.1 [.int .i64 r.2.1]), ((Ty.int .i64).fact r.2.2 [.int .i64 r.2.2])]
theorem en15 : Enters Tryz.prog 15 := ⟨_, Tryz.func15, by kernel_rfl, rfl⟩
theorem f15_spec {a0 : Str} {r : (D_api_Record × Int × Int)} (hr : m15 a0 = some r) : Spec Tryz.prog 15 [str a0] [(Ty.str.fact a0 [str a0]), (tabsF Tryz.prog 4 5)] (post15 r) := by
 refine spec_start (N := 74) Tryz.func15 (by kernel_rfl) rfl rfl rfl ?_
 intro g hS
 unfold m15 at hr
 refine s_sr (at_hv rfl ?_)
 refine hv_alloc (cs := [.int .i64 0, (.slice none 0 0)]) ti24 rfl rfl (fun b757 => ?_)
 refine s_as rfl (s_as rfl (s_ntsr (s_as rfl (s_nt (at_int .i64 0 (by simp only [lo, hi]; omega) (at_rownew none 59 4 (at_rownil ty59 ?_)))))))
 refine at_mkpure (q := (([] : (List D_api_Field)).length * ty59.bytes ≤ 140737488355328)) (by simp only [List.nil_append, List.cons_append, List.length_cons, List.length_nil, ty59_bytes] <;> omega) ?_
 replace hr := obind hr
 obtain ⟨r772, hl773, hk774⟩ := hr
 refine at_cutP (V := ((Nat × Int × Int × (List D_api_Field))) × (Value × Nat × (List Value))) (fun v => r772 = Fl.go v.1) (fun v => (⟨[(2, .pointer (some (Addr.add ⟨b757, 0, none⟩ 0))), (3, .int .i64 (v.1.1 : Int)), (4, .int .i64 v.1.2.1)], [⟨b757, [.int .i64 v.1.2.2.1, v.2.1], 24⟩], [⟨v.2.1, 59, 4, v.2.2.1, v.2.2.2⟩], [((Ty.int .i64).fact (v.1.1 : Int) [.int .i64 (v.1.1 : Int)]), ((Ty.int .i64).fact v.1.2.1 [.int .i64 v.1.2.1]), ((Ty.int .i64).fact v.1.2.2.1 [.int .i64 v.1.2.2.1]), (ty59.row v.1.2.2.2 v.2.2.2), (pureF (v.1.2.2.2.length * ty59.bytes ≤ 140737488355328)), (tabsF Tryz.prog 4 5)]⟩ : St)) ?_ ?_
 ·refine at_block ?_
  refine at_loopW (σ := (Str × Nat × Int × (List D_api_Field))) (V := Value × Nat × (List Value)) (r := r772) (fun n s => m15_l1 n s.1 s.2.1 s.2.2.1 s.2.2.2) (fun s e => (⟨[(0, str s.1), (2, .pointer (some (Addr.add ⟨b757, 0, none⟩ 0))), (3, .int .i64 (s.2.1 : Int))], [⟨b757, [.int .i64 s.2.2.1, e.1], 24⟩], [⟨e.1, 59, 4, e.2.1, e.2.2⟩], [(Ty.str.fact s.1 [str s.1]), ((Ty.int .i64).fact (s.2.1 : Int) [.int .i64 (s.2.1 : Int)]), ((Ty.int .i64).fact s.2.2.1 [.int .i64 s.2.2.1]), (ty59.row s.2.2.2 e.2.2), (pureF (s.2.2.2.length * ty59.bytes ≤ 140737488355328)), (tabsF Tryz.prog 4 5)]⟩ : St)) (fun _ => rfl) _ (a0, 0, 0, ([] : (List D_api_Field))) ((.slice none 0 0), 0, []) hl773 ⟨⟨rfl, ⟨rfl, ⟨rfl, trivial⟩⟩⟩, ⟨[true], rfl⟩, ⟨[true], rfl⟩, ⟨[3, 2, 2, 1, 0, 4], rfl⟩⟩ ?_
  clear hl773
  intro n s hr e
  obtain ⟨x758, x759, x760, x761⟩ := s
  obtain ⟨v762, n763, i764⟩ := e
  change m15_l1 (n + 1) x758 x759 x760 x761 = some r772 at hr
  change At _ _ (⟨[(0, str x758), (2, .pointer (some (Addr.add ⟨b757, 0, none⟩ 0))), (3, .int .i64 (x759 : Int))], [⟨b757, [.int .i64 x760, v762], 24⟩], [⟨v762, 59, 4, n763, i764⟩], [(Ty.str.fact x758 [str x758]), ((Ty.int .i64).fact (x759 : Int) [.int .i64 (x759 : Int)]), ((Ty.int .i64).fact x760 [.int .i64 x760]), (ty59.row x761 i764), (pureF (x761.length * ty59.bytes ≤ 140737488355328)), (tabsF Tryz.prog 4 5)]⟩ : St) _
  rw [m15_l1] at hr
  refine at_inv 2 rfl (fun l775 => ?_)
  replace l775 : (-9223372036854775808) ≤ x760 ∧ x760 ≤ 9223372036854775807 := l775
  refine at_seq (at_block (s_sr (s_mv rfl ?_)))
  replace hr := obind hr
  obtain ⟨x776, h777, hr⟩ := hr
  refine at_str ([10] : Str) (by decide) ?_
  refine at_hv rfl (hv_call0 [1, 0] (f53_spec h777) rfl rfl rfl rfl ?_)
  rintro _ _ ⟨rfl, rfl⟩
  refine s_mv rfl (at_lt (lt_extract rfl rfl) rfl (at_lt (lt_extract rfl rfl) rfl (at_lt (lt_extract rfl rfl) rfl (s_as rfl (s_as rfl (s_as rfl (s_nt (at_seq (at_seq ?_)))))))))
  replace hr := obind hr
  obtain ⟨x778, hc779, hr⟩ := hr
  refine at_cut (V := Unit) (fun e => (⟨[(2, .pointer (some (Addr.add ⟨b757, 0, none⟩ 0))), (3, .int .i64 (x759 : Int)), (5, str x776.1), (6, str x776.2.1), (7, .bool x776.2.2), (27, .bool x778)], [⟨b757, [.int .i64 x760, v762], 24⟩], [⟨v762, 59, 4, n763, i764⟩], [((Ty.int .i64).fact (x759 : Int) [.int .i64 (x759 : Int)]), (Ty.str.fact x776.1 [str x776.1]), (Ty.str.fact x776.2.1 [str x776.2.1]), ((Ty.int .i64).fact x760 [.int .i64 x760]), (ty59.row x761 i764), (pureF (x761.length * ty59.bytes ≤ 140737488355328)), (tabsF Tryz.prog 4 5)]⟩ : St)) ?_ ?_
  ·clear hr
   have hr := hc779
   clear hc779
   refine at_region (s_mv rfl (at_lt (lt_gtr rfl rfl) rfl (s_mv rfl ?_)))
   by_cases h780 : 1 < x759
   ·replace hr := ipos h780 hr
    refine at_on rfl rfl (decide_eq_true (by omega)) ?_
    refine s_mv rfl ?_
    refine at_on rfl rfl (decide_eq_true (by omega)) ?_
    refine at_lt (lt_seql rfl rfl) rfl ?_
    refine at_lt (lt_pick true rfl (decide_eq_true (by omega)) rfl) rfl ?_
    refine at_nil ?_
    have hq := oinj hr
    clear hr
    subst hq
    exact at_leaf () ⟨⟨rfl, ⟨rfl, ⟨rfl, ⟨rfl, ⟨rfl, ⟨rfl, trivial⟩⟩⟩⟩⟩⟩, ⟨[true], rfl⟩, ⟨[true], rfl⟩, ⟨[4, 0, 1, 5, 6, 7, 8], rfl⟩⟩
   replace hr := ineg h780 hr
   refine at_off rfl rfl (decide_eq_false (by omega)) rfl ?_
   refine at_off rfl rfl (decide_eq_false (by omega)) rfl ?_
   refine at_lt (lt_pick false rfl (decide_eq_false (by omega)) rfl) rfl ?_
   refine at_nil ?_
   have hq := oinj hr
   clear hr
   subst hq
   exact at_leaf () ⟨⟨rfl, ⟨rfl, ⟨rfl, ⟨rfl, ⟨rfl, ⟨rfl, trivial⟩⟩⟩⟩⟩⟩, ⟨[true], rfl⟩, ⟨[true], rfl⟩, ⟨[4, 0, 1, 5, 6, 7, 8], rfl⟩⟩
  clear hc779
  intro _
  change At _ _ (⟨[(2, .pointer (some (Addr.add ⟨b757, 0, none⟩ 0))), (3, .int .i64 (x759 : Int)), (5, str x776.1), (6, str x776.2.1), (7, .bool x776.2.2), (27, .bool x778)], [⟨b757, [.int .i64 x760, v762], 24⟩], [⟨v762, 59, 4, n763, i764⟩], [((Ty.int .i64).fact (x759 : Int) [.int .i64 (x759 : Int)]), (Ty.str.fact x776.1 [str x776.1]), (Ty.str.fact x776.2.1 [str x776.2.1]), ((Ty.int .i64).fact x760 [.int .i64 x760]), (ty59.row x761 i764), (pureF (x761.length * ty59.bytes ≤ 140737488355328)), (tabsF Tryz.prog 4 5)]⟩ : St) _
  refine at_then ?_
  by_cases h781 : x778 = true
  ·replace hr := ipos h781 hr
   refine at_true rfl h781 (s_sr (at_lt (lt_load_box 0 rfl ti24 rfl rfl rfl rfl rfl) rfl ?_))
   refine at_rowv 0 rfl (fun ho782 => ?_)
   replace ho782 := row_one (by obtain ⟨a, c, h⟩ := ho782; exact ⟨a, _, c, h⟩)
   refine at_hv rfl (hv_store_box 0 (cs' := [.int .i64 x760, v762]) rfl rfl ti24 rfl rfl rfl rfl (allc rfl (allc ho782 rfl)) (s_as rfl (s_as rfl (s_nt (at_ret ?_)))))
   have hq := oinj hr
   clear hr
   subst hq
   have hq := oinj hk774
   clear hk774
   subst hq
   refine at_then_ret (at_in_ret (at_then_ret (at_then_ret (at_in_ret (at_then_ret ?_)))))
   refine at_pure 5 rfl (fun hb783 => ?_)
   refine at_release 0 4 rfl rfl rfl hb783 ?_
   refine at_derive [4, 0] (ty24.fact (⟨x760, x761⟩ : D_api_Record) [.int .i64 x760, v762]) rfl (fun F w h => mk24 (x := (⟨x760, x761⟩ : D_api_Record)) h) ?_
   refine at_int .i64 0 (by simp only [lo, hi]; omega) ?_
   exact at_return (.tuple #[.agg #[.int .i64 x760, v762], .int .i64 0, .int .i64 0]) [1, 0, 0] hS Tryz.results15 (.cons (.cell 0 rfl ti24 rfl rfl rfl rfl) (.cons (.tmp rfl) (.cons (.tmp rfl) .nil))) rfl rfl ⟨v762, rfl, rfl⟩
  replace hr := ineg h781 hr
  refine at_false rfl (bf h781) (at_skip (at_then (at_seq (s_sr (s_mv rfl (at_lt (lt_not rfl) rfl (s_mv rfl ?_)))))))
  by_cases h784 : x776.2.2 = true
  ·replace hr := ipos h784 hr
   refine at_on rfl rfl (nt h784) (s_mv rfl (at_on rfl rfl (nt h784) (at_lt (lt_gtr rfl rfl) rfl (at_lt (lt_pick false rfl (nt h784) rfl) rfl (s_nt ?_)))))
   by_cases h785 : 60 < x759
   ·replace hr := ipos h785 hr
    refine at_true rfl (decide_eq_true (by omega)) ?_
    refine s_sr (at_lt (lt_build (cs := [.int .i64 0, (.slice none 0 0)]) rfl ti24 pl24 rfl) rfl (s_mv rfl (at_hv rfl (hv_store_box 0 (cs' := [.int .i64 0, (.slice none 0 0)]) rfl rfl ti24 rfl rfl rfl rfl rfl (s_as rfl (s_as rfl (s_nt (at_ret ?_))))))))
    have hq := oinj hr
    clear hr
    subst hq
    have hq := oinj hk774
    clear hk774
    subst hq
    refine at_then_ret (at_in_ret (at_then_ret (at_then_ret (at_in_ret (at_then_ret (at_int .i64 0 (by simp only [lo, hi]; omega) (at_fnil ty59 none ?_)))))))
    refine at_derive [1, 0] (ty24.fact (⟨0, ([] : (List D_api_Field))⟩ : D_api_Record) [.int .i64 0, (.slice none 0 0)]) rfl (fun F w h => mk24 (x := (⟨0, ([] : (List D_api_Field))⟩ : D_api_Record)) h) ?_
    refine at_int .i64 7 (by simp only [lo, hi]; omega) ?_
    exact at_return (.tuple #[.agg #[.int .i64 0, (.slice none 0 0)], .int .i64 (x759 : Int), .int .i64 7]) [1, 4, 0] hS Tryz.results15 (.cons (.cell 0 rfl ti24 rfl rfl rfl rfl) (.cons (.tmp rfl) (.cons (.tmp rfl) .nil))) rfl rfl ⟨((.slice none 0 0)), rfl, rfl⟩
   replace hr := ineg h785 hr
   refine at_false rfl (decide_eq_false (by omega)) ?_
   refine at_skip (at_then (at_seq (s_sr (s_mv rfl (at_lt (lt_eql rfl rfl) rfl (s_nt ?_))))))
   by_cases h786 : x759 = 0
   ·replace hr := ipos h786 hr
    refine at_true rfl (decide_eq_true (by omega)) ?_
    refine s_sr (s_mv rfl ?_)
    replace hr := obind hr
    obtain ⟨x787, h788, hr⟩ := hr
    refine at_str ([114, 101, 99, 111, 114, 100, 32] : Str) (by decide) ?_
    refine at_hv rfl (hv_call0 [2, 0] (f54_spec h788) rfl rfl rfl rfl ?_)
    rintro _ _ ⟨rfl, rfl⟩
    refine s_mv rfl (at_lt (lt_extract rfl rfl) rfl (at_lt (lt_extract rfl rfl) rfl (s_as rfl (s_as rfl (s_ntsr (s_mv rfl ?_))))))
    replace hr := obind hr
    obtain ⟨x789, h790, hr⟩ := hr
    refine at_hv rfl (hv_call0 [0, 8] (f55_spec h790) rfl rfl rfl rfl ?_)
    rintro _ _ ⟨rfl, rfl⟩
    refine at_inv 0 rfl (fun l791 => ?_)
    replace l791 : (-9223372036854775808) ≤ x789.1 ∧ x789.1 ≤ 9223372036854775807 := l791
    refine s_mv rfl (at_lt (lt_extract rfl rfl) rfl (at_lt (lt_extract rfl rfl) rfl (s_as rfl (s_as rfl (s_nt (at_seq (s_sr (s_mv rfl (at_lt (lt_not rfl) rfl ?_)))))))))
    refine s_mv rfl ?_
    by_cases h792 : x787.2 = true
    ·replace hr := ipos h792 hr
     refine at_on rfl rfl (nt h792) (s_mv rfl (at_on rfl rfl (nt h792) (at_lt (lt_not rfl) rfl (at_lt (lt_pick false rfl (nt h792) rfl) rfl (s_nt ?_)))))
     by_cases h793 : x789.2 = true
     ·replace hr := ipos h793 hr
      refine at_false rfl (nt h793) (at_skip (s_tr (s_mv rfl (at_lt (lt_fieldAddr 0 rfl fld24_0 rfl) rfl (at_hv rfl (hv_store_box 0 (cs' := [.int .i64 x789.1, v762]) rfl rfl ti3 rfl rfl rfl rfl rfl (at_nil (s_tr (s_mv rfl ?_)))))))))
      refine s_as rfl (at_nil (at_in (s_tr (s_mv rfl ?_))))
      replace hr := imust hr
      obtain ⟨h794, hr⟩ := hr
      refine at_lt (lt_add rfl rfl (by simp only [lo, hi]; omega)) rfl (s_as rfl (at_nil (at_int .i64 (x759 + 1 : Int) (by simp only [lo, hi]; omega) ?_)))
      exact at_again (σ := (Str × Nat × Int × (List D_api_Field))) (V := Value × Nat × (List Value)) (lp := fun n s => m15_l1 n s.1 s.2.1 s.2.2.1 s.2.2.2) (S := fun s e => (⟨[(0, str s.1), (2, .pointer (some (Addr.add ⟨b757, 0, none⟩ 0))), (3, .int .i64 (s.2.1 : Int))], [⟨b757, [.int .i64 s.2.2.1, e.1], 24⟩], [⟨e.1, 59, 4, e.2.1, e.2.2⟩], [(Ty.str.fact s.1 [str s.1]), ((Ty.int .i64).fact (s.2.1 : Int) [.int .i64 (s.2.1 : Int)]), ((Ty.int .i64).fact s.2.2.1 [.int .i64 s.2.2.1]), (ty59.row s.2.2.2 e.2.2), (pureF (s.2.2.2.length * ty59.bytes ≤ 140737488355328)), (tabsF Tryz.prog 4 5)]⟩ : St)) (x776.2.1, x759 + 1, x789.1, x761) (v762, n763, i764) hr ⟨⟨rfl, ⟨rfl, ⟨rfl, trivial⟩⟩⟩, ⟨[true], rfl⟩, ⟨[true], rfl⟩, ⟨[6, 0, 1, 8, 9, 10], rfl⟩⟩
     replace hr := ineg h793 hr
     refine at_true rfl (nf (bf h793)) (s_sr (at_lt (lt_build (cs := [.int .i64 0, (.slice none 0 0)]) rfl ti24 pl24 rfl) rfl (at_hv rfl (hv_store_box 0 (cs' := [.int .i64 0, (.slice none 0 0)]) rfl rfl ti24 rfl rfl rfl rfl rfl (s_as rfl (s_as rfl (s_nt (at_ret ?_))))))))
     have hq := oinj hr
     clear hr
     subst hq
     have hq := oinj hk774
     clear hk774
     subst hq
     refine at_then_ret (at_then_ret (at_in_ret (at_then_ret (at_then_ret (at_in_ret (at_then_ret (at_int .i64 0 (by simp only [lo, hi]; omega) (at_fnil ty59 none ?_))))))))
     refine at_derive [1, 0] (ty24.fact (⟨0, ([] : (List D_api_Field))⟩ : D_api_Record) [.int .i64 0, (.slice none 0 0)]) rfl (fun F w h => mk24 (x := (⟨0, ([] : (List D_api_Field))⟩ : D_api_Record)) h) ?_
     refine at_int .i64 7 (by simp only [lo, hi]; omega) ?_
     exact at_return (.tuple #[.agg #[.int .i64 0, (.slice none 0 0)], .int .i64 0, .int .i64 7]) [1, 3, 0] hS Tryz.results15 (.cons (.cell 0 rfl ti24 rfl rfl rfl rfl) (.cons (.tmp rfl) (.cons (.tmp rfl) .nil))) rfl rfl ⟨((.slice none 0 0)), rfl, rfl⟩
    replace hr := ineg h792 hr
    refine at_off rfl rfl (nf (bf h792)) rfl (at_off rfl rfl (nf (bf h792)) rfl (at_lt (lt_pick true rfl (nf (bf h792)) rfl) rfl (s_nt (at_true rfl rfl (s_sr (at_lt (lt_build (cs := [.int .i64 0, (.slice none 0 0)]) rfl ti24 pl24 rfl) rfl (at_hv rfl (hv_store_box 0 (cs' := [.int .i64 0, (.slice none 0 0)]) rfl rfl ti24 rfl rfl rfl rfl rfl (s_as rfl ?_)))))))))
    refine s_as rfl (s_nt (at_ret ?_))
    have hq := oinj hr
    clear hr
    subst hq
    have hq := oinj hk774
    clear hk774
    subst hq
    refine at_then_ret (at_then_ret (at_in_ret (at_then_ret (at_then_ret (at_in_ret (at_then_ret (at_int .i64 0 (by simp only [lo, hi]; omega) (at_fnil ty59 none ?_))))))))
    refine at_derive [1, 0] (ty24.fact (⟨0, ([] : (List D_api_Field))⟩ : D_api_Record) [.int .i64 0, (.slice none 0 0)]) rfl (fun F w h => mk24 (x := (⟨0, ([] : (List D_api_Field))⟩ : D_api_Record)) h) ?_
    refine at_int .i64 7 (by simp only [lo, hi]; omega) ?_
    exact at_return (.tuple #[.agg #[.int .i64 0, (.slice none 0 0)], .int .i64 0, .int .i64 7]) [1, 3, 0] hS Tryz.results15 (.cons (.cell 0 rfl ti24 rfl rfl rfl rfl) (.cons (.tmp rfl) (.cons (.tmp rfl) .nil))) rfl rfl ⟨((.slice none 0 0)), rfl, rfl⟩
   replace hr := ineg h786 hr
   refine at_false rfl (decide_eq_false (by omega)) ?_
   refine s_sr (s_mv rfl ?_)
   replace hr := obind hr
   obtain ⟨x795, h796, hr⟩ := hr
   refine at_hv rfl (hv_call0 [1, 6] (f56_spec h796) rfl rfl rfl rfl ?_)
   rintro _ _ ⟨s797, rfl, rfl⟩
   refine at_open (A := Unit) 0 rfl (fun _ => True) (fun _ => [(Ty.str.fact x795.1.Tag [str x795.1.Tag]), ((Ty.slice ty67).fact x795.1.Subs [s797])]) (fun F w h => ⟨(), trivial, ex59 h⟩) (fun _ _ => ?_)
   refine s_mv rfl (at_lt (lt_extract rfl rfl) rfl (at_lt (lt_extract rfl rfl) rfl (at_hv rfl ?_)))
   refine hv_alloc (cs := [str ([] : Str), .int .u8 0, .int .u8 0, (.slice none 0 0)]) ti59 rfl rfl (fun b798 => ?_)
   refine at_one 1 rfl (fun ho799 => ?_)
   refine at_hv rfl (hv_store_box 0 (cs' := [str x795.1.Tag, .int .u8 (x795.1.Ind_0.toNat : Int), .int .u8 (x795.1.Ind_1.toNat : Int), s797]) rfl rfl ti59 rfl rfl rfl rfl (allc rfl (allc rfl (allc rfl (allc ho799 rfl)))) (s_as rfl (s_nt (at_seq (s_sr (s_mv rfl (at_lt (lt_not rfl) rfl (s_nt ?_))))))))
   by_cases h800 : x795.2 = true
   ·replace hr := ipos h800 hr
    refine at_false rfl (nt h800) (at_skip (s_tr (at_lt (lt_fieldAddr 1 rfl fld24_1 rfl) rfl (at_lt (lt_load_box 1 rfl ti22 rfl rfl rfl rfl rfl) rfl (at_lt (lt_load_box 0 rfl ti59 rfl rfl rfl rfl rfl) rfl (at_hv rfl ?_))))))
    refine hv_bslice (cs := [str x795.1.Tag, .int .u8 (x795.1.Ind_0.toNat : Int), .int .u8 (x795.1.Ind_1.toNat : Int), s797]) rfl und22 ti59 rfl rfl rfl rfl rfl (fun s801 => ?_)
    replace hr := imust hr
    obtain ⟨h802, hr⟩ := hr
    refine at_derive [0, 1] (ty59.fact (⟨x795.1.Tag, x795.1.Ind_0, x795.1.Ind_1, x795.1.Subs⟩ : D_api_Field) [str x795.1.Tag, .int .u8 (x795.1.Ind_0.toNat : Int), .int .u8 (x795.1.Ind_1.toNat : Int), s797]) rfl (fun F w h => mk59 (x := (⟨x795.1.Tag, x795.1.Ind_0, x795.1.Ind_1, x795.1.Subs⟩ : D_api_Field)) h) ?_
    refine at_rown 1 8 rfl rfl rfl (fun hn804 => ?_)
    refine at_hv rfl ?_
    refine hv_append 1 0 rfl rfl rfl rfl und22 ti59 rfl rfl (allc rfl (allc rfl (allc rfl (allc ho799 rfl)))) (by omega) (by omega) rfl (fun s803 => ?_)
    refine at_rowsnoc 8 0 rfl rfl (at_lt (lt_fieldAddr 1 rfl fld24_1 rfl) rfl ?_)
    refine at_rowv 1 rfl (fun ho805 => ?_)
    replace ho805 := row_one (by obtain ⟨a, c, h⟩ := ho805; exact ⟨a, _, c, h⟩)
    refine at_hv rfl (hv_store1 1 (cs' := [.int .i64 x760, s803]) rfl rfl ti22 rfl rfl rfl rfl ho805 (at_nil (s_tr (s_mv rfl (s_as rfl (at_nil (at_in (s_tr (s_mv rfl ?_)))))))))
    replace hr := imust hr
    obtain ⟨h806, hr⟩ := hr
    refine at_lt (lt_add rfl rfl (by simp only [lo, hi]; omega)) rfl (s_as rfl (at_nil (at_int .i64 (x759 + 1 : Int) (by simp only [lo, hi]; omega) ?_)))
    refine at_mkpure (q := ((x761 ++ [(⟨x795.1.Tag, x795.1.Ind_0, x795.1.Ind_1, x795.1.Subs⟩ : D_api_Field)]).length * ty59.bytes ≤ 140737488355328)) (by simp only [List.length_append, List.length_cons, List.length_nil, ty59_bytes] <;> omega) ?_
    exact at_again (σ := (Str × Nat × Int × (List D_api_Field))) (V := Value × Nat × (List Value)) (lp := fun n s => m15_l1 n s.1 s.2.1 s.2.2.1 s.2.2.2) (S := fun s e => (⟨[(0, str s.1), (2, .pointer (some (Addr.add ⟨b757, 0, none⟩ 0))), (3, .int .i64 (s.2.1 : Int))], [⟨b757, [.int .i64 s.2.2.1, e.1], 24⟩], [⟨e.1, 59, 4, e.2.1, e.2.2⟩], [(Ty.str.fact s.1 [str s.1]), ((Ty.int .i64).fact (s.2.1 : Int) [.int .i64 (s.2.1 : Int)]), ((Ty.int .i64).fact s.2.2.1 [.int .i64 s.2.2.1]), (ty59.row s.2.2.2 e.2.2), (pureF (s.2.2.2.length * ty59.bytes ≤ 140737488355328)), (tabsF Tryz.prog 4 5)]⟩ : St)) (x776.2.1, x759 + 1, x760, x761 ++ [(⟨x795.1.Tag, x795.1.Ind_0, x795.1.Ind_1, x795.1.Subs⟩ : D_api_Field)]) (s803, n763 + 1, i764 ++ [str x795.1.Tag, .int .u8 (x795.1.Ind_0.toNat : Int), .int .u8 (x795.1.Ind_1.toNat : Int), s797]) hr ⟨⟨rfl, ⟨rfl, ⟨rfl, trivial⟩⟩⟩, ⟨[false, true], rfl⟩, ⟨[false, true], rfl⟩, ⟨[9, 1, 10, 2, 0, 13], rfl⟩⟩
   replace hr := ineg h800 hr
   refine at_true rfl (nf (bf h800)) (s_sr (at_lt (lt_build (cs := [.int .i64 0, (.slice none 0 0)]) rfl ti24 pl24 rfl) rfl (s_mv rfl (at_hv rfl (hv_store_box 1 (cs' := [.int .i64 0, (.slice none 0 0)]) rfl rfl ti24 rfl rfl rfl rfl rfl (s_as rfl (s_as rfl (s_nt (at_ret ?_)))))))))
   have hq := oinj hr
   clear hr
   subst hq
   have hq := oinj hk774
   clear hk774
   subst hq
   refine at_then_ret (at_then_ret (at_in_ret (at_then_ret (at_then_ret (at_in_ret (at_then_ret (at_int .i64 0 (by simp only [lo, hi]; omega) (at_fnil ty59 none ?_))))))))
   refine at_derive [1, 0] (ty24.fact (⟨0, ([] : (List D_api_Field))⟩ : D_api_Record) [.int .i64 0, (.slice none 0 0)]) rfl (fun F w h => mk24 (x := (⟨0, ([] : (List D_api_Field))⟩ : D_api_Record)) h) ?_
   refine at_int .i64 7 (by simp only [lo, hi]; omega) ?_
   exact at_return (.tuple #[.agg #[.int .i64 0, (.slice none 0 0)], .int .i64 (x759 : Int), .int .i64 7]) [1, 7, 0] hS Tryz.results15 (.cons (.cell 1 rfl ti24 rfl rfl rfl rfl) (.cons (.tmp rfl) (.cons (.tmp rfl) .nil))) rfl rfl ⟨((.slice none 0 0)), rfl, rfl⟩
  replace hr := ineg h784 hr
  refine at_off rfl rfl (nf (bf h784)) rfl (at_off rfl rfl (nf (bf h784)) rfl (at_lt (lt_pick true rfl (nf (bf h784)) rfl) rfl (s_nt (at_true rfl rfl (s_sr (at_lt (lt_build (cs := [.int .i64 0, (.slice none 0 0)]) rfl ti24 pl24 rfl) rfl (s_mv rfl (at_hv rfl (hv_store_box 0 (cs' := [.int .i64 0, (.slice none 0 0)]) rfl rfl ti24 rfl rfl rfl rfl rfl ?_)))))))))
  refine s_as rfl (s_as rfl (s_nt (at_ret ?_)))
  have hq := oinj hr
  clear hr
  subst hq
  have hq := oinj hk774
  clear hk774
  subst hq
  refine at_then_ret (at_in_ret (at_then_ret (at_then_ret (at_in_ret (at_then_ret (at_int .i64 0 (by simp only [lo, hi]; omega) (at_fnil ty59 none ?_)))))))
  refine at_derive [1, 0] (ty24.fact (⟨0, ([] : (List D_api_Field))⟩ : D_api_Record) [.int .i64 0, (.slice none 0 0)]) rfl (fun F w h => mk24 (x := (⟨0, ([] : (List D_api_Field))⟩ : D_api_Record)) h) ?_
  refine at_int .i64 7 (by simp only [lo, hi]; omega) ?_
  exact at_return (.tuple #[.agg #[.int .i64 0, (.slice none 0 0)], .int .i64 (x759 : Int), .int .i64 7]) [1, 4, 0] hS Tryz.results15 (.cons (.cell 0 rfl ti24 rfl rfl rfl rfl) (.cons (.tmp rfl) (.cons (.tmp rfl) .nil))) rfl rfl ⟨((.slice none 0 0)), rfl, rfl⟩
 rintro ⟨⟨x765, x766, x767, x768⟩, ⟨v769, n770, i771⟩⟩ hp
 replace hr := hk774
 subst hp
 clear hl773
 change At _ _ (⟨[(2, .pointer (some (Addr.add ⟨b757, 0, none⟩ 0))), (3, .int .i64 (x765 : Int)), (4, .int .i64 x766)], [⟨b757, [.int .i64 x767, v769], 24⟩], [⟨v769, 59, 4, n770, i771⟩], [((Ty.int .i64).fact (x765 : Int) [.int .i64 (x765 : Int)]), ((Ty.int .i64).fact x766 [.int .i64 x766]), ((Ty.int .i64).fact x767 [.int .i64 x767]), (ty59.row x768 i771), (pureF (x768.length * ty59.bytes ≤ 140737488355328)), (tabsF Tryz.prog 4 5)]⟩ : St) _
 refine at_inv 1 rfl (fun l807 => ?_)
 replace l807 : (-9223372036854775808) ≤ x766 ∧ x766 ≤ 9223372036854775807 := l807
 refine at_inv 2 rfl (fun l808 => ?_)
 replace l808 : (-9223372036854775808) ≤ x767 ∧ x767 ≤ 9223372036854775807 := l808
 have hq := oinj hr
 clear hr
 subst hq
 refine at_pure 4 rfl (fun hb809 => ?_)
 refine at_release 0 3 rfl rfl rfl hb809 ?_
 refine at_derive [3, 0] (ty24.fact (⟨x767, x768⟩ : D_api_Record) [.int .i64 x767, v769]) rfl (fun F w h => mk24 (x := (⟨x767, x768⟩ : D_api_Record)) h) ?_
 exact at_return (.tuple #[.agg #[.int .i64 x767, v769], .int .i64 (x765 : Int), .int .i64 x766]) [0, 2, 3] hS Tryz.results15 (.cons (.cell 0 rfl ti24 rfl rfl rfl rfl) (.cons (.tmp rfl) (.cons (.tmp rfl) .nil))) rfl rfl ⟨v769, rfl, rfl⟩
def m92_l1 (a0 : (List D_api_Sub)) (a1 : (List D_api_Sub)) : Nat → Nat → Option (Fl Bool Unit)
  | 0, _ => none
  | k + 1, x818 =>
    if x818 < a0.length then
     (a0[x818]?).bind fun x823 =>
     (a1[x818]?).bind fun x827 =>
     if (decide (((x823.Code.toNat : Int) : Int) = (x827.Code.toNat : Int)) && decide (x823.Value = x827.Value)) = true then
      m92_l1 a0 a1 k (x818 + 1)
     else
      some (Fl.ret false)
    else
     some (Fl.go ())
def m92 (a0 : (List D_api_Sub)) (a1 : (List D_api_Sub)) : Option Bool :=
  if a0.length = a1.length then
   (m92_l1 a0 a1 (a0.length + 1) 0).bind fun r => match r with
   | .ret x => some x
   | .go _ =>
    some true
  else
   some false
def post92 (r : Bool) (v : Value) (fs : List Fact) : Prop := v = .bool r ∧ fs = []
theorem en92 : Enters Tryz.prog 92 := ⟨_, Tryz.func92, by kernel_rfl, rfl⟩
theorem f92_spec {a0 : (List D_api_Sub)} {a1 : (List D_api_Sub)} {w811 : Value} {w812 : Value} {r : Bool} (hr : m92 a0 a1 = some r) : Spec Tryz.prog 92 [w811, w812] [((Ty.slice ty67).fact a0 [w811]), ((Ty.slice ty67).fact a1 [w812])] (post92 r) := by
 refine spec_start (N := 26) Tryz.func92 (by kernel_rfl) rfl rfl rfl ?_
 intro g hS
 unfold m92 at hr
 refine s_sr (s_as rfl (s_nt (at_seq (s_sr (s_mv rfl ?_)))))
 refine at_inv 0 rfl (fun i813 => ?_)
 have l814 := slice_len i813
 refine at_lt (lt_flen 0 rfl rfl und57) rfl (s_mv rfl ?_)
 refine at_inv 1 rfl (fun i815 => ?_)
 have l816 := slice_len i815
 refine at_lt (lt_flen 1 rfl rfl und57) rfl (at_lt (lt_neq rfl rfl) rfl (s_nt ?_))
 by_cases h817 : a0.length = a1.length
 ·replace hr := ipos h817 hr
  refine at_false rfl (nt (decide_eq_true (by omega))) ?_
  refine at_skip (at_then (at_seq (s_sr (s_mv rfl (at_lt (lt_flen 0 rfl rfl und57) rfl (s_mv rfl (s_nt (at_int .i64 0 (by simp only [lo, hi]; omega) ?_))))))))
  replace hr := obind hr
  obtain ⟨r819, hl820, hk821⟩ := hr
  refine at_cutP (V := (Unit) × (Unit)) (fun v => r819 = Fl.go v.1) (fun v => (⟨[], [], [], []⟩ : St)) ?_ ?_
  ·refine at_block ?_
   refine at_loopW (σ := Nat) (V := Unit) (r := r819) (fun n s => m92_l1 a0 a1 n s) (fun s e => (⟨[(0, w811), (1, w812), (12, .int .i64 (a0.length : Int)), (13, .int .i64 (s : Int))], [], [], [((Ty.int .i64).fact (s : Int) [.int .i64 (s : Int)]), ((Ty.slice ty67).fact a0 [w811]), ((Ty.slice ty67).fact a1 [w812])]⟩ : St)) (fun _ => rfl) _ 0 () hl820 ⟨⟨rfl, ⟨rfl, ⟨rfl, ⟨rfl, trivial⟩⟩⟩⟩, ⟨[], rfl⟩, ⟨[], rfl⟩, ⟨[0, 1, 2], rfl⟩⟩ ?_
   clear hl820
   intro n x818 hr e
   skip
   skip
   change m92_l1 a0 a1 (n + 1) x818 = some r819 at hr
   change At _ _ (⟨[(0, w811), (1, w812), (12, .int .i64 (a0.length : Int)), (13, .int .i64 (x818 : Int))], [], [], [((Ty.int .i64).fact (x818 : Int) [.int .i64 (x818 : Int)]), ((Ty.slice ty67).fact a0 [w811]), ((Ty.slice ty67).fact a1 [w812])]⟩ : St) _
   rw [m92_l1] at hr
   refine s_sr (at_lt (lt_lss rfl rfl) rfl (s_nt (at_seq ?_)))
   by_cases h822 : x818 < a0.length
   ·replace hr := ipos h822 hr
    refine at_true rfl (decide_eq_true (by omega)) ?_
    refine at_skip (at_then (at_seq (at_block (s_sr (s_mv rfl (s_as rfl (s_nt (at_seq ?_))))))))
    replace hr := obind hr
    obtain ⟨x823, h824, hr⟩ := hr
    have := (List.getElem?_eq_some_iff.1 h824).1
    refine at_elem 1 rfl (nat_at' h824) (fun p825 ec pa826 => ?_)
    refine at_open (A := Unit) 0 rfl _ _ (fun F w h => op67 h) ?_
    rintro _ rfl
    replace hr := obind hr
    obtain ⟨x827, h828, hr⟩ := hr
    have := (List.getElem?_eq_some_iff.1 h828).1
    refine at_elem 5 rfl (nat_at' h828) (fun p829 ec pa830 => ?_)
    refine at_open (A := Unit) 0 rfl _ _ (fun F w h => op67 h) ?_
    rintro _ rfl
    refine aa_start 9 (by kernel_rfl) ?_
    refine aa_p 0 rfl (lt_move rfl) (aa_p 1 rfl (lt_move rfl) (aa_p 2 rfl (lt_idx rfl rfl pa826 und57 ti67) (aa_l 3 rfl (lt_load_peek 5 rfl ti67 rfl rfl rfl rfl rfl) (aa_p 4 rfl (lt_move rfl) (aa_p 5 rfl (lt_move rfl) (aa_p 6 rfl (lt_idx rfl rfl pa830 und57 ti67) (aa_l 7 rfl (lt_load_peek 2 rfl ti67 rfl rfl rfl rfl rfl) (aa_p 8 rfl (lt_stne rfl rfl eg67 eqt67) ?_))))))))
    refine aa_done (by kernel_rfl) (ts_in 0 0 rfl rfl) ?_
    refine at_then ?_
    by_cases h831 : (decide (((x823.Code.toNat : Int) : Int) = (x827.Code.toNat : Int)) && decide (x823.Value = x827.Value)) = true
    ·replace hr := ipos h831 hr
     refine at_false rfl (nt h831) (at_skip (at_in (s_tr (at_lt (lt_add rfl rfl (by simp only [lo, hi]; omega)) rfl (s_mv rfl (at_nil (at_int .i64 (x818 + 1 : Int) (by simp only [lo, hi]; omega) ?_)))))))
     exact at_again (σ := Nat) (V := Unit) (lp := fun n s => m92_l1 a0 a1 n s) (S := fun s e => (⟨[(0, w811), (1, w812), (12, .int .i64 (a0.length : Int)), (13, .int .i64 (s : Int))], [], [], [((Ty.int .i64).fact (s : Int) [.int .i64 (s : Int)]), ((Ty.slice ty67).fact a0 [w811]), ((Ty.slice ty67).fact a1 [w812])]⟩ : St)) (x818 + 1) () hr ⟨⟨rfl, ⟨rfl, ⟨rfl, ⟨rfl, trivial⟩⟩⟩⟩, ⟨[], rfl⟩, ⟨[], rfl⟩, ⟨[0, 8, 9], rfl⟩⟩
    replace hr := ineg h831 hr
    refine at_true rfl (nf (bf h831)) (s_sr (s_as rfl (s_nt (at_ret ?_))))
    have hq := oinj hr
    clear hr
    subst hq
    have hq := oinj hk821
    clear hk821
    subst hq
    refine at_in_ret (at_then_ret (at_then_ret (at_in_ret (at_then_ret (at_then_ret ?_)))))
    exact at_return (.bool false) [] hS Tryz.results92 (.cons (.tmp rfl) .nil) rfl rfl ⟨rfl, rfl⟩
   replace hr := ineg h822 hr
   refine at_false rfl (decide_eq_false (by omega)) ?_
   refine at_exit (at_then_exit (at_then_exit (at_in_exit ?_)))
   have hq := oinj hr
   clear hr
   subst hq
   exact at_leafP ((), ()) rfl ⟨trivial, ⟨[], rfl⟩, ⟨[], rfl⟩, ⟨[], rfl⟩⟩
  rintro ⟨_, _⟩ hp
  replace hr := hk821
  subst hp
  clear hl820
  change At _ _ (⟨[], [], [], []⟩ : St) _
  refine s_tsr (s_as rfl (s_nt (at_ret ?_)))
  have hq := oinj hr
  clear hr
  subst hq
  exact at_return (.bool true) [] hS Tryz.results92 (.cons (.tmp rfl) .nil) rfl rfl ⟨rfl, rfl⟩
 replace hr := ineg h817 hr
 refine at_true rfl (nf (decide_eq_false (by omega))) ?_
 refine s_sr (s_as rfl (s_nt (at_ret ?_)))
 have hq := oinj hr
 clear hr
 subst hq
 refine at_then_ret ?_
 exact at_return (.bool false) [] hS Tryz.results92 (.cons (.tmp rfl) .nil) rfl rfl ⟨rfl, rfl⟩
def m91 (a0 : D_api_Field) (a1 : D_api_Field) : Option Bool :=
  if a0.Tag = a1.Tag then
   if (decide (((a0.Ind_0.toNat : Int) : Int) = (a1.Ind_0.toNat : Int)) && decide (((a0.Ind_1.toNat : Int) : Int) = (a1.Ind_1.toNat : Int))) = true then
    (m92 a0.Subs a1.Subs).bind fun x838 =>
    some x838
   else
    some false
  else
   some false
def post91 (r : Bool) (v : Value) (fs : List Fact) : Prop := v = .bool r ∧ fs = []
theorem en91 : Enters Tryz.prog 91 := ⟨_, Tryz.func91, by kernel_rfl, rfl⟩
theorem f91_spec {a0 : D_api_Field} {a1 : D_api_Field} {s832 : Value} {s833 : Value} {r : Bool} (hr : m91 a0 a1 = some r) : Spec Tryz.prog 91 [.agg #[str a0.Tag, .int .u8 (a0.Ind_0.toNat : Int), .int .u8 (a0.Ind_1.toNat : Int), s832], .agg #[str a1.Tag, .int .u8 (a1.Ind_0.toNat : Int), .int .u8 (a1.Ind_1.toNat : Int), s833]] [(ty59.fact a0 [str a0.Tag, .int .u8 (a0.Ind_0.toNat : Int), .int .u8 (a0.Ind_1.toNat : Int), s832]), (ty59.fact a1 [str a1.Tag, .int .u8 (a1.Ind_0.toNat : Int), .int .u8 (a1.Ind_1.toNat : Int), s833])] (post91 r) := by
 refine spec_start (N := 24) Tryz.func91 (by kernel_rfl) rfl rfl rfl ?_
 intro g hS
 unfold m91 at hr
 refine at_open (A := Unit) 0 rfl (fun _ => True) (fun _ => [(Ty.str.fact a0.Tag [str a0.Tag]), ((Ty.slice ty67).fact a0.Subs [s832])]) (fun F w h => ⟨(), trivial, ex59 h⟩) (fun _ _ => ?_)
 refine at_open (A := Unit) 3 rfl (fun _ => True) (fun _ => [(Ty.str.fact a1.Tag [str a1.Tag]), ((Ty.slice ty67).fact a1.Subs [s833])]) (fun F w h => ⟨(), trivial, ex59 h⟩) (fun _ _ => ?_)
 refine s_sr (at_hv rfl ?_)
 refine hv_box (cs := [str a0.Tag, .int .u8 (a0.Ind_0.toNat : Int), .int .u8 (a0.Ind_1.toNat : Int), s832]) rfl rfl rfl (fun b834 => ?_)
 refine at_hv rfl ?_
 refine hv_box (cs := [str a1.Tag, .int .u8 (a1.Ind_0.toNat : Int), .int .u8 (a1.Ind_1.toNat : Int), s833]) rfl rfl rfl (fun b835 => ?_)
 refine s_as rfl (s_ntsr (at_lt (lt_fieldAddr 0 rfl fld59_0 rfl) rfl (at_lt (lt_load_box 1 rfl ti9 rfl rfl rfl rfl rfl) rfl (at_lt (lt_fieldAddr 0 rfl fld59_0 rfl) rfl (at_lt (lt_load_box 0 rfl ti9 rfl rfl rfl rfl rfl) rfl (at_lt (lt_seql rfl rfl) rfl (s_mv rfl ?_)))))))
 by_cases h836 : a0.Tag = a1.Tag
 ·replace hr := ipos h836 hr
  refine at_on rfl rfl (decide_eq_true h836) (at_lt (lt_fieldAddr 1 rfl fld59_1 rfl) rfl (at_on rfl rfl (decide_eq_true h836) (at_lt (lt_load_box 1 rfl ti56 rfl rfl rfl rfl rfl) rfl (at_on rfl rfl (decide_eq_true h836) (at_lt (lt_fieldAddr 1 rfl fld59_1 rfl) rfl (at_on rfl rfl (decide_eq_true h836) (at_lt (lt_load_box 0 rfl ti56 rfl rfl rfl rfl rfl) rfl (at_on rfl rfl (decide_eq_true h836) (at_lt (lt_steq rfl rfl eg56 eqt56) rfl ?_)))))))))
  refine at_lt (lt_pick true rfl (decide_eq_true h836) rfl) rfl (s_mv rfl ?_)
  by_cases h837 : (decide (((a0.Ind_0.toNat : Int) : Int) = (a1.Ind_0.toNat : Int)) && decide (((a0.Ind_1.toNat : Int) : Int) = (a1.Ind_1.toNat : Int))) = true
  ·replace hr := ipos h837 hr
   refine at_on rfl rfl h837 (at_lt (lt_fieldAddr 3 rfl fld59_2 rfl) rfl (at_on rfl rfl h837 (at_lt (lt_load_box 1 rfl ti57 rfl rfl rfl rfl rfl) rfl (at_on rfl rfl h837 (at_lt (lt_fieldAddr 3 rfl fld59_2 rfl) rfl (at_on rfl rfl h837 (at_lt (lt_load_box 0 rfl ti57 rfl rfl rfl rfl rfl) rfl ?_)))))))
   replace hr := obind hr
   obtain ⟨x838, h839, hr⟩ := hr
   refine at_on rfl rfl h837 (at_hv rfl (hv_call0 [3, 1] (f92_spec h839) rfl rfl rfl rfl ?_))
   rintro _ _ ⟨rfl, rfl⟩
   refine at_lt (lt_pick true rfl h837 rfl) rfl (s_as rfl (s_nt (at_ret ?_)))
   have hq := oinj hr
   clear hr
   subst hq
   exact at_return (.bool x838) [] hS Tryz.results91 (.cons (.tmp rfl) .nil) rfl rfl ⟨rfl, rfl⟩
  replace hr := ineg h837 hr
  refine at_off rfl rfl (bf h837) rfl (at_off rfl rfl (bf h837) rfl (at_off rfl rfl (bf h837) rfl (at_off rfl rfl (bf h837) rfl (at_off rfl rfl (bf h837) rfl (at_lt (lt_pick false rfl (bf h837) rfl) rfl (s_as rfl (s_nt (at_ret ?_))))))))
  have hq := oinj hr
  clear hr
  subst hq
  exact at_return (.bool false) [] hS Tryz.results91 (.cons (.tmp rfl) .nil) rfl rfl ⟨rfl, rfl⟩
 replace hr := ineg h836 hr
 refine at_off rfl rfl (decide_eq_false h836) rfl (at_off rfl rfl (decide_eq_false h836) rfl (at_off rfl rfl (decide_eq_false h836) rfl (at_off rfl rfl (decide_eq_false h836) rfl (at_off rfl rfl (decide_eq_false h836) rfl (at_lt (lt_pick false rfl (decide_eq_false h836) rfl) rfl (s_mv rfl (at_off rfl rfl rfl rfl (at_off rfl rfl rfl rfl (at_off rfl rfl rfl rfl ?_)))))))))
 refine at_off rfl rfl rfl rfl (at_off rfl rfl rfl rfl (at_lt (lt_pick false rfl rfl rfl) rfl (s_as rfl (s_nt (at_ret ?_)))))
 have hq := oinj hr
 clear hr
 subst hq
 exact at_return (.bool false) [] hS Tryz.results91 (.cons (.tmp rfl) .nil) rfl rfl ⟨rfl, rfl⟩
def m93_l1 (a0 : (List D_api_Field)) (a1 : (List D_api_Field)) (p2 : (D_api_Field → D_api_Field → Option Bool)) : Nat → Nat → Option (Fl Bool Unit)
  | 0, _ => none
  | k + 1, x848 =>
    if x848 < a0.length then
     (a0[x848]?).bind fun x853 =>
     (a1[x848]?).bind fun x860 =>
     (p2 (⟨x853.Tag, x853.Ind_0, x853.Ind_1, x853.Subs⟩ : D_api_Field) (⟨x860.Tag, x860.Ind_0, x860.Ind_1, x860.Subs⟩ : D_api_Field)).bind fun x867 =>
     if x867 = true then
      m93_l1 a0 a1 p2 k (x848 + 1)
     else
      some (Fl.ret false)
    else
     some (Fl.go ())
def m93 (a0 : (List D_api_Field)) (a1 : (List D_api_Field)) (p2 : (D_api_Field → D_api_Field → Option Bool)) : Option Bool :=
  if a0.length = a1.length then
   (m93_l1 a0 a1 p2 (a0.length + 1) 0).bind fun r => match r with
   | .ret x => some x
   | .go _ =>
    some true
  else
   some false
def post93 (r : Bool) (v : Value) (fs : List Fact) : Prop := v = .bool r ∧ fs = []
theorem en93 : Enters Tryz.prog 93 := ⟨_, Tryz.func93, by kernel_rfl, rfl⟩
theorem f93_spec {a0 : (List D_api_Field)} {a1 : (List D_api_Field)} {p2 : (D_api_Field → D_api_Field → Option Bool)} {w840 : Value} {w841 : Value} {w842 : Value} {r : Bool} (hr : m93 a0 a1 p2 = some r) : Spec Tryz.prog 93 [w840, w841, w842] [((Ty.slice ty59).fact a0 [w840]), ((Ty.slice ty59).fact a1 [w841]), (FnOk Tryz.prog w842 (sp69 p2))] (post93 r) := by
 refine spec_start (N := 32) Tryz.func93 (by kernel_rfl) rfl rfl rfl ?_
 intro g hS
 unfold m93 at hr
 refine s_sr (s_as rfl (s_nt (at_seq (s_sr (s_mv rfl ?_)))))
 refine at_inv 0 rfl (fun i843 => ?_)
 have l844 := slice_len i843
 refine at_lt (lt_flen 0 rfl rfl und22) rfl (s_mv rfl ?_)
 refine at_inv 1 rfl (fun i845 => ?_)
 have l846 := slice_len i845
 refine at_lt (lt_flen 1 rfl rfl und22) rfl (at_lt (lt_neq rfl rfl) rfl (s_nt ?_))
 by_cases h847 : a0.length = a1.length
 ·replace hr := ipos h847 hr
  refine at_false rfl (nt (decide_eq_true (by omega))) ?_
  refine at_skip (at_then (at_seq (s_sr (s_mv rfl (at_lt (lt_flen 0 rfl rfl und22) rfl (s_mv rfl (s_nt (at_int .i64 0 (by simp only [lo, hi]; omega) ?_))))))))
  replace hr := obind hr
  obtain ⟨r849, hl850, hk851⟩ := hr
  refine at_cutP (V := (Unit) × (Unit)) (fun v => r849 = Fl.go v.1) (fun v => (⟨[], [], [], []⟩ : St)) ?_ ?_
  ·refine at_block ?_
   refine at_loopW (σ := Nat) (V := Unit) (r := r849) (fun n s => m93_l1 a0 a1 p2 n s) (fun s e => (⟨[(1, w841), (2, w842), (15, w840), (16, .int .i64 (a0.length : Int)), (17, .int .i64 (s : Int))], [], [], [((Ty.int .i64).fact (s : Int) [.int .i64 (s : Int)]), ((Ty.slice ty59).fact a1 [w841]), (FnOk Tryz.prog w842 (sp69 p2)), ((Ty.slice ty59).fact a0 [w840])]⟩ : St)) (fun _ => rfl) _ 0 () hl850 ⟨⟨rfl, ⟨rfl, ⟨rfl, ⟨rfl, ⟨rfl, trivial⟩⟩⟩⟩⟩, ⟨[], rfl⟩, ⟨[], rfl⟩, ⟨[0, 2, 3, 1], rfl⟩⟩ ?_
   clear hl850
   intro n x848 hr e
   skip
   skip
   change m93_l1 a0 a1 p2 (n + 1) x848 = some r849 at hr
   change At _ _ (⟨[(1, w841), (2, w842), (15, w840), (16, .int .i64 (a0.length : Int)), (17, .int .i64 (x848 : Int))], [], [], [((Ty.int .i64).fact (x848 : Int) [.int .i64 (x848 : Int)]), ((Ty.slice ty59).fact a1 [w841]), (FnOk Tryz.prog w842 (sp69 p2)), ((Ty.slice ty59).fact a0 [w840])]⟩ : St) _
   rw [m93_l1] at hr
   refine s_sr (at_lt (lt_lss rfl rfl) rfl (s_nt (at_seq ?_)))
   by_cases h852 : x848 < a0.length
   ·replace hr := ipos h852 hr
    refine at_true rfl (decide_eq_true (by omega)) ?_
    refine at_skip (at_then (at_seq (at_block (s_sr (s_mv rfl ?_)))))
    replace hr := obind hr
    obtain ⟨x853, h854, hr⟩ := hr
    have := (List.getElem?_eq_some_iff.1 h854).1
    refine at_elem 3 rfl (nat_at' h854) (fun p856 ec pa857 => ?_)
    refine at_open (A := Value) 0 rfl _ _ (fun F w h => op59 h) ?_
    rintro s855 rfl
    refine at_lt (lt_idx rfl rfl pa857 und22 ti59) rfl (at_lt (lt_load_peek 3 rfl ti59 rfl rfl rfl rfl rfl) rfl (at_hv rfl ?_))
    refine hv_alloc (cs := [str ([] : Str), .int .u8 0, .int .u8 0, (.slice none 0 0)]) ti59 rfl rfl (fun b858 => ?_)
    refine s_as rfl ?_
    refine at_one 1 rfl (fun ho859 => ?_)
    refine at_hv rfl (hv_store_box 0 (cs' := [str x853.Tag, .int .u8 (x853.Ind_0.toNat : Int), .int .u8 (x853.Ind_1.toNat : Int), s855]) rfl rfl ti59 rfl rfl rfl rfl (allc rfl (allc rfl (allc rfl (allc ho859 rfl)))) (s_ntsr (s_mv rfl (s_mv rfl ?_))))
    replace hr := obind hr
    obtain ⟨x860, h861, hr⟩ := hr
    have := (List.getElem?_eq_some_iff.1 h861).1
    refine at_elem 5 rfl (nat_at' h861) (fun p863 ec pa864 => ?_)
    refine at_open (A := Value) 0 rfl _ _ (fun F w h => op59 h) ?_
    rintro s862 rfl
    refine at_lt (lt_idx rfl rfl pa864 und22 ti59) rfl (at_lt (lt_load_peek 3 rfl ti59 rfl rfl rfl rfl rfl) rfl (at_hv rfl ?_))
    refine hv_alloc (cs := [str ([] : Str), .int .u8 0, .int .u8 0, (.slice none 0 0)]) ti59 rfl rfl (fun b865 => ?_)
    refine at_one 1 rfl (fun ho866 => ?_)
    refine at_hv rfl (hv_store_box 0 (cs' := [str x860.Tag, .int .u8 (x860.Ind_0.toNat : Int), .int .u8 (x860.Ind_1.toNat : Int), s862]) rfl rfl ti59 rfl rfl rfl rfl (allc rfl (allc rfl (allc rfl (allc ho866 rfl)))) (s_ntsr (s_mv rfl (at_lt (lt_load_box 1 rfl ti59 rfl rfl rfl rfl rfl) rfl (at_lt (lt_load_box 0 rfl ti59 rfl rfl rfl rfl rfl) rfl ?_)))))
    replace hr := obind hr
    obtain ⟨x867, h868, hr⟩ := hr
    refine at_derive [4, 5] (ty59.fact (⟨x853.Tag, x853.Ind_0, x853.Ind_1, x853.Subs⟩ : D_api_Field) [str x853.Tag, .int .u8 (x853.Ind_0.toNat : Int), .int .u8 (x853.Ind_1.toNat : Int), s855]) rfl (fun F w h => mk59 (x := (⟨x853.Tag, x853.Ind_0, x853.Ind_1, x853.Subs⟩ : D_api_Field)) h) ?_
    refine at_derive [1, 2] (ty59.fact (⟨x860.Tag, x860.Ind_0, x860.Ind_1, x860.Subs⟩ : D_api_Field) [str x860.Tag, .int .u8 (x860.Ind_0.toNat : Int), .int .u8 (x860.Ind_1.toNat : Int), s862]) rfl (fun F w h => mk59 (x := (⟨x860.Tag, x860.Ind_0, x860.Ind_1, x860.Subs⟩ : D_api_Field)) h) ?_
    refine at_hv rfl ?_
    refine hv_callf 12 [1, 0] rfl rfl rfl ⟨(⟨x853.Tag, x853.Ind_0, x853.Ind_1, x853.Subs⟩ : D_api_Field), (⟨x860.Tag, x860.Ind_0, x860.Ind_1, x860.Subs⟩ : D_api_Field), x867, s855, s862, h868, rfl, rfl, rfl⟩ rfl rfl ?_
    rintro _ _ ⟨rfl, rfl⟩
    refine at_lt (lt_not rfl) rfl (s_nt ?_)
    by_cases h869 : x867 = true
    ·replace hr := ipos h869 hr
     refine at_false rfl (nt h869) (at_skip (at_in (s_tr (at_lt (lt_add rfl rfl (by simp only [lo, hi]; omega)) rfl (s_mv rfl (at_nil (at_int .i64 (x848 + 1 : Int) (by simp only [lo, hi]; omega) ?_)))))))
     exact at_again (σ := Nat) (V := Unit) (lp := fun n s => m93_l1 a0 a1 p2 n s) (S := fun s e => (⟨[(1, w841), (2, w842), (15, w840), (16, .int .i64 (a0.length : Int)), (17, .int .i64 (s : Int))], [], [], [((Ty.int .i64).fact (s : Int) [.int .i64 (s : Int)]), ((Ty.slice ty59).fact a1 [w841]), (FnOk Tryz.prog w842 (sp69 p2)), ((Ty.slice ty59).fact a0 [w840])]⟩ : St)) (x848 + 1) () hr ⟨⟨rfl, ⟨rfl, ⟨rfl, ⟨rfl, ⟨rfl, trivial⟩⟩⟩⟩⟩, ⟨[false, false], rfl⟩, ⟨[], rfl⟩, ⟨[0, 12, 13, 14], rfl⟩⟩
    replace hr := ineg h869 hr
    refine at_true rfl (nf (bf h869)) (s_sr (s_as rfl (s_nt (at_ret ?_))))
    have hq := oinj hr
    clear hr
    subst hq
    have hq := oinj hk851
    clear hk851
    subst hq
    refine at_in_ret (at_then_ret (at_then_ret (at_in_ret (at_then_ret (at_then_ret ?_)))))
    exact at_return (.bool false) [] hS Tryz.results93 (.cons (.tmp rfl) .nil) rfl rfl ⟨rfl, rfl⟩
   replace hr := ineg h852 hr
   refine at_false rfl (decide_eq_false (by omega)) ?_
   refine at_exit (at_then_exit (at_then_exit (at_in_exit ?_)))
   have hq := oinj hr
   clear hr
   subst hq
   exact at_leafP ((), ()) rfl ⟨trivial, ⟨[], rfl⟩, ⟨[], rfl⟩, ⟨[], rfl⟩⟩
  rintro ⟨_, _⟩ hp
  replace hr := hk851
  subst hp
  clear hl850
  change At _ _ (⟨[], [], [], []⟩ : St) _
  refine s_tsr (s_as rfl (s_nt (at_ret ?_)))
  have hq := oinj hr
  clear hr
  subst hq
  exact at_return (.bool true) [] hS Tryz.results93 (.cons (.tmp rfl) .nil) rfl rfl ⟨rfl, rfl⟩
 replace hr := ineg h847 hr
 refine at_true rfl (nf (decide_eq_false (by omega))) ?_
 refine s_sr (s_as rfl (s_nt (at_ret ?_)))
 have hq := oinj hr
 clear hr
 subst hq
 refine at_then_ret ?_
 exact at_return (.bool false) [] hS Tryz.results93 (.cons (.tmp rfl) .nil) rfl rfl ⟨rfl, rfl⟩
def m42 (a0 : D_api_Record) (a1 : D_api_Record) : Option Bool :=
  if a0.ID = a1.ID then
   (m93 a0.Fields a1.Fields m91).bind fun x877 =>
   some x877
  else
   some false
def post42 (r : Bool) (v : Value) (fs : List Fact) : Prop := v = .bool r ∧ fs = []
theorem en42 : Enters Tryz.prog 42 := ⟨_, Tryz.func42, by kernel_rfl, rfl⟩
theorem f42_spec {a0 : D_api_Record} {a1 : D_api_Record} {s870 : Value} {s871 : Value} {r : Bool} (hr : m42 a0 a1 = some r) : Spec Tryz.prog 42 [.agg #[.int .i64 a0.ID, s870], .agg #[.int .i64 a1.ID, s871]] [(ty24.fact a0 [.int .i64 a0.ID, s870]), (ty24.fact a1 [.int .i64 a1.ID, s871])] (post42 r) := by
 refine spec_start (N := 19) Tryz.func42 (by kernel_rfl) rfl rfl rfl ?_
 intro g hS
 unfold m42 at hr
 refine at_open (A := Unit) 0 rfl (fun _ => True) (fun _ => [((Ty.int .i64).fact a0.ID [.int .i64 a0.ID]), ((Ty.slice ty59).fact a0.Fields [s870])]) (fun F w h => ⟨(), trivial, ex24 h⟩) (fun _ _ => ?_)
 refine at_inv 0 rfl (fun l872 => ?_)
 replace l872 : (-9223372036854775808) ≤ a0.ID ∧ a0.ID ≤ 9223372036854775807 := l872
 refine at_open (A := Unit) 3 rfl (fun _ => True) (fun _ => [((Ty.int .i64).fact a1.ID [.int .i64 a1.ID]), ((Ty.slice ty59).fact a1.Fields [s871])]) (fun F w h => ⟨(), trivial, ex24 h⟩) (fun _ _ => ?_)
 refine at_inv 0 rfl (fun l873 => ?_)
 replace l873 : (-9223372036854775808) ≤ a1.ID ∧ a1.ID ≤ 9223372036854775807 := l873
 refine s_sr (at_hv rfl ?_)
 refine hv_box (cs := [.int .i64 a0.ID, s870]) rfl rfl rfl (fun b874 => ?_)
 refine at_hv rfl ?_
 refine hv_box (cs := [.int .i64 a1.ID, s871]) rfl rfl rfl (fun b875 => ?_)
 refine s_as rfl (s_ntsr (s_as rfl (s_ntsr (at_lt (lt_fieldAddr 0 rfl fld24_0 rfl) rfl (at_lt (lt_load_box 1 rfl ti3 rfl rfl rfl rfl rfl) rfl (at_lt (lt_fieldAddr 0 rfl fld24_0 rfl) rfl (at_lt (lt_load_box 0 rfl ti3 rfl rfl rfl rfl rfl) rfl (at_lt (lt_eql rfl rfl) rfl (s_mv rfl ?_)))))))))
 by_cases h876 : a0.ID = a1.ID
 ·replace hr := ipos h876 hr
  refine at_on rfl rfl (decide_eq_true (by first | exact h876 | omega)) ?_
  refine at_lt (lt_fieldAddr 1 rfl fld24_1 rfl) rfl ?_
  refine at_on rfl rfl (decide_eq_true (by first | exact h876 | omega)) ?_
  refine at_lt (lt_load_box 1 rfl ti22 rfl rfl rfl rfl rfl) rfl ?_
  refine at_on rfl rfl (decide_eq_true (by first | exact h876 | omega)) ?_
  refine at_lt (lt_fieldAddr 1 rfl fld24_1 rfl) rfl ?_
  refine at_on rfl rfl (decide_eq_true (by first | exact h876 | omega)) ?_
  refine at_lt (lt_load_box 0 rfl ti22 rfl rfl rfl rfl rfl) rfl ?_
  refine at_on rfl rfl (decide_eq_true (by first | exact h876 | omega)) ?_
  refine s_mv rfl ?_
  replace hr := obind hr
  obtain ⟨x877, h878, hr⟩ := hr
  refine at_fn 91 [] [] (sp69 m91) en91 rfl (by rintro _ _ _ ⟨a0, a1, r, s879, s880, h, rfl, rfl, rfl⟩; exact f91_spec h) ?_
  refine at_on rfl rfl (decide_eq_true (by first | exact h876 | omega)) ?_
  refine at_hv rfl (hv_call0 [4, 2, 0] (f93_spec h878) rfl rfl rfl rfl ?_)
  rintro _ _ ⟨rfl, rfl⟩
  refine at_lt (lt_pick true rfl (decide_eq_true (by first | exact h876 | omega)) rfl) rfl ?_
  refine s_as rfl (s_nt (at_ret ?_))
  have hq := oinj hr
  clear hr
  subst hq
  exact at_return (.bool x877) [] hS Tryz.results42 (.cons (.tmp rfl) .nil) rfl rfl ⟨rfl, rfl⟩
 replace hr := ineg h876 hr
 refine at_off rfl rfl (decide_eq_false (by first | exact h876 | omega)) rfl ?_
 refine at_off rfl rfl (decide_eq_false (by first | exact h876 | omega)) rfl ?_
 refine at_off rfl rfl (decide_eq_false (by first | exact h876 | omega)) rfl ?_
 refine at_off rfl rfl (decide_eq_false (by first | exact h876 | omega)) rfl ?_
 refine at_off rfl rfl (decide_eq_false (by first | exact h876 | omega)) rfl ?_
 refine at_off rfl rfl (decide_eq_false (by first | exact h876 | omega)) rfl ?_
 refine at_lt (lt_pick false rfl (decide_eq_false (by first | exact h876 | omega)) rfl) rfl ?_
 refine s_as rfl (s_nt (at_ret ?_))
 have hq := oinj hr
 clear hr
 subst hq
 exact at_return (.bool false) [] hS Tryz.results42 (.cons (.tmp rfl) .nil) rfl rfl ⟨rfl, rfl⟩
def m48  : Option D_api_Record :=
  some (⟨7, [(⟨([50, 52, 53] : Str), 48, 32, [(⟨97, ([80, 114, 105, 99, 101, 32, 105, 110, 32, 36] : Str)⟩ : D_api_Sub), (⟨99, ([120] : Str)⟩ : D_api_Sub)]⟩ : D_api_Field)]⟩ : D_api_Record)
def post48 (r : D_api_Record) (v : Value) (fs : List Fact) : Prop := ∃ s886 : Value, v = .agg #[.int .i64 r.ID, s886] ∧ fs = [(ty24.fact r [.int .i64 r.ID, s886])]
theorem en48 : Enters Tryz.prog 48 := ⟨_, Tryz.func48, by kernel_rfl, rfl⟩
theorem f48_spec {r : D_api_Record} (hr : m48  = some r) : Spec Tryz.prog 48 [] [] (post48 r) := by
 refine spec_start (N := 8) Tryz.func48 (by kernel_rfl) rfl rfl rfl ?_
 intro g hS
 unfold m48 at hr
 refine s_sr (at_hv rfl ?_)
 refine hv_alloc (cs := [.int .i64 0, (.slice none 0 0)]) ti24 rfl rfl (fun b881 => ?_)
 refine s_ntsr (at_lt (lt_abuild (cs := [.int .u8 48, .int .u8 32]) rfl ti56 und56 ti5 rfl) rfl (at_lt (lt_build (cs := [.int .u8 97, str ([80, 114, 105, 99, 101, 32, 105, 110, 32, 36] : Str)]) rfl ti67 pl67 rfl) rfl (at_lt (lt_build (cs := [.int .u8 99, str ([120] : Str)]) rfl ti67 pl67 rfl) rfl (at_hv rfl ?_))))
 refine hv_bslice (cs := [.int .u8 97, str ([80, 114, 105, 99, 101, 32, 105, 110, 32, 36] : Str), .int .u8 99, str ([120] : Str)]) rfl und57 ti67 rfl rfl rfl rfl rfl (fun s882 => ?_)
 refine at_rowv 0 rfl (fun ho883 => ?_)
 replace ho883 := row_one (by obtain ⟨a, c, h⟩ := ho883; exact ⟨a, _, c, h⟩)
 refine at_lt (lt_buildc (cs := [str ([50, 52, 53] : Str), .int .u8 48, .int .u8 32, s882]) [(0, [str ([50, 52, 53] : Str)]), (1, [.int .u8 48, .int .u8 32]), (2, [s882])] rfl ti59 pl59 ⟨rfl, rfl, ⟨rfl, rfl, ⟨rfl, cells_one ho883, trivial⟩⟩⟩ rfl) rfl ?_
 refine at_hv rfl ?_
 refine hv_bslice (cs := [str ([50, 52, 53] : Str), .int .u8 48, .int .u8 32, s882]) rfl und22 ti59 rfl rfl rfl rfl rfl (fun s884 => ?_)
 refine at_rowv 0 rfl (fun ho885 => ?_)
 replace ho885 := row_one (by obtain ⟨a, c, h⟩ := ho885; exact ⟨a, _, c, h⟩)
 refine at_lt (lt_buildc (cs := [.int .i64 7, s884]) [(0, [.int .i64 7]), (1, [s884])] rfl ti24 pl24 ⟨rfl, rfl, ⟨rfl, cells_one ho885, trivial⟩⟩ rfl) rfl ?_
 refine at_hv rfl (hv_store_box 0 (cs' := [.int .i64 7, s884]) rfl rfl ti24 rfl rfl rfl rfl (allc rfl (allc ho885 rfl)) (s_nt (at_ret ?_)))
 have hq := oinj hr
 clear hr
 subst hq
 refine at_int .i64 7 (by simp only [lo, hi]; omega) (at_rownil ty59 ?_)
 refine at_str ([50, 52, 53] : Str) (by decide) ?_
 refine at_rownil ty67 ?_
 refine at_str ([80, 114, 105, 99, 101, 32, 105, 110, 32, 36] : Str) (by decide) ?_
 refine at_derive [0] (ty67.fact (⟨97, ([80, 114, 105, 99, 101, 32, 105, 110, 32, 36] : Str)⟩ : D_api_Sub) [.int .u8 97, str ([80, 114, 105, 99, 101, 32, 105, 110, 32, 36] : Str)]) rfl (fun F w h => mk67 (x := (⟨97, ([80, 114, 105, 99, 101, 32, 105, 110, 32, 36] : Str)⟩ : D_api_Sub)) h) ?_
 refine at_rowsnoc 2 0 rfl rfl ?_
 refine at_str ([120] : Str) (by decide) ?_
 refine at_derive [0] (ty67.fact (⟨99, ([120] : Str)⟩ : D_api_Sub) [.int .u8 99, str ([120] : Str)]) rfl (fun F w h => mk67 (x := (⟨99, ([120] : Str)⟩ : D_api_Sub)) h) ?_
 refine at_rowsnoc 2 0 rfl rfl ?_
 refine at_release 1 0 rfl rfl rfl (by simp only [List.nil_append, List.cons_append, List.length_cons, List.length_nil, ty67_bytes] <;> omega) ?_
 refine at_derive [8, 0] (ty59.fact (⟨([50, 52, 53] : Str), 48, 32, [(⟨97, ([80, 114, 105, 99, 101, 32, 105, 110, 32, 36] : Str)⟩ : D_api_Sub), (⟨99, ([120] : Str)⟩ : D_api_Sub)]⟩ : D_api_Field) [str ([50, 52, 53] : Str), .int .u8 48, .int .u8 32, s882]) rfl (fun F w h => mk59 (x := (⟨([50, 52, 53] : Str), 48, 32, [(⟨97, ([80, 114, 105, 99, 101, 32, 105, 110, 32, 36] : Str)⟩ : D_api_Sub), (⟨99, ([120] : Str)⟩ : D_api_Sub)]⟩ : D_api_Field)) h) ?_
 refine at_rowsnoc 10 0 rfl rfl ?_
 refine at_release 0 0 rfl rfl rfl (by simp only [List.nil_append, List.cons_append, List.length_cons, List.length_nil, ty59_bytes] <;> omega) ?_
 refine at_derive [13, 0] (ty24.fact (⟨7, [(⟨([50, 52, 53] : Str), 48, 32, [(⟨97, ([80, 114, 105, 99, 101, 32, 105, 110, 32, 36] : Str)⟩ : D_api_Sub), (⟨99, ([120] : Str)⟩ : D_api_Sub)]⟩ : D_api_Field)]⟩ : D_api_Record) [.int .i64 7, s884]) rfl (fun F w h => mk24 (x := (⟨7, [(⟨([50, 52, 53] : Str), 48, 32, [(⟨97, ([80, 114, 105, 99, 101, 32, 105, 110, 32, 36] : Str)⟩ : D_api_Sub), (⟨99, ([120] : Str)⟩ : D_api_Sub)]⟩ : D_api_Field)]⟩ : D_api_Record)) h) ?_
 exact at_return (.agg #[.int .i64 7, s884]) [0] hS Tryz.results48 (.cons (.cell 0 rfl ti24 rfl rfl rfl rfl) .nil) rfl rfl ⟨s884, rfl, rfl⟩
def m11  : Option Bool :=
  (m48).bind fun x887 =>
  (m13 x887).bind fun x891 =>
  (m15 x891.1).bind fun x894 =>
  (m19 (⟨x894.1.ID, x894.1.Fields⟩ : D_api_Record) ([50, 52, 53] : Str) 99).bind fun x902 =>
  if x891.2 = 0 then
   if x891.1 = ([114, 101, 99, 111, 114, 100, 32, 55, 10, 50, 52, 53, 32, 48, 95, 32, 36, 97, 32, 80, 114, 105, 99, 101, 32, 105, 110, 32, 92, 36, 32, 36, 99, 32, 120, 10] : Str) then
    if x894.2.2 = 0 then
     if x894.2.1 = 0 then
      (m48).bind fun x908 =>
      (m42 (⟨x894.1.ID, x894.1.Fields⟩ : D_api_Record) x908).bind fun x912 =>
      if x912 = true then
       (m37 (⟨x894.1.ID, x894.1.Fields⟩ : D_api_Record)).bind fun x915 =>
       if x915 = true then
        if x902.2 = true then
         some (decide (x902.1 = ([120] : Str)))
        else
         some false
       else
        some false
      else
       some false
     else
      some false
    else
     some false
   else
    some false
  else
   some false
def post11 (r : Bool) (v : Value) (fs : List Fact) : Prop := v = .bool r ∧ fs = []
theorem en11 : Enters Tryz.prog 11 := ⟨_, Tryz.func11, by kernel_rfl, rfl⟩
theorem f11_spec {r : Bool} (hr : m11  = some r) : Spec Tryz.prog 11 [] [(tabsF Tryz.prog 4 5)] (post11 r) := by
 refine spec_start (N := 54) Tryz.func11 (by kernel_rfl) rfl rfl rfl ?_
 intro g hS
 unfold m11 at hr
 refine s_sr (s_as rfl (s_ntsr ?_))
 replace hr := obind hr
 obtain ⟨x887, h888, hr⟩ := hr
 refine at_hv rfl (hv_call0 [] (f48_spec h888) rfl rfl rfl rfl ?_)
 rintro _ _ ⟨s889, rfl, rfl⟩
 refine at_open (A := Unit) 0 rfl (fun _ => True) (fun _ => [((Ty.int .i64).fact x887.ID [.int .i64 x887.ID]), ((Ty.slice ty59).fact x887.Fields [s889])]) (fun F w h => ⟨(), trivial, ex24 h⟩) (fun _ _ => ?_)
 refine at_inv 0 rfl (fun l890 => ?_)
 replace l890 : (-9223372036854775808) ≤ x887.ID ∧ x887.ID ≤ 9223372036854775807 := l890
 replace hr := obind hr
 obtain ⟨x891, h892, hr⟩ := hr
 refine at_hv rfl (hv_call0 [2, 3] (f13_spec h892) rfl rfl rfl rfl ?_)
 rintro _ _ ⟨rfl, rfl⟩
 refine at_inv 1 rfl (fun l893 => ?_)
 replace l893 : (-9223372036854775808) ≤ x891.2 ∧ x891.2 ≤ 9223372036854775807 := l893
 refine s_mv rfl (at_lt (lt_extract rfl rfl) rfl (at_lt (lt_extract rfl rfl) rfl (s_as rfl (s_as rfl (s_ntsr (s_mv rfl ?_))))))
 replace hr := obind hr
 obtain ⟨x894, h895, hr⟩ := hr
 refine at_hv rfl (hv_call0 [0, 5] (f15_spec h895) rfl rfl rfl rfl ?_)
 rintro _ _ ⟨s896, rfl, rfl⟩
 refine at_open (A := Unit) 0 rfl (fun _ => True) (fun _ => [((Ty.int .i64).fact x894.1.ID [.int .i64 x894.1.ID]), ((Ty.slice ty59).fact x894.1.Fields [s896])]) (fun F w h => ⟨(), trivial, ex24 h⟩) (fun _ _ => ?_)
 refine at_inv 0 rfl (fun l897 => ?_)
 replace l897 : (-9223372036854775808) ≤ x894.1.ID ∧ x894.1.ID ≤ 9223372036854775807 := l897
 refine at_inv 3 rfl (fun l898 => ?_)
 replace l898 : (-9223372036854775808) ≤ x894.2.1 ∧ x894.2.1 ≤ 9223372036854775807 := l898
 refine at_inv 4 rfl (fun l899 => ?_)
 replace l899 : (-9223372036854775808) ≤ x894.2.2 ∧ x894.2.2 ≤ 9223372036854775807 := l899
 refine s_mv rfl (at_lt (lt_extract rfl rfl) rfl (at_lt (lt_extract rfl rfl) rfl (at_lt (lt_extract rfl rfl) rfl (at_hv rfl ?_))))
 refine hv_alloc (cs := [.int .i64 0, (.slice none 0 0)]) ti24 rfl rfl (fun b900 => ?_)
 refine at_one 1 rfl (fun ho901 => ?_)
 refine at_hv rfl (hv_store_box 0 (cs' := [.int .i64 x894.1.ID, s896]) rfl rfl ti24 rfl rfl rfl rfl (allc rfl (allc ho901 rfl)) (s_as rfl (s_as rfl (s_ntsr (at_lt (lt_load_box 0 rfl ti24 rfl rfl rfl rfl rfl) rfl ?_)))))
 replace hr := obind hr
 obtain ⟨x902, h903, hr⟩ := hr
 refine at_derive [0, 1] (ty24.fact (⟨x894.1.ID, x894.1.Fields⟩ : D_api_Record) [.int .i64 x894.1.ID, s896]) rfl (fun F w h => mk24 (x := (⟨x894.1.ID, x894.1.Fields⟩ : D_api_Record)) h) ?_
 refine at_str ([50, 52, 53] : Str) (by decide) ?_
 refine at_hv rfl (hv_call0 [1, 0] (f19_spec h903) rfl rfl rfl rfl ?_)
 rintro _ _ ⟨rfl, rfl⟩
 refine s_mv rfl (at_lt (lt_extract rfl rfl) rfl (at_lt (lt_extract rfl rfl) rfl (s_as rfl (s_as rfl (s_nt (at_seq ?_))))))
 by_cases h904 : x891.2 = 0
 ·replace hr := ipos h904 hr
  by_cases h905 : x891.1 = ([114, 101, 99, 111, 114, 100, 32, 55, 10, 50, 52, 53, 32, 48, 95, 32, 36, 97, 32, 80, 114, 105, 99, 101, 32, 105, 110, 32, 92, 36, 32, 36, 99, 32, 120, 10] : Str)
  ·replace hr := ipos h905 hr
   by_cases h906 : x894.2.2 = 0
   ·replace hr := ipos h906 hr
    by_cases h907 : x894.2.1 = 0
    ·replace hr := ipos h907 hr
     replace hr := obind hr
     obtain ⟨x908, h909, hr⟩ := hr
     replace hr := obind hr
     obtain ⟨x912, h913, hr⟩ := hr
     by_cases h914 : x912 = true
     ·replace hr := ipos h914 hr
      replace hr := obind hr
      obtain ⟨x915, h916, hr⟩ := hr
      by_cases h917 : x915 = true
      ·replace hr := ipos h917 hr
       by_cases h918 : x902.2 = true
       ·replace hr := ipos h918 hr
        refine aa_start 31 (by kernel_rfl) ?_
        refine aa_p 0 rfl (lt_move rfl) (aa_p 1 rfl (lt_eql rfl rfl) (aa_p 2 rfl (lt_move rfl) ?_))
        refine aa_pg 3 rfl ⟨26, rfl, .inl ⟨_, rfl, gdq (v := true) (decide_eq_true (by first | exact h904 | omega)) rfl⟩⟩ (lt_move rfl) ?_
        refine aa_pg 4 rfl ⟨26, rfl, .inl ⟨_, rfl, gdq (v := true) (decide_eq_true (by first | exact h904 | omega)) rfl⟩⟩ (lt_seql rfl rfl) ?_
        refine aa_p 5 rfl (lt_pick true rfl (decide_eq_true (by first | exact h904 | omega)) rfl) ?_
        refine aa_p 6 rfl (lt_move rfl) ?_
        refine aa_pg 7 rfl ⟨30, rfl, .inl ⟨_, rfl, gdq (v := true) (decide_eq_true h905) rfl⟩⟩ (lt_move rfl) ?_
        refine aa_pg 8 rfl ⟨30, rfl, .inl ⟨_, rfl, gdq (v := true) (decide_eq_true h905) rfl⟩⟩ (lt_eql rfl rfl) ?_
        refine aa_p 9 rfl (lt_pick true rfl (decide_eq_true h905) rfl) (aa_p 10 rfl (lt_move rfl) ?_)
        refine aa_pg 11 rfl ⟨34, rfl, .inl ⟨_, rfl, gdq (v := true) (decide_eq_true (by first | exact h906 | omega)) rfl⟩⟩ (lt_move rfl) ?_
        refine aa_pg 12 rfl ⟨34, rfl, .inl ⟨_, rfl, gdq (v := true) (decide_eq_true (by first | exact h906 | omega)) rfl⟩⟩ (lt_eql rfl rfl) ?_
        refine aa_p 13 rfl (lt_pick true rfl (decide_eq_true (by first | exact h906 | omega)) rfl) ?_
        refine aa_p 14 rfl (lt_move rfl) ?_
        refine aa_lg 15 rfl ⟨38, rfl, .inl ⟨_, rfl, gdq (v := true) (decide_eq_true (by first | exact h907 | omega)) rfl⟩⟩ (lt_load_box 0 rfl ti24 rfl rfl rfl rfl rfl) ?_
        refine aa_one 16 ?_
        refine aa_op rfl ⟨38, rfl, .inl ⟨_, rfl, gdq (v := true) (decide_eq_true (by first | exact h907 | omega)) rfl⟩⟩ ?_
        refine hv_call0 [] (f48_spec h909) rfl rfl rfl rfl ?_
        rintro _ _ ⟨s910, rfl, rfl⟩
        refine at_open (A := Unit) 0 rfl (fun _ => True) (fun _ => [((Ty.int .i64).fact x908.ID [.int .i64 x908.ID]), ((Ty.slice ty59).fact x908.Fields [s910])]) (fun F w h => ⟨(), trivial, ex24 h⟩) (fun _ _ => ?_)
        refine at_inv 0 rfl (fun l919 => ?_)
        replace l919 : (-9223372036854775808) ≤ x908.ID ∧ x908.ID ≤ 9223372036854775807 := l919
        refine aa_all (rs := [17]) (by kernel_rfl) rfl (ts_in 0 3 rfl rfl) (List.forall_mem_singleton.2 ?_)
        refine aa_op rfl ⟨38, rfl, .inl ⟨_, rfl, gdq (v := true) (decide_eq_true (by first | exact h907 | omega)) rfl⟩⟩ ?_
        refine hv_call0 [5, 2] (f42_spec h913) rfl rfl rfl rfl ?_
        rintro _ _ ⟨rfl, rfl⟩
        refine aa_pure 18 rfl (by kernel_rfl) rfl rfl (lt_pick true rfl (decide_eq_true (by first | exact h907 | omega)) rfl) rfl (ts_in 0 3 rfl rfl) ?_
        refine aa_pure 19 rfl (by kernel_rfl) rfl rfl (lt_move rfl) rfl (ts_in 0 3 rfl rfl) ?_
        refine aa_load 20 rfl (by kernel_rfl) rfl ⟨43, rfl, .inl ⟨_, rfl, gdq (v := true) h914 rfl⟩⟩ (lt_load_box 0 rfl ti24 rfl rfl rfl rfl rfl) rfl (ts_in 0 3 rfl rfl) ?_
        refine aa_all (rs := [21]) (by kernel_rfl) rfl (ts_in 0 3 rfl rfl) (List.forall_mem_singleton.2 ?_)
        refine aa_op rfl ⟨43, rfl, .inl ⟨_, rfl, gdq (v := true) h914 rfl⟩⟩ ?_
        refine hv_call0 [5, 16] (f37_spec h916) rfl rfl rfl rfl ?_
        rintro _ _ ⟨rfl, rfl⟩
        refine aa_pure 22 rfl (by kernel_rfl) rfl rfl (lt_pick true rfl h914 rfl) rfl (ts_in 0 3 rfl rfl) ?_
        refine aa_pure 23 rfl (by kernel_rfl) rfl rfl (lt_move rfl) rfl (ts_in 0 3 rfl rfl) ?_
        refine aa_pure 24 rfl (by kernel_rfl) rfl ⟨47, rfl, .inl ⟨_, rfl, gdq (v := true) h917 rfl⟩⟩ (lt_move rfl) rfl (ts_in 0 3 rfl rfl) ?_
        refine aa_pure 25 rfl (by kernel_rfl) rfl rfl (lt_pick true rfl h917 rfl) rfl (ts_in 0 3 rfl rfl) ?_
        refine aa_pure 26 rfl (by kernel_rfl) rfl rfl (lt_move rfl) rfl (ts_in 0 3 rfl rfl) ?_
        refine aa_pure 27 rfl (by kernel_rfl) rfl ⟨50, rfl, .inl ⟨_, rfl, gdq (v := true) h918 rfl⟩⟩ (lt_move rfl) rfl (ts_in 0 3 rfl rfl) ?_
        refine aa_pure 28 rfl (by kernel_rfl) rfl ⟨50, rfl, .inl ⟨_, rfl, gdq (v := true) h918 rfl⟩⟩ (lt_seql rfl rfl) rfl (ts_in 0 3 rfl rfl) ?_
        refine aa_pure 29 rfl (by kernel_rfl) rfl rfl (lt_pick true rfl h918 rfl) rfl (ts_in 0 3 rfl rfl) ?_
        refine aa_pure 30 rfl (by kernel_rfl) rfl rfl (lt_assign rfl) rfl (ts_in 0 3 rfl rfl) ?_
        refine aa_done (by kernel_rfl) (ts_in 0 3 rfl rfl) ?_
        refine at_then (at_ret ?_)
        have hq := oinj hr
        clear hr
        subst hq
        exact at_return (.bool (decide (x902.1 = ([120] : Str)))) [] hS Tryz.results11 (.cons (.tmp rfl) .nil) rfl rfl ⟨rfl, rfl⟩
       replace hr := ineg h918 hr
       refine aa_start 31 (by kernel_rfl) ?_
       refine aa_p 0 rfl (lt_move rfl) (aa_p 1 rfl (lt_eql rfl rfl) (aa_p 2 rfl (lt_move rfl) ?_))
       refine aa_pg 3 rfl ⟨26, rfl, .inl ⟨_, rfl, gdq (v := true) (decide_eq_true (by first | exact h904 | omega)) rfl⟩⟩ (lt_move rfl) ?_
       refine aa_pg 4 rfl ⟨26, rfl, .inl ⟨_, rfl, gdq (v := true) (decide_eq_true (by first | exact h904 | omega)) rfl⟩⟩ (lt_seql rfl rfl) ?_
       refine aa_p 5 rfl (lt_pick true rfl (decide_eq_true (by first | exact h904 | omega)) rfl) ?_
       refine aa_p 6 rfl (lt_move rfl) ?_
       refine aa_pg 7 rfl ⟨30, rfl, .inl ⟨_, rfl, gdq (v := true) (decide_eq_true h905) rfl⟩⟩ (lt_move rfl) ?_
       refine aa_pg 8 rfl ⟨30, rfl, .inl ⟨_, rfl, gdq (v := true) (decide_eq_true h905) rfl⟩⟩ (lt_eql rfl rfl) ?_
       refine aa_p 9 rfl (lt_pick true rfl (decide_eq_true h905) rfl) (aa_p 10 rfl (lt_move rfl) ?_)
       refine aa_pg 11 rfl ⟨34, rfl, .inl ⟨_, rfl, gdq (v := true) (decide_eq_true (by first | exact h906 | omega)) rfl⟩⟩ (lt_move rfl) ?_
       refine aa_pg 12 rfl ⟨34, rfl, .inl ⟨_, rfl, gdq (v := true) (decide_eq_true (by first | exact h906 | omega)) rfl⟩⟩ (lt_eql rfl rfl) ?_
       refine aa_p 13 rfl (lt_pick true rfl (decide_eq_true (by first | exact h906 | omega)) rfl) ?_
       refine aa_p 14 rfl (lt_move rfl) ?_
       refine aa_lg 15 rfl ⟨38, rfl, .inl ⟨_, rfl, gdq (v := true) (decide_eq_true (by first | exact h907 | omega)) rfl⟩⟩ (lt_load_box 0 rfl ti24 rfl rfl rfl rfl rfl) ?_
       refine aa_one 16 ?_
       refine aa_op rfl ⟨38, rfl, .inl ⟨_, rfl, gdq (v := true) (decide_eq_true (by first | exact h907 | omega)) rfl⟩⟩ ?_
       refine hv_call0 [] (f48_spec h909) rfl rfl rfl rfl ?_
       rintro _ _ ⟨s910, rfl, rfl⟩
       refine at_open (A := Unit) 0 rfl (fun _ => True) (fun _ => [((Ty.int .i64).fact x908.ID [.int .i64 x908.ID]), ((Ty.slice ty59).fact x908.Fields [s910])]) (fun F w h => ⟨(), trivial, ex24 h⟩) (fun _ _ => ?_)
       refine at_inv 0 rfl (fun l920 => ?_)
       replace l920 : (-9223372036854775808) ≤ x908.ID ∧ x908.ID ≤ 9223372036854775807 := l920
       refine aa_all (rs := [17]) (by kernel_rfl) rfl (ts_in 0 3 rfl rfl) (List.forall_mem_singleton.2 ?_)
       refine aa_op rfl ⟨38, rfl, .inl ⟨_, rfl, gdq (v := true) (decide_eq_true (by first | exact h907 | omega)) rfl⟩⟩ ?_
       refine hv_call0 [5, 2] (f42_spec h913) rfl rfl rfl rfl ?_
       rintro _ _ ⟨rfl, rfl⟩
       refine aa_pure 18 rfl (by kernel_rfl) rfl rfl (lt_pick true rfl (decide_eq_true (by first | exact h907 | omega)) rfl) rfl (ts_in 0 3 rfl rfl) ?_
       refine aa_pure 19 rfl (by kernel_rfl) rfl rfl (lt_move rfl) rfl (ts_in 0 3 rfl rfl) ?_
       refine aa_load 20 rfl (by kernel_rfl) rfl ⟨43, rfl, .inl ⟨_, rfl, gdq (v := true) h914 rfl⟩⟩ (lt_load_box 0 rfl ti24 rfl rfl rfl rfl rfl) rfl (ts_in 0 3 rfl rfl) ?_
       refine aa_all (rs := [21]) (by kernel_rfl) rfl (ts_in 0 3 rfl rfl) (List.forall_mem_singleton.2 ?_)
       refine aa_op rfl ⟨43, rfl, .inl ⟨_, rfl, gdq (v := true) h914 rfl⟩⟩ ?_
       refine hv_call0 [5, 16] (f37_spec h916) rfl rfl rfl rfl ?_
       rintro _ _ ⟨rfl, rfl⟩
       refine aa_pure 22 rfl (by kernel_rfl) rfl rfl (lt_pick true rfl h914 rfl) rfl (ts_in 0 3 rfl rfl) ?_
       refine aa_pure 23 rfl (by kernel_rfl) rfl rfl (lt_move rfl) rfl (ts_in 0 3 rfl rfl) ?_
       refine aa_pure 24 rfl (by kernel_rfl) rfl ⟨47, rfl, .inl ⟨_, rfl, gdq (v := true) h917 rfl⟩⟩ (lt_move rfl) rfl (ts_in 0 3 rfl rfl) ?_
       refine aa_pure 25 rfl (by kernel_rfl) rfl rfl (lt_pick true rfl h917 rfl) rfl (ts_in 0 3 rfl rfl) ?_
       refine aa_pure 26 rfl (by kernel_rfl) rfl rfl (lt_move rfl) rfl (ts_in 0 3 rfl rfl) ?_
       refine aa_off 27 rfl (by kernel_rfl) rfl ⟨50, rfl, .inl ⟨_, rfl, gdq (v := false) (bf h918) rfl⟩⟩ rfl (ts_in 0 3 rfl rfl) ?_
       refine aa_off 28 rfl (by kernel_rfl) rfl ⟨50, rfl, .inl ⟨_, rfl, gdq (v := false) (bf h918) rfl⟩⟩ rfl (ts_in 0 3 rfl rfl) ?_
       refine aa_pure 29 rfl (by kernel_rfl) rfl rfl (lt_pick false rfl (bf h918) rfl) rfl (ts_in 0 3 rfl rfl) ?_
       refine aa_pure 30 rfl (by kernel_rfl) rfl rfl (lt_assign rfl) rfl (ts_in 0 3 rfl rfl) ?_
       refine aa_done (by kernel_rfl) (ts_in 0 3 rfl rfl) ?_
       refine at_then (at_ret ?_)
       have hq := oinj hr
       clear hr
       subst hq
       exact at_return (.bool false) [] hS Tryz.results11 (.cons (.tmp rfl) .nil) rfl rfl ⟨rfl, rfl⟩
      replace hr := ineg h917 hr
      refine aa_start 31 (by kernel_rfl) ?_
      refine aa_p 0 rfl (lt_move rfl) (aa_p 1 rfl (lt_eql rfl rfl) (aa_p 2 rfl (lt_move rfl) ?_))
      refine aa_pg 3 rfl ⟨26, rfl, .inl ⟨_, rfl, gdq (v := true) (decide_eq_true (by first | exact h904 | omega)) rfl⟩⟩ (lt_move rfl) ?_
      refine aa_pg 4 rfl ⟨26, rfl, .inl ⟨_, rfl, gdq (v := true) (decide_eq_true (by first | exact h904 | omega)) rfl⟩⟩ (lt_seql rfl rfl) ?_
      refine aa_p 5 rfl (lt_pick true rfl (decide_eq_true (by first | exact h904 | omega)) rfl) ?_
      refine aa_p 6 rfl (lt_move rfl) ?_
      refine aa_pg 7 rfl ⟨30, rfl, .inl ⟨_, rfl, gdq (v := true) (decide_eq_true h905) rfl⟩⟩ (lt_move rfl) ?_
      refine aa_pg 8 rfl ⟨30, rfl, .inl ⟨_, rfl, gdq (v := true) (decide_eq_true h905) rfl⟩⟩ (lt_eql rfl rfl) ?_
      refine aa_p 9 rfl (lt_pick true rfl (decide_eq_true h905) rfl) (aa_p 10 rfl (lt_move rfl) ?_)
      refine aa_pg 11 rfl ⟨34, rfl, .inl ⟨_, rfl, gdq (v := true) (decide_eq_true (by first | exact h906 | omega)) rfl⟩⟩ (lt_move rfl) ?_
      refine aa_pg 12 rfl ⟨34, rfl, .inl ⟨_, rfl, gdq (v := true) (decide_eq_true (by first | exact h906 | omega)) rfl⟩⟩ (lt_eql rfl rfl) ?_
      refine aa_p 13 rfl (lt_pick true rfl (decide_eq_true (by first | exact h906 | omega)) rfl) ?_
      refine aa_p 14 rfl (lt_move rfl) ?_
      refine aa_lg 15 rfl ⟨38, rfl, .inl ⟨_, rfl, gdq (v := true) (decide_eq_true (by first | exact h907 | omega)) rfl⟩⟩ (lt_load_box 0 rfl ti24 rfl rfl rfl rfl rfl) ?_
      refine aa_one 16 ?_
      refine aa_op rfl ⟨38, rfl, .inl ⟨_, rfl, gdq (v := true) (decide_eq_true (by first | exact h907 | omega)) rfl⟩⟩ ?_
      refine hv_call0 [] (f48_spec h909) rfl rfl rfl rfl ?_
      rintro _ _ ⟨s910, rfl, rfl⟩
      refine at_open (A := Unit) 0 rfl (fun _ => True) (fun _ => [((Ty.int .i64).fact x908.ID [.int .i64 x908.ID]), ((Ty.slice ty59).fact x908.Fields [s910])]) (fun F w h => ⟨(), trivial, ex24 h⟩) (fun _ _ => ?_)
      refine at_inv 0 rfl (fun l921 => ?_)
      replace l921 : (-9223372036854775808) ≤ x908.ID ∧ x908.ID ≤ 9223372036854775807 := l921
      refine aa_all (rs := [17]) (by kernel_rfl) rfl (ts_in 0 3 rfl rfl) (List.forall_mem_singleton.2 ?_)
      refine aa_op rfl ⟨38, rfl, .inl ⟨_, rfl, gdq (v := true) (decide_eq_true (by first | exact h907 | omega)) rfl⟩⟩ ?_
      refine hv_call0 [5, 2] (f42_spec h913) rfl rfl rfl rfl ?_
      rintro _ _ ⟨rfl, rfl⟩
      refine aa_pure 18 rfl (by kernel_rfl) rfl rfl (lt_pick true rfl (decide_eq_true (by first | exact h907 | omega)) rfl) rfl (ts_in 0 3 rfl rfl) ?_
      refine aa_pure 19 rfl (by kernel_rfl) rfl rfl (lt_move rfl) rfl (ts_in 0 3 rfl rfl) ?_
      refine aa_load 20 rfl (by kernel_rfl) rfl ⟨43, rfl, .inl ⟨_, rfl, gdq (v := true) h914 rfl⟩⟩ (lt_load_box 0 rfl ti24 rfl rfl rfl rfl rfl) rfl (ts_in 0 3 rfl rfl) ?_
      refine aa_all (rs := [21]) (by kernel_rfl) rfl (ts_in 0 3 rfl rfl) (List.forall_mem_singleton.2 ?_)
      refine aa_op rfl ⟨43, rfl, .inl ⟨_, rfl, gdq (v := true) h914 rfl⟩⟩ ?_
      refine hv_call0 [5, 16] (f37_spec h916) rfl rfl rfl rfl ?_
      rintro _ _ ⟨rfl, rfl⟩
      refine aa_pure 22 rfl (by kernel_rfl) rfl rfl (lt_pick true rfl h914 rfl) rfl (ts_in 0 3 rfl rfl) ?_
      refine aa_pure 23 rfl (by kernel_rfl) rfl rfl (lt_move rfl) rfl (ts_in 0 3 rfl rfl) ?_
      refine aa_off 24 rfl (by kernel_rfl) rfl ⟨47, rfl, .inl ⟨_, rfl, gdq (v := false) (bf h917) rfl⟩⟩ rfl (ts_in 0 3 rfl rfl) ?_
      refine aa_pure 25 rfl (by kernel_rfl) rfl rfl (lt_pick false rfl (bf h917) rfl) rfl (ts_in 0 3 rfl rfl) ?_
      refine aa_pure 26 rfl (by kernel_rfl) rfl rfl (lt_move rfl) rfl (ts_in 0 3 rfl rfl) ?_
      refine aa_off 27 rfl (by kernel_rfl) rfl ⟨50, rfl, .inl ⟨_, rfl, gdq (v := false) rfl rfl⟩⟩ rfl (ts_in 0 3 rfl rfl) ?_
      refine aa_off 28 rfl (by kernel_rfl) rfl ⟨50, rfl, .inl ⟨_, rfl, gdq (v := false) rfl rfl⟩⟩ rfl (ts_in 0 3 rfl rfl) ?_
      refine aa_pure 29 rfl (by kernel_rfl) rfl rfl (lt_pick false rfl rfl rfl) rfl (ts_in 0 3 rfl rfl) ?_
      refine aa_pure 30 rfl (by kernel_rfl) rfl rfl (lt_assign rfl) rfl (ts_in 0 3 rfl rfl) ?_
      refine aa_done (by kernel_rfl) (ts_in 0 3 rfl rfl) ?_
      refine at_then (at_ret ?_)
      have hq := oinj hr
      clear hr
      subst hq
      exact at_return (.bool false) [] hS Tryz.results11 (.cons (.tmp rfl) .nil) rfl rfl ⟨rfl, rfl⟩
     replace hr := ineg h914 hr
     refine aa_start 31 (by kernel_rfl) ?_
     refine aa_p 0 rfl (lt_move rfl) (aa_p 1 rfl (lt_eql rfl rfl) (aa_p 2 rfl (lt_move rfl) ?_))
     refine aa_pg 3 rfl ⟨26, rfl, .inl ⟨_, rfl, gdq (v := true) (decide_eq_true (by first | exact h904 | omega)) rfl⟩⟩ (lt_move rfl) ?_
     refine aa_pg 4 rfl ⟨26, rfl, .inl ⟨_, rfl, gdq (v := true) (decide_eq_true (by first | exact h904 | omega)) rfl⟩⟩ (lt_seql rfl rfl) ?_
     refine aa_p 5 rfl (lt_pick true rfl (decide_eq_true (by first | exact h904 | omega)) rfl) ?_
     refine aa_p 6 rfl (lt_move rfl) ?_
     refine aa_pg 7 rfl ⟨30, rfl, .inl ⟨_, rfl, gdq (v := true) (decide_eq_true h905) rfl⟩⟩ (lt_move rfl) ?_
     refine aa_pg 8 rfl ⟨30, rfl, .inl ⟨_, rfl, gdq (v := true) (decide_eq_true h905) rfl⟩⟩ (lt_eql rfl rfl) ?_
     refine aa_p 9 rfl (lt_pick true rfl (decide_eq_true h905) rfl) (aa_p 10 rfl (lt_move rfl) ?_)
     refine aa_pg 11 rfl ⟨34, rfl, .inl ⟨_, rfl, gdq (v := true) (decide_eq_true (by first | exact h906 | omega)) rfl⟩⟩ (lt_move rfl) ?_
     refine aa_pg 12 rfl ⟨34, rfl, .inl ⟨_, rfl, gdq (v := true) (decide_eq_true (by first | exact h906 | omega)) rfl⟩⟩ (lt_eql rfl rfl) ?_
     refine aa_p 13 rfl (lt_pick true rfl (decide_eq_true (by first | exact h906 | omega)) rfl) ?_
     refine aa_p 14 rfl (lt_move rfl) ?_
     refine aa_lg 15 rfl ⟨38, rfl, .inl ⟨_, rfl, gdq (v := true) (decide_eq_true (by first | exact h907 | omega)) rfl⟩⟩ (lt_load_box 0 rfl ti24 rfl rfl rfl rfl rfl) ?_
     refine aa_one 16 ?_
     refine aa_op rfl ⟨38, rfl, .inl ⟨_, rfl, gdq (v := true) (decide_eq_true (by first | exact h907 | omega)) rfl⟩⟩ ?_
     refine hv_call0 [] (f48_spec h909) rfl rfl rfl rfl ?_
     rintro _ _ ⟨s910, rfl, rfl⟩
     refine at_open (A := Unit) 0 rfl (fun _ => True) (fun _ => [((Ty.int .i64).fact x908.ID [.int .i64 x908.ID]), ((Ty.slice ty59).fact x908.Fields [s910])]) (fun F w h => ⟨(), trivial, ex24 h⟩) (fun _ _ => ?_)
     refine at_inv 0 rfl (fun l922 => ?_)
     replace l922 : (-9223372036854775808) ≤ x908.ID ∧ x908.ID ≤ 9223372036854775807 := l922
     refine aa_all (rs := [17]) (by kernel_rfl) rfl (ts_in 0 3 rfl rfl) (List.forall_mem_singleton.2 ?_)
     refine aa_op rfl ⟨38, rfl, .inl ⟨_, rfl, gdq (v := true) (decide_eq_true (by first | exact h907 | omega)) rfl⟩⟩ ?_
     refine hv_call0 [5, 2] (f42_spec h913) rfl rfl rfl rfl ?_
     rintro _ _ ⟨rfl, rfl⟩
     refine aa_pure 18 rfl (by kernel_rfl) rfl rfl (lt_pick true rfl (decide_eq_true (by first | exact h907 | omega)) rfl) rfl (ts_in 0 3 rfl rfl) ?_
     refine aa_pure 19 rfl (by kernel_rfl) rfl rfl (lt_move rfl) rfl (ts_in 0 3 rfl rfl) ?_
     refine aa_off 20 rfl (by kernel_rfl) rfl ⟨43, rfl, .inl ⟨_, rfl, gdq (v := false) (bf h914) rfl⟩⟩ rfl (ts_in 0 3 rfl rfl) ?_
     refine aa_off 21 rfl (by kernel_rfl) rfl ⟨43, rfl, .inl ⟨_, rfl, gdq (v := false) (bf h914) rfl⟩⟩ rfl (ts_in 0 3 rfl rfl) ?_
     refine aa_pure 22 rfl (by kernel_rfl) rfl rfl (lt_pick false rfl (bf h914) rfl) rfl (ts_in 0 3 rfl rfl) ?_
     refine aa_pure 23 rfl (by kernel_rfl) rfl rfl (lt_move rfl) rfl (ts_in 0 3 rfl rfl) ?_
     refine aa_off 24 rfl (by kernel_rfl) rfl ⟨47, rfl, .inl ⟨_, rfl, gdq (v := false) rfl rfl⟩⟩ rfl (ts_in 0 3 rfl rfl) ?_
     refine aa_pure 25 rfl (by kernel_rfl) rfl rfl (lt_pick false rfl rfl rfl) rfl (ts_in 0 3 rfl rfl) ?_
     refine aa_pure 26 rfl (by kernel_rfl) rfl rfl (lt_move rfl) rfl (ts_in 0 3 rfl rfl) ?_
     refine aa_off 27 rfl (by kernel_rfl) rfl ⟨50, rfl, .inl ⟨_, rfl, gdq (v := false) rfl rfl⟩⟩ rfl (ts_in 0 3 rfl rfl) ?_
     refine aa_off 28 rfl (by kernel_rfl) rfl ⟨50, rfl, .inl ⟨_, rfl, gdq (v := false) rfl rfl⟩⟩ rfl (ts_in 0 3 rfl rfl) ?_
     refine aa_pure 29 rfl (by kernel_rfl) rfl rfl (lt_pick false rfl rfl rfl) rfl (ts_in 0 3 rfl rfl) ?_
     refine aa_pure 30 rfl (by kernel_rfl) rfl rfl (lt_assign rfl) rfl (ts_in 0 3 rfl rfl) ?_
     refine aa_done (by kernel_rfl) (ts_in 0 3 rfl rfl) ?_
     refine at_then (at_ret ?_)
     have hq := oinj hr
     clear hr
     subst hq
     exact at_return (.bool false) [] hS Tryz.results11 (.cons (.tmp rfl) .nil) rfl rfl ⟨rfl, rfl⟩
    replace hr := ineg h907 hr
    refine aa_start 31 (by kernel_rfl) ?_
    refine aa_p 0 rfl (lt_move rfl) (aa_p 1 rfl (lt_eql rfl rfl) (aa_p 2 rfl (lt_move rfl) ?_))
    refine aa_pg 3 rfl ⟨26, rfl, .inl ⟨_, rfl, gdq (v := true) (decide_eq_true (by first | exact h904 | omega)) rfl⟩⟩ (lt_move rfl) ?_
    refine aa_pg 4 rfl ⟨26, rfl, .inl ⟨_, rfl, gdq (v := true) (decide_eq_true (by first | exact h904 | omega)) rfl⟩⟩ (lt_seql rfl rfl) ?_
    refine aa_p 5 rfl (lt_pick true rfl (decide_eq_true (by first | exact h904 | omega)) rfl) ?_
    refine aa_p 6 rfl (lt_move rfl) ?_
    refine aa_pg 7 rfl ⟨30, rfl, .inl ⟨_, rfl, gdq (v := true) (decide_eq_true h905) rfl⟩⟩ (lt_move rfl) ?_
    refine aa_pg 8 rfl ⟨30, rfl, .inl ⟨_, rfl, gdq (v := true) (decide_eq_true h905) rfl⟩⟩ (lt_eql rfl rfl) ?_
    refine aa_p 9 rfl (lt_pick true rfl (decide_eq_true h905) rfl) (aa_p 10 rfl (lt_move rfl) ?_)
    refine aa_pg 11 rfl ⟨34, rfl, .inl ⟨_, rfl, gdq (v := true) (decide_eq_true (by first | exact h906 | omega)) rfl⟩⟩ (lt_move rfl) ?_
    refine aa_pg 12 rfl ⟨34, rfl, .inl ⟨_, rfl, gdq (v := true) (decide_eq_true (by first | exact h906 | omega)) rfl⟩⟩ (lt_eql rfl rfl) ?_
    refine aa_p 13 rfl (lt_pick true rfl (decide_eq_true (by first | exact h906 | omega)) rfl) ?_
    refine aa_p 14 rfl (lt_move rfl) ?_
    refine aa_o 15 rfl ⟨38, rfl, .inl ⟨_, rfl, gdq (v := false) (decide_eq_false (by first | exact h907 | omega)) rfl⟩⟩ ?_
    refine aa_o 16 rfl ⟨38, rfl, .inl ⟨_, rfl, gdq (v := false) (decide_eq_false (by first | exact h907 | omega)) rfl⟩⟩ ?_
    refine aa_o 17 rfl ⟨38, rfl, .inl ⟨_, rfl, gdq (v := false) (decide_eq_false (by first | exact h907 | omega)) rfl⟩⟩ ?_
    refine aa_p 18 rfl (lt_pick false rfl (decide_eq_false (by first | exact h907 | omega)) rfl) ?_
    refine aa_p 19 rfl (lt_move rfl) ?_
    refine aa_o 20 rfl ⟨43, rfl, .inl ⟨_, rfl, gdq (v := false) rfl rfl⟩⟩ ?_
    refine aa_o 21 rfl ⟨43, rfl, .inl ⟨_, rfl, gdq (v := false) rfl rfl⟩⟩ ?_
    refine aa_p 22 rfl (lt_pick false rfl rfl rfl) (aa_p 23 rfl (lt_move rfl) ?_)
    refine aa_o 24 rfl ⟨47, rfl, .inl ⟨_, rfl, gdq (v := false) rfl rfl⟩⟩ ?_
    refine aa_p 25 rfl (lt_pick false rfl rfl rfl) (aa_p 26 rfl (lt_move rfl) ?_)
    refine aa_o 27 rfl ⟨50, rfl, .inl ⟨_, rfl, gdq (v := false) rfl rfl⟩⟩ ?_
    refine aa_o 28 rfl ⟨50, rfl, .inl ⟨_, rfl, gdq (v := false) rfl rfl⟩⟩ ?_
    refine aa_p 29 rfl (lt_pick false rfl rfl rfl) (aa_p 30 rfl (lt_assign rfl) ?_)
    refine aa_done (by kernel_rfl) (ts_in 0 0 rfl rfl) ?_
    refine at_then (at_ret ?_)
    have hq := oinj hr
    clear hr
    subst hq
    exact at_return (.bool false) [] hS Tryz.results11 (.cons (.tmp rfl) .nil) rfl rfl ⟨rfl, rfl⟩
   replace hr := ineg h906 hr
   refine aa_start 31 (by kernel_rfl) ?_
   refine aa_p 0 rfl (lt_move rfl) (aa_p 1 rfl (lt_eql rfl rfl) (aa_p 2 rfl (lt_move rfl) ?_))
   refine aa_pg 3 rfl ⟨26, rfl, .inl ⟨_, rfl, gdq (v := true) (decide_eq_true (by first | exact h904 | omega)) rfl⟩⟩ (lt_move rfl) ?_
   refine aa_pg 4 rfl ⟨26, rfl, .inl ⟨_, rfl, gdq (v := true) (decide_eq_true (by first | exact h904 | omega)) rfl⟩⟩ (lt_seql rfl rfl) ?_
   refine aa_p 5 rfl (lt_pick true rfl (decide_eq_true (by first | exact h904 | omega)) rfl) ?_
   refine aa_p 6 rfl (lt_move rfl) ?_
   refine aa_pg 7 rfl ⟨30, rfl, .inl ⟨_, rfl, gdq (v := true) (decide_eq_true h905) rfl⟩⟩ (lt_move rfl) ?_
   refine aa_pg 8 rfl ⟨30, rfl, .inl ⟨_, rfl, gdq (v := true) (decide_eq_true h905) rfl⟩⟩ (lt_eql rfl rfl) ?_
   refine aa_p 9 rfl (lt_pick true rfl (decide_eq_true h905) rfl) (aa_p 10 rfl (lt_move rfl) ?_)
   refine aa_o 11 rfl ⟨34, rfl, .inl ⟨_, rfl, gdq (v := false) (decide_eq_false (by first | exact h906 | omega)) rfl⟩⟩ ?_
   refine aa_o 12 rfl ⟨34, rfl, .inl ⟨_, rfl, gdq (v := false) (decide_eq_false (by first | exact h906 | omega)) rfl⟩⟩ ?_
   refine aa_p 13 rfl (lt_pick false rfl (decide_eq_false (by first | exact h906 | omega)) rfl) ?_
   refine aa_p 14 rfl (lt_move rfl) ?_
   refine aa_o 15 rfl ⟨38, rfl, .inl ⟨_, rfl, gdq (v := false) rfl rfl⟩⟩ ?_
   refine aa_o 16 rfl ⟨38, rfl, .inl ⟨_, rfl, gdq (v := false) rfl rfl⟩⟩ ?_
   refine aa_o 17 rfl ⟨38, rfl, .inl ⟨_, rfl, gdq (v := false) rfl rfl⟩⟩ ?_
   refine aa_p 18 rfl (lt_pick false rfl rfl rfl) (aa_p 19 rfl (lt_move rfl) ?_)
   refine aa_o 20 rfl ⟨43, rfl, .inl ⟨_, rfl, gdq (v := false) rfl rfl⟩⟩ ?_
   refine aa_o 21 rfl ⟨43, rfl, .inl ⟨_, rfl, gdq (v := false) rfl rfl⟩⟩ ?_
   refine aa_p 22 rfl (lt_pick false rfl rfl rfl) (aa_p 23 rfl (lt_move rfl) ?_)
   refine aa_o 24 rfl ⟨47, rfl, .inl ⟨_, rfl, gdq (v := false) rfl rfl⟩⟩ ?_
   refine aa_p 25 rfl (lt_pick false rfl rfl rfl) (aa_p 26 rfl (lt_move rfl) ?_)
   refine aa_o 27 rfl ⟨50, rfl, .inl ⟨_, rfl, gdq (v := false) rfl rfl⟩⟩ ?_
   refine aa_o 28 rfl ⟨50, rfl, .inl ⟨_, rfl, gdq (v := false) rfl rfl⟩⟩ ?_
   refine aa_p 29 rfl (lt_pick false rfl rfl rfl) (aa_p 30 rfl (lt_assign rfl) ?_)
   refine aa_done (by kernel_rfl) (ts_in 0 0 rfl rfl) ?_
   refine at_then (at_ret ?_)
   have hq := oinj hr
   clear hr
   subst hq
   exact at_return (.bool false) [] hS Tryz.results11 (.cons (.tmp rfl) .nil) rfl rfl ⟨rfl, rfl⟩
  replace hr := ineg h905 hr
  refine aa_start 31 (by kernel_rfl) ?_
  refine aa_p 0 rfl (lt_move rfl) (aa_p 1 rfl (lt_eql rfl rfl) (aa_p 2 rfl (lt_move rfl) ?_))
  refine aa_pg 3 rfl ⟨26, rfl, .inl ⟨_, rfl, gdq (v := true) (decide_eq_true (by first | exact h904 | omega)) rfl⟩⟩ (lt_move rfl) ?_
  refine aa_pg 4 rfl ⟨26, rfl, .inl ⟨_, rfl, gdq (v := true) (decide_eq_true (by first | exact h904 | omega)) rfl⟩⟩ (lt_seql rfl rfl) ?_
  refine aa_p 5 rfl (lt_pick true rfl (decide_eq_true (by first | exact h904 | omega)) rfl) ?_
  refine aa_p 6 rfl (lt_move rfl) ?_
  refine aa_o 7 rfl ⟨30, rfl, .inl ⟨_, rfl, gdq (v := false) (decide_eq_false h905) rfl⟩⟩ ?_
  refine aa_o 8 rfl ⟨30, rfl, .inl ⟨_, rfl, gdq (v := false) (decide_eq_false h905) rfl⟩⟩ ?_
  refine aa_p 9 rfl (lt_pick false rfl (decide_eq_false h905) rfl) (aa_p 10 rfl (lt_move rfl) ?_)
  refine aa_o 11 rfl ⟨34, rfl, .inl ⟨_, rfl, gdq (v := false) rfl rfl⟩⟩ ?_
  refine aa_o 12 rfl ⟨34, rfl, .inl ⟨_, rfl, gdq (v := false) rfl rfl⟩⟩ ?_
  refine aa_p 13 rfl (lt_pick false rfl rfl rfl) (aa_p 14 rfl (lt_move rfl) ?_)
  refine aa_o 15 rfl ⟨38, rfl, .inl ⟨_, rfl, gdq (v := false) rfl rfl⟩⟩ ?_
  refine aa_o 16 rfl ⟨38, rfl, .inl ⟨_, rfl, gdq (v := false) rfl rfl⟩⟩ ?_
  refine aa_o 17 rfl ⟨38, rfl, .inl ⟨_, rfl, gdq (v := false) rfl rfl⟩⟩ ?_
  refine aa_p 18 rfl (lt_pick false rfl rfl rfl) (aa_p 19 rfl (lt_move rfl) ?_)
  refine aa_o 20 rfl ⟨43, rfl, .inl ⟨_, rfl, gdq (v := false) rfl rfl⟩⟩ ?_
  refine aa_o 21 rfl ⟨43, rfl, .inl ⟨_, rfl, gdq (v := false) rfl rfl⟩⟩ ?_
  refine aa_p 22 rfl (lt_pick false rfl rfl rfl) (aa_p 23 rfl (lt_move rfl) ?_)
  refine aa_o 24 rfl ⟨47, rfl, .inl ⟨_, rfl, gdq (v := false) rfl rfl⟩⟩ ?_
  refine aa_p 25 rfl (lt_pick false rfl rfl rfl) (aa_p 26 rfl (lt_move rfl) ?_)
  refine aa_o 27 rfl ⟨50, rfl, .inl ⟨_, rfl, gdq (v := false) rfl rfl⟩⟩ ?_
  refine aa_o 28 rfl ⟨50, rfl, .inl ⟨_, rfl, gdq (v := false) rfl rfl⟩⟩ ?_
  refine aa_p 29 rfl (lt_pick false rfl rfl rfl) (aa_p 30 rfl (lt_assign rfl) ?_)
  refine aa_done (by kernel_rfl) (ts_in 0 0 rfl rfl) ?_
  refine at_then (at_ret ?_)
  have hq := oinj hr
  clear hr
  subst hq
  exact at_return (.bool false) [] hS Tryz.results11 (.cons (.tmp rfl) .nil) rfl rfl ⟨rfl, rfl⟩
 replace hr := ineg h904 hr
 refine aa_start 31 (by kernel_rfl) ?_
 refine aa_p 0 rfl (lt_move rfl) (aa_p 1 rfl (lt_eql rfl rfl) (aa_p 2 rfl (lt_move rfl) ?_))
 refine aa_o 3 rfl ⟨26, rfl, .inl ⟨_, rfl, gdq (v := false) (decide_eq_false (by first | exact h904 | omega)) rfl⟩⟩ ?_
 refine aa_o 4 rfl ⟨26, rfl, .inl ⟨_, rfl, gdq (v := false) (decide_eq_false (by first | exact h904 | omega)) rfl⟩⟩ ?_
 refine aa_p 5 rfl (lt_pick false rfl (decide_eq_false (by first | exact h904 | omega)) rfl) ?_
 refine aa_p 6 rfl (lt_move rfl) ?_
 refine aa_o 7 rfl ⟨30, rfl, .inl ⟨_, rfl, gdq (v := false) rfl rfl⟩⟩ ?_
 refine aa_o 8 rfl ⟨30, rfl, .inl ⟨_, rfl, gdq (v := false) rfl rfl⟩⟩ ?_
 refine aa_p 9 rfl (lt_pick false rfl rfl rfl) (aa_p 10 rfl (lt_move rfl) ?_)
 refine aa_o 11 rfl ⟨34, rfl, .inl ⟨_, rfl, gdq (v := false) rfl rfl⟩⟩ ?_
 refine aa_o 12 rfl ⟨34, rfl, .inl ⟨_, rfl, gdq (v := false) rfl rfl⟩⟩ ?_
 refine aa_p 13 rfl (lt_pick false rfl rfl rfl) (aa_p 14 rfl (lt_move rfl) ?_)
 refine aa_o 15 rfl ⟨38, rfl, .inl ⟨_, rfl, gdq (v := false) rfl rfl⟩⟩ ?_
 refine aa_o 16 rfl ⟨38, rfl, .inl ⟨_, rfl, gdq (v := false) rfl rfl⟩⟩ ?_
 refine aa_o 17 rfl ⟨38, rfl, .inl ⟨_, rfl, gdq (v := false) rfl rfl⟩⟩ ?_
 refine aa_p 18 rfl (lt_pick false rfl rfl rfl) (aa_p 19 rfl (lt_move rfl) ?_)
 refine aa_o 20 rfl ⟨43, rfl, .inl ⟨_, rfl, gdq (v := false) rfl rfl⟩⟩ ?_
 refine aa_o 21 rfl ⟨43, rfl, .inl ⟨_, rfl, gdq (v := false) rfl rfl⟩⟩ ?_
 refine aa_p 22 rfl (lt_pick false rfl rfl rfl) (aa_p 23 rfl (lt_move rfl) ?_)
 refine aa_o 24 rfl ⟨47, rfl, .inl ⟨_, rfl, gdq (v := false) rfl rfl⟩⟩ ?_
 refine aa_p 25 rfl (lt_pick false rfl rfl rfl) (aa_p 26 rfl (lt_move rfl) ?_)
 refine aa_o 27 rfl ⟨50, rfl, .inl ⟨_, rfl, gdq (v := false) rfl rfl⟩⟩ ?_
 refine aa_o 28 rfl ⟨50, rfl, .inl ⟨_, rfl, gdq (v := false) rfl rfl⟩⟩ ?_
 refine aa_p 29 rfl (lt_pick false rfl rfl rfl) (aa_p 30 rfl (lt_assign rfl) ?_)
 refine aa_done (by kernel_rfl) (ts_in 0 0 rfl rfl) ?_
 refine at_then (at_ret ?_)
 have hq := oinj hr
 clear hr
 subst hq
 exact at_return (.bool false) [] hS Tryz.results11 (.cons (.tmp rfl) .nil) rfl rfl ⟨rfl, rfl⟩
end Go.WK.S
