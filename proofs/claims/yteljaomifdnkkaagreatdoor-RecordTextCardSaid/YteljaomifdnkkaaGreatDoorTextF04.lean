
/- What functions of this program compute: a model of each, and the proof that it is kept. -/
import Derived.Test.YteljaomifdnkkaaGreatDoorTextF03
import Derived.KernelRfl
set_option linter.unusedSimpArgs false
set_option linter.unusedVariables false
namespace Go.WK.S
open Go Go.Proofs Go.WK Go.RowKit
set_option linter.unusedVariables false
set_option maxRecDepth 100000
set_option maxHeartbeats 4000000
def m52_l1 (a0 : D_api_Field) : Nat → Str → Nat → Option Str
  | 0, _, _ => none
  | k + 1, x1309, x1310 =>
    if x1310 < 2 then
     if x1310 = 0 then
      Option.bind (α := UInt8) (
       if a0.Ind_0.toNat = 32 then
        some 95
       else
        some a0.Ind_0
      ) fun x1316 =>
      if x1309.length + ([x1316] : Str).length ≤ 9223372036854775807 then
       if x1310 + 1 ≤ 9223372036854775807 then
        m52_l1 a0 k (x1309 ++ ([x1316] : Str)) (x1310 + 1)
       else none
      else none
     else
      if x1310 = 1 then
       Option.bind (α := UInt8) (
        if a0.Ind_1.toNat = 32 then
         some 95
        else
         some a0.Ind_1
       ) fun x1325 =>
       if x1309.length + ([x1325] : Str).length ≤ 9223372036854775807 then
        if x1310 + 1 ≤ 9223372036854775807 then
         m52_l1 a0 k (x1309 ++ ([x1325] : Str)) (x1310 + 1)
        else none
       else none
      else
       none
    else
     some x1309
def m52_l3 (x1349 : D_api_Sub) : Nat → Str → Nat → Option Str
  | 0, _, _ => none
  | k + 1, x1353, x1354 =>
    if x1354 < x1349.Value.length then
     Option.bind (α := Str) (
      (x1349.Value[x1354]?).bind fun c1362 =>
      if c1362.toNat = 36 then
       if x1353.length + ([92] : Str).length ≤ 9223372036854775807 then
        some (x1353 ++ ([92] : Str))
       else none
      else
       (x1349.Value[x1354]?).bind fun c1366 =>
       if c1366.toNat = 92 then
        if x1353.length + ([92] : Str).length ≤ 9223372036854775807 then
         some (x1353 ++ ([92] : Str))
        else none
       else
        some x1353
     ) fun x1360 =>
     if x1354 ≤ x1354 + 1 ∧ x1354 + 1 ≤ x1349.Value.length then
      if x1360.length + ((x1349.Value.take (x1354 + 1)).drop x1354).length ≤ 9223372036854775807 then
       m52_l3 x1349 k (x1360 ++ ((x1349.Value.take (x1354 + 1)).drop x1354)) (x1354 + 1)
      else none
     else none
    else
     some x1353
def m52_l2 (a0 : D_api_Field) : Nat → Str → Nat → Option Str
  | 0, _, _ => none
  | k + 1, x1333, x1334 =>
    if x1334 < a0.Subs.length then
     (a0.Subs[x1334]?).bind fun x1341 =>
     if ([32, 36] : Str).length + ([x1341.Code] : Str).length ≤ 9223372036854775807 then
      if (([32, 36] : Str) ++ ([x1341.Code] : Str)).length + ([32] : Str).length ≤ 9223372036854775807 then
       if x1333.length + (([32, 36] : Str) ++ ([x1341.Code] : Str) ++ ([32] : Str)).length ≤ 9223372036854775807 then
        (a0.Subs[x1334]?).bind fun x1349 =>
        (m52_l3 x1349 (x1349.Value.length + 1) (x1333 ++ (([32, 36] : Str) ++ ([x1341.Code] : Str) ++ ([32] : Str))) 0).bind fun x1355 =>
        m52_l2 a0 k x1355 (x1334 + 1)
       else none
      else none
     else none
    else
     some x1333
def m52 (a0 : D_api_Field) : Option Str :=
  if a0.Tag.length + ([32] : Str).length ≤ 9223372036854775807 then
   (m52_l1 a0 (2 + 1) (a0.Tag ++ ([32] : Str)) 0).bind fun x1311 =>
   (m52_l2 a0 (a0.Subs.length + 1) x1311 0).bind fun x1335 =>
   some x1335
  else none
def post52 (r : Str) (v : Value) (fs : List Fact) : Prop := v = str r ∧ fs = [(Ty.str.fact r [str r])]
theorem en52 : Enters Tryz.prog 52 := ⟨_, Tryz.func52, by kernel_rfl, rfl⟩
theorem f52_spec {a0 : D_api_Field} {s1306 : Value} {r : Str} (hr : m52 a0 = some r) : Spec Tryz.prog 52 [.agg #[str a0.Tag, .int .u8 (a0.Ind_0.toNat : Int), .int .u8 (a0.Ind_1.toNat : Int), s1306]] [(ty59.fact a0 [str a0.Tag, .int .u8 (a0.Ind_0.toNat : Int), .int .u8 (a0.Ind_1.toNat : Int), s1306])] (post52 r) := by
 refine spec_start (N := 78) Tryz.func52 (by kernel_rfl) rfl rfl rfl ?_
 intro g hS
 unfold m52 at hr
 refine at_open (A := Unit) 0 rfl (fun _ => True) (fun _ => [(Ty.str.fact a0.Tag [str a0.Tag]), ((Ty.slice ty67).fact a0.Subs [s1306])]) (fun F w h => ⟨(), trivial, ex59 h⟩) (fun _ _ => ?_)
 refine s_sr (at_hv rfl ?_)
 refine hv_box (cs := [str a0.Tag, .int .u8 (a0.Ind_0.toNat : Int), .int .u8 (a0.Ind_1.toNat : Int), s1306]) rfl rfl rfl (fun b1307 => ?_)
 refine s_as rfl (s_ntsr (at_lt (lt_fieldAddr 0 rfl fld59_0 rfl) rfl (at_lt (lt_load_box 0 rfl ti9 rfl rfl rfl rfl rfl) rfl ?_)))
 replace hr := imust hr
 obtain ⟨h1308, hr⟩ := hr
 refine at_lt (lt_sadd rfl rfl h1308) rfl (s_as rfl (s_nt (at_seq (s_sr (s_as rfl (s_nt ?_))))))
 refine at_str (a0.Tag ++ ([32] : Str)) (by rw [List.length_append]; exact h1308) ?_
 refine at_int .i64 0 (by simp only [lo, hi]; omega) ?_
 replace hr := obind hr
 obtain ⟨x1311, hl1312, hr⟩ := hr
 refine at_cut (V := Unit) (fun e => (⟨[(1, .pointer (some (Addr.add ⟨b1307, 0, none⟩ 0))), (3, str x1311)], [⟨b1307, [str a0.Tag, .int .u8 (a0.Ind_0.toNat : Int), .int .u8 (a0.Ind_1.toNat : Int), s1306], 59⟩], [], [(Ty.str.fact x1311 [str x1311]), (Ty.str.fact a0.Tag [str a0.Tag]), ((Ty.slice ty67).fact a0.Subs [s1306])]⟩ : St)) ?_ ?_
 ·refine at_block ?_
  refine at_loopW (σ := (Str × Nat)) (V := Unit) (r := x1311) (fun n s => m52_l1 a0 n s.1 s.2) (fun s e => (⟨[(1, .pointer (some (Addr.add ⟨b1307, 0, none⟩ 0))), (3, str s.1), (4, .int .i64 (s.2 : Int))], [⟨b1307, [str a0.Tag, .int .u8 (a0.Ind_0.toNat : Int), .int .u8 (a0.Ind_1.toNat : Int), s1306], 59⟩], [], [(Ty.str.fact s.1 [str s.1]), ((Ty.int .i64).fact (s.2 : Int) [.int .i64 (s.2 : Int)]), (Ty.str.fact a0.Tag [str a0.Tag]), ((Ty.slice ty67).fact a0.Subs [s1306])]⟩ : St)) (fun _ => rfl) _ (a0.Tag ++ ([32] : Str), 0) () hl1312 ⟨⟨rfl, ⟨rfl, ⟨rfl, trivial⟩⟩⟩, ⟨[true], rfl⟩, ⟨[], rfl⟩, ⟨[1, 0, 2, 3], rfl⟩⟩ ?_
  clear hr hl1312
  intro n s hr e
  obtain ⟨x1309, x1310⟩ := s
  skip
  change m52_l1 a0 (n + 1) x1309 x1310 = some x1311 at hr
  change At _ _ (⟨[(1, .pointer (some (Addr.add ⟨b1307, 0, none⟩ 0))), (3, str x1309), (4, .int .i64 (x1310 : Int))], [⟨b1307, [str a0.Tag, .int .u8 (a0.Ind_0.toNat : Int), .int .u8 (a0.Ind_1.toNat : Int), s1306], 59⟩], [], [(Ty.str.fact x1309 [str x1309]), ((Ty.int .i64).fact (x1310 : Int) [.int .i64 (x1310 : Int)]), (Ty.str.fact a0.Tag [str a0.Tag]), ((Ty.slice ty67).fact a0.Subs [s1306])]⟩ : St) _
  rw [m52_l1] at hr
  refine at_seq (s_sr (s_mv rfl (at_lt (lt_lss rfl rfl) rfl (s_nt ?_))))
  by_cases h1314 : x1310 < 2
  ·replace hr := ipos h1314 hr
   refine at_true rfl (decide_eq_true (by omega)) ?_
   refine at_skip (at_then (at_seq (at_block (s_sr (s_mv rfl (at_lt (lt_fieldAddr 1 rfl fld59_1 rfl) rfl ?_))))))
   by_cases h1315 : x1310 = 0
   ·replace hr := ipos h1315 hr
    refine at_lt (lt_aidx 0 rfl rfl (by omega) rfl und56 ti5 rfl) rfl ?_
    refine at_lt (lt_load_box 0 rfl ti5 rfl rfl rfl rfl rfl) rfl (s_as rfl (s_nt (at_seq (s_sr (s_mv rfl (at_lt (lt_eql rfl rfl) rfl (s_nt ?_)))))))
    replace hr := obind hr
    obtain ⟨x1316, hc1317, hr⟩ := hr
    refine at_cut (V := Unit) (fun e => (⟨[(1, .pointer (some (Addr.add ⟨b1307, 0, none⟩ 0))), (3, str x1309), (4, .int .i64 (x1310 : Int)), (5, .int .u8 (x1316.toNat : Int))], [⟨b1307, [str a0.Tag, .int .u8 (a0.Ind_0.toNat : Int), .int .u8 (a0.Ind_1.toNat : Int), s1306], 59⟩], [], [(Ty.str.fact x1309 [str x1309]), ((Ty.int .i64).fact (x1310 : Int) [.int .i64 (x1310 : Int)]), (Ty.str.fact a0.Tag [str a0.Tag]), ((Ty.slice ty67).fact a0.Subs [s1306])]⟩ : St)) ?_ ?_
    ·clear hr
     have hr := hc1317
     clear hc1317
     by_cases h1318 : a0.Ind_0.toNat = 32
     ·replace hr := ipos h1318 hr
      refine at_true rfl (decide_eq_true (by omega)) ?_
      refine at_region (s_as rfl (at_nil ?_))
      have hq := oinj hr
      clear hr
      subst hq
      exact at_leaf () ⟨⟨rfl, ⟨rfl, ⟨rfl, ⟨rfl, trivial⟩⟩⟩⟩, ⟨[true], rfl⟩, ⟨[], rfl⟩, ⟨[0, 1, 2, 3], rfl⟩⟩
     replace hr := ineg h1318 hr
     refine at_false rfl (decide_eq_false (by omega)) ?_
     refine at_skip ?_
     have hq := oinj hr
     clear hr
     subst hq
     exact at_leaf () ⟨⟨rfl, ⟨rfl, ⟨rfl, ⟨rfl, trivial⟩⟩⟩⟩, ⟨[true], rfl⟩, ⟨[], rfl⟩, ⟨[0, 1, 2, 3], rfl⟩⟩
    clear hc1317
    intro _
    change At _ _ (⟨[(1, .pointer (some (Addr.add ⟨b1307, 0, none⟩ 0))), (3, str x1309), (4, .int .i64 (x1310 : Int)), (5, .int .u8 (x1316.toNat : Int))], [⟨b1307, [str a0.Tag, .int .u8 (a0.Ind_0.toNat : Int), .int .u8 (a0.Ind_1.toNat : Int), s1306], 59⟩], [], [(Ty.str.fact x1309 [str x1309]), ((Ty.int .i64).fact (x1310 : Int) [.int .i64 (x1310 : Int)]), (Ty.str.fact a0.Tag [str a0.Tag]), ((Ty.slice ty67).fact a0.Subs [s1306])]⟩ : St) _
    refine s_tr (s_mv rfl (s_mv rfl (at_hv rfl ?_)))
    refine hv_bslice (cs := [.int .u8 (x1316.toNat : Int)]) rfl und48 ti5 rfl rfl rfl rfl rfl (fun s1319 => ?_)
    refine at_hv rfl (lt_bstr 0 [x1316] rfl rfl rfl und48 und5 und9 rfl ?_)
    replace hr := imust hr
    obtain ⟨h1320, hr⟩ := hr
    refine at_lt (lt_sadd rfl rfl h1320) rfl (s_as rfl (at_nil (at_in (s_tr (s_mv rfl ?_)))))
    replace hr := imust hr
    obtain ⟨h1321, hr⟩ := hr
    refine at_inv 0 rfl (fun l1322 => ?_)
    replace l1322 : x1309.length ≤ 9223372036854775807 := l1322
    refine at_inv 2 rfl (fun l1323 => ?_)
    replace l1323 : a0.Tag.length ≤ 9223372036854775807 := l1323
    refine at_lt (lt_add rfl rfl (by simp only [lo, hi]; omega)) rfl (s_as rfl (at_nil ?_))
    refine at_str (x1309 ++ ([x1316] : Str)) (by rw [List.length_append]; exact h1320) ?_
    refine at_int .i64 (x1310 + 1 : Int) (by simp only [lo, hi]; omega) ?_
    exact at_again (σ := (Str × Nat)) (V := Unit) (lp := fun n s => m52_l1 a0 n s.1 s.2) (S := fun s e => (⟨[(1, .pointer (some (Addr.add ⟨b1307, 0, none⟩ 0))), (3, str s.1), (4, .int .i64 (s.2 : Int))], [⟨b1307, [str a0.Tag, .int .u8 (a0.Ind_0.toNat : Int), .int .u8 (a0.Ind_1.toNat : Int), s1306], 59⟩], [], [(Ty.str.fact s.1 [str s.1]), ((Ty.int .i64).fact (s.2 : Int) [.int .i64 (s.2 : Int)]), (Ty.str.fact a0.Tag [str a0.Tag]), ((Ty.slice ty67).fact a0.Subs [s1306])]⟩ : St)) (x1309 ++ ([x1316] : Str), x1310 + 1) () hr ⟨⟨rfl, ⟨rfl, ⟨rfl, trivial⟩⟩⟩, ⟨[true], rfl⟩, ⟨[false], rfl⟩, ⟨[1, 0, 4, 5], rfl⟩⟩
   replace hr := ineg h1315 hr
   by_cases h1324 : x1310 = 1
   ·replace hr := ipos h1324 hr
    refine at_lt (lt_aidx 1 rfl rfl (by omega) rfl und56 ti5 rfl) rfl ?_
    refine at_lt (lt_load_box 0 rfl ti5 rfl rfl rfl rfl rfl) rfl (s_as rfl (s_nt (at_seq (s_sr (s_mv rfl (at_lt (lt_eql rfl rfl) rfl (s_nt ?_)))))))
    replace hr := obind hr
    obtain ⟨x1325, hc1326, hr⟩ := hr
    refine at_cut (V := Unit) (fun e => (⟨[(1, .pointer (some (Addr.add ⟨b1307, 0, none⟩ 0))), (3, str x1309), (4, .int .i64 (x1310 : Int)), (5, .int .u8 (x1325.toNat : Int))], [⟨b1307, [str a0.Tag, .int .u8 (a0.Ind_0.toNat : Int), .int .u8 (a0.Ind_1.toNat : Int), s1306], 59⟩], [], [(Ty.str.fact x1309 [str x1309]), ((Ty.int .i64).fact (x1310 : Int) [.int .i64 (x1310 : Int)]), (Ty.str.fact a0.Tag [str a0.Tag]), ((Ty.slice ty67).fact a0.Subs [s1306])]⟩ : St)) ?_ ?_
    ·clear hr
     have hr := hc1326
     clear hc1326
     by_cases h1327 : a0.Ind_1.toNat = 32
     ·replace hr := ipos h1327 hr
      refine at_true rfl (decide_eq_true (by omega)) ?_
      refine at_region (s_as rfl (at_nil ?_))
      have hq := oinj hr
      clear hr
      subst hq
      exact at_leaf () ⟨⟨rfl, ⟨rfl, ⟨rfl, ⟨rfl, trivial⟩⟩⟩⟩, ⟨[true], rfl⟩, ⟨[], rfl⟩, ⟨[0, 1, 2, 3], rfl⟩⟩
     replace hr := ineg h1327 hr
     refine at_false rfl (decide_eq_false (by omega)) ?_
     refine at_skip ?_
     have hq := oinj hr
     clear hr
     subst hq
     exact at_leaf () ⟨⟨rfl, ⟨rfl, ⟨rfl, ⟨rfl, trivial⟩⟩⟩⟩, ⟨[true], rfl⟩, ⟨[], rfl⟩, ⟨[0, 1, 2, 3], rfl⟩⟩
    clear hc1326
    intro _
    change At _ _ (⟨[(1, .pointer (some (Addr.add ⟨b1307, 0, none⟩ 0))), (3, str x1309), (4, .int .i64 (x1310 : Int)), (5, .int .u8 (x1325.toNat : Int))], [⟨b1307, [str a0.Tag, .int .u8 (a0.Ind_0.toNat : Int), .int .u8 (a0.Ind_1.toNat : Int), s1306], 59⟩], [], [(Ty.str.fact x1309 [str x1309]), ((Ty.int .i64).fact (x1310 : Int) [.int .i64 (x1310 : Int)]), (Ty.str.fact a0.Tag [str a0.Tag]), ((Ty.slice ty67).fact a0.Subs [s1306])]⟩ : St) _
    refine s_tr (s_mv rfl (s_mv rfl (at_hv rfl ?_)))
    refine hv_bslice (cs := [.int .u8 (x1325.toNat : Int)]) rfl und48 ti5 rfl rfl rfl rfl rfl (fun s1328 => ?_)
    refine at_hv rfl (lt_bstr 0 [x1325] rfl rfl rfl und48 und5 und9 rfl ?_)
    replace hr := imust hr
    obtain ⟨h1329, hr⟩ := hr
    refine at_lt (lt_sadd rfl rfl h1329) rfl (s_as rfl (at_nil (at_in (s_tr (s_mv rfl ?_)))))
    replace hr := imust hr
    obtain ⟨h1330, hr⟩ := hr
    refine at_inv 0 rfl (fun l1331 => ?_)
    replace l1331 : x1309.length ≤ 9223372036854775807 := l1331
    refine at_inv 2 rfl (fun l1332 => ?_)
    replace l1332 : a0.Tag.length ≤ 9223372036854775807 := l1332
    refine at_lt (lt_add rfl rfl (by simp only [lo, hi]; omega)) rfl (s_as rfl (at_nil ?_))
    refine at_str (x1309 ++ ([x1325] : Str)) (by rw [List.length_append]; exact h1329) ?_
    refine at_int .i64 (x1310 + 1 : Int) (by simp only [lo, hi]; omega) ?_
    exact at_again (σ := (Str × Nat)) (V := Unit) (lp := fun n s => m52_l1 a0 n s.1 s.2) (S := fun s e => (⟨[(1, .pointer (some (Addr.add ⟨b1307, 0, none⟩ 0))), (3, str s.1), (4, .int .i64 (s.2 : Int))], [⟨b1307, [str a0.Tag, .int .u8 (a0.Ind_0.toNat : Int), .int .u8 (a0.Ind_1.toNat : Int), s1306], 59⟩], [], [(Ty.str.fact s.1 [str s.1]), ((Ty.int .i64).fact (s.2 : Int) [.int .i64 (s.2 : Int)]), (Ty.str.fact a0.Tag [str a0.Tag]), ((Ty.slice ty67).fact a0.Subs [s1306])]⟩ : St)) (x1309 ++ ([x1325] : Str), x1310 + 1) () hr ⟨⟨rfl, ⟨rfl, ⟨rfl, trivial⟩⟩⟩, ⟨[true], rfl⟩, ⟨[false], rfl⟩, ⟨[1, 0, 4, 5], rfl⟩⟩
   replace hr := ineg h1324 hr
   cases hr
  replace hr := ineg h1314 hr
  refine at_false rfl (decide_eq_false (by omega)) ?_
  refine at_exit (at_then_exit (at_then_exit (at_in_exit ?_)))
  have hq := oinj hr
  clear hr
  subst hq
  exact at_leaf () ⟨⟨rfl, ⟨rfl, trivial⟩⟩, ⟨[true], rfl⟩, ⟨[], rfl⟩, ⟨[0, 2, 3], rfl⟩⟩
 clear hl1312
 intro e
 change At _ _ (⟨[(1, .pointer (some (Addr.add ⟨b1307, 0, none⟩ 0))), (3, str x1311)], [⟨b1307, [str a0.Tag, .int .u8 (a0.Ind_0.toNat : Int), .int .u8 (a0.Ind_1.toNat : Int), s1306], 59⟩], [], [(Ty.str.fact x1311 [str x1311]), (Ty.str.fact a0.Tag [str a0.Tag]), ((Ty.slice ty67).fact a0.Subs [s1306])]⟩ : St) _
 refine at_then (at_seq (s_sr (s_as rfl (s_nt (at_int .i64 0 (by simp only [lo, hi]; omega) ?_)))))
 replace hr := obind hr
 obtain ⟨x1335, hl1336, hr⟩ := hr
 refine at_cut (V := Unit) (fun e => (⟨[(3, str x1335)], [], [], [(Ty.str.fact x1335 [str x1335])]⟩ : St)) ?_ ?_
 ·refine at_block ?_
  refine at_loopW (σ := (Str × Nat)) (V := Unit) (r := x1335) (fun n s => m52_l2 a0 n s.1 s.2) (fun s e => (⟨[(1, .pointer (some (Addr.add ⟨b1307, 0, none⟩ 0))), (3, str s.1), (6, .int .i64 (s.2 : Int))], [⟨b1307, [str a0.Tag, .int .u8 (a0.Ind_0.toNat : Int), .int .u8 (a0.Ind_1.toNat : Int), s1306], 59⟩], [], [(Ty.str.fact s.1 [str s.1]), ((Ty.int .i64).fact (s.2 : Int) [.int .i64 (s.2 : Int)]), (Ty.str.fact a0.Tag [str a0.Tag]), ((Ty.slice ty67).fact a0.Subs [s1306])]⟩ : St)) (fun _ => rfl) _ (x1311, 0) () hl1336 ⟨⟨rfl, ⟨rfl, ⟨rfl, trivial⟩⟩⟩, ⟨[true], rfl⟩, ⟨[], rfl⟩, ⟨[1, 0, 2, 3], rfl⟩⟩ ?_
  clear hr hl1336
  intro n s hr e
  obtain ⟨x1333, x1334⟩ := s
  skip
  change m52_l2 a0 (n + 1) x1333 x1334 = some x1335 at hr
  change At _ _ (⟨[(1, .pointer (some (Addr.add ⟨b1307, 0, none⟩ 0))), (3, str x1333), (6, .int .i64 (x1334 : Int))], [⟨b1307, [str a0.Tag, .int .u8 (a0.Ind_0.toNat : Int), .int .u8 (a0.Ind_1.toNat : Int), s1306], 59⟩], [], [(Ty.str.fact x1333 [str x1333]), ((Ty.int .i64).fact (x1334 : Int) [.int .i64 (x1334 : Int)]), (Ty.str.fact a0.Tag [str a0.Tag]), ((Ty.slice ty67).fact a0.Subs [s1306])]⟩ : St) _
  rw [m52_l2] at hr
  refine at_seq (s_sr (s_mv rfl (at_lt (lt_fieldAddr 3 rfl fld59_2 rfl) rfl (at_lt (lt_load_box 0 rfl ti57 rfl rfl rfl rfl rfl) rfl ?_))))
  refine at_inv 3 rfl (fun i1338 => ?_)
  have l1339 := slice_len i1338
  refine at_lt (lt_flen 3 rfl rfl und57) rfl (at_lt (lt_lss rfl rfl) rfl (s_nt ?_))
  by_cases h1340 : x1334 < a0.Subs.length
  ·replace hr := ipos h1340 hr
   refine at_true rfl (decide_eq_true (by omega)) ?_
   refine at_skip (at_then (at_seq (at_block (s_sr (s_mv rfl (at_lt (lt_fieldAddr 3 rfl fld59_2 rfl) rfl (at_lt (lt_load_box 0 rfl ti57 rfl rfl rfl rfl rfl) rfl (s_mv rfl ?_))))))))
   replace hr := obind hr
   obtain ⟨x1341, h1342, hr⟩ := hr
   have := (List.getElem?_eq_some_iff.1 h1342).1
   refine at_elem 3 rfl (nat_at' h1342) (fun p1343 ec pa1344 => ?_)
   refine at_open (A := Unit) 0 rfl _ _ (fun F w h => op67 h) ?_
   rintro _ rfl
   refine at_lt (lt_idx rfl rfl pa1344 und57 ti67) rfl (at_lt (lt_fieldAddr 0 rfl fld67_0 rfl) rfl (at_lt (lt_load_peek 2 rfl ti5 rfl rfl rfl rfl rfl) rfl (at_hv rfl ?_)))
   refine hv_bslice (cs := [.int .u8 (x1341.Code.toNat : Int)]) rfl und48 ti5 rfl rfl rfl rfl rfl (fun s1345 => ?_)
   refine at_hv rfl (lt_bstr 0 [x1341.Code] rfl rfl rfl und48 und5 und9 rfl ?_)
   replace hr := imust hr
   obtain ⟨h1346, hr⟩ := hr
   refine at_lt (lt_sadd rfl rfl h1346) rfl ?_
   replace hr := imust hr
   obtain ⟨h1347, hr⟩ := hr
   refine at_lt (lt_sadd rfl rfl h1347) rfl ?_
   replace hr := imust hr
   obtain ⟨h1348, hr⟩ := hr
   refine at_lt (lt_sadd rfl rfl h1348) rfl (s_as rfl (s_ntsr (at_lt (lt_fieldAddr 3 rfl fld59_2 rfl) rfl (at_lt (lt_load_box 0 rfl ti57 rfl rfl rfl rfl rfl) rfl (s_mv rfl ?_)))))
   replace hr := obind hr
   obtain ⟨x1349, h1350, hr⟩ := hr
   have := (List.getElem?_eq_some_iff.1 h1350).1
   refine at_elem 6 rfl (nat_at' h1350) (fun p1351 ec pa1352 => ?_)
   refine at_open (A := Unit) 0 rfl _ _ (fun F w h => op67 h) ?_
   rintro _ rfl
   refine at_lt (lt_idx rfl rfl pa1352 und57 ti67) rfl (at_lt (lt_fieldAddr 1 rfl fld67_1 rfl) rfl (at_lt (lt_load_peek 2 rfl ti9 rfl rfl rfl rfl rfl) rfl (s_as rfl (s_ntsr (s_as rfl (s_nt ?_))))))
   refine at_str (x1333 ++ (([32, 36] : Str) ++ ([x1341.Code] : Str) ++ ([32] : Str))) (by rw [List.length_append]; exact h1348) ?_
   refine at_int .i64 0 (by simp only [lo, hi]; omega) ?_
   replace hr := obind hr
   obtain ⟨x1355, hl1356, hr⟩ := hr
   refine at_cut (V := Unit) (fun e => (⟨[(1, .pointer (some (Addr.add ⟨b1307, 0, none⟩ 0))), (3, str x1355), (6, .int .i64 (x1334 : Int))], [⟨b1307, [str a0.Tag, .int .u8 (a0.Ind_0.toNat : Int), .int .u8 (a0.Ind_1.toNat : Int), s1306], 59⟩], [], [(Ty.str.fact x1355 [str x1355]), ((Ty.int .i64).fact (x1334 : Int) [.int .i64 (x1334 : Int)]), (Ty.str.fact a0.Tag [str a0.Tag]), ((Ty.slice ty67).fact a0.Subs [s1306])]⟩ : St)) ?_ ?_
   ·refine at_block ?_
    refine at_loopW (σ := (Str × Nat)) (V := Unit) (r := x1355) (fun n s => m52_l3 x1349 n s.1 s.2) (fun s e => (⟨[(1, .pointer (some (Addr.add ⟨b1307, 0, none⟩ 0))), (3, str s.1), (6, .int .i64 (x1334 : Int)), (7, str x1349.Value), (8, .int .i64 (s.2 : Int))], [⟨b1307, [str a0.Tag, .int .u8 (a0.Ind_0.toNat : Int), .int .u8 (a0.Ind_1.toNat : Int), s1306], 59⟩], [], [(Ty.str.fact s.1 [str s.1]), ((Ty.int .i64).fact (s.2 : Int) [.int .i64 (s.2 : Int)]), ((Ty.int .i64).fact (x1334 : Int) [.int .i64 (x1334 : Int)]), (Ty.str.fact x1349.Value [str x1349.Value]), (Ty.str.fact a0.Tag [str a0.Tag]), ((Ty.slice ty67).fact a0.Subs [s1306])]⟩ : St)) (fun _ => rfl) _ (x1333 ++ (([32, 36] : Str) ++ ([x1341.Code] : Str) ++ ([32] : Str)), 0) () hl1356 ⟨⟨rfl, ⟨rfl, ⟨rfl, ⟨rfl, ⟨rfl, trivial⟩⟩⟩⟩⟩, ⟨[true], rfl⟩, ⟨[false], rfl⟩, ⟨[1, 0, 9, 2, 10, 11], rfl⟩⟩ ?_
    clear hr hl1356
    intro n s hr e
    obtain ⟨x1353, x1354⟩ := s
    skip
    change m52_l3 x1349 (n + 1) x1353 x1354 = some x1355 at hr
    change At _ _ (⟨[(1, .pointer (some (Addr.add ⟨b1307, 0, none⟩ 0))), (3, str x1353), (6, .int .i64 (x1334 : Int)), (7, str x1349.Value), (8, .int .i64 (x1354 : Int))], [⟨b1307, [str a0.Tag, .int .u8 (a0.Ind_0.toNat : Int), .int .u8 (a0.Ind_1.toNat : Int), s1306], 59⟩], [], [(Ty.str.fact x1353 [str x1353]), ((Ty.int .i64).fact (x1354 : Int) [.int .i64 (x1354 : Int)]), ((Ty.int .i64).fact (x1334 : Int) [.int .i64 (x1334 : Int)]), (Ty.str.fact x1349.Value [str x1349.Value]), (Ty.str.fact a0.Tag [str a0.Tag]), ((Ty.slice ty67).fact a0.Subs [s1306])]⟩ : St) _
    rw [m52_l3] at hr
    refine at_seq (s_sr (s_mv rfl (s_mv rfl ?_)))
    refine at_inv 3 rfl (fun l1358 => ?_)
    replace l1358 : x1349.Value.length ≤ 9223372036854775807 := l1358
    refine at_lt (lt_slen rfl und9) rfl (at_lt (lt_lss rfl rfl) rfl (s_nt ?_))
    by_cases h1359 : x1354 < x1349.Value.length
    ·replace hr := ipos h1359 hr
     refine at_true rfl (decide_eq_true (by omega)) ?_
     refine at_skip (at_then (at_seq (at_block (at_seq (at_seq ?_)))))
     replace hr := obind hr
     obtain ⟨x1360, hc1361, hr⟩ := hr
     refine at_cutR1 (V := Unit) (fun e => (⟨[(1, .pointer (some (Addr.add ⟨b1307, 0, none⟩ 0))), (3, str x1360), (6, .int .i64 (x1334 : Int)), (7, str x1349.Value), (8, .int .i64 (x1354 : Int))], [⟨b1307, [str a0.Tag, .int .u8 (a0.Ind_0.toNat : Int), .int .u8 (a0.Ind_1.toNat : Int), s1306], 59⟩], [], [(Ty.str.fact x1360 [str x1360]), ((Ty.int .i64).fact (x1334 : Int) [.int .i64 (x1334 : Int)]), (Ty.str.fact x1349.Value [str x1349.Value]), ((Ty.int .i64).fact (x1354 : Int) [.int .i64 (x1354 : Int)]), (Ty.str.fact a0.Tag [str a0.Tag]), ((Ty.slice ty67).fact a0.Subs [s1306])]⟩ : St)) ?_ ?_
     ·clear hr
      have hr := hc1361
      clear hc1361
      refine at_region (s_mv rfl (s_mv rfl ?_))
      replace hr := obind hr
      obtain ⟨c1362, h1363, hr⟩ := hr
      have := (List.getElem?_eq_some_iff.1 h1363).1
      have := c1362.toNat_lt
      refine at_lt (lt_sidx rfl rfl und9 (by omega) (nat_at h1363)) rfl ?_
      refine at_lt (lt_eql rfl rfl) rfl (s_mv rfl ?_)
      by_cases h1364 : c1362.toNat = 36
      ·replace hr := ipos h1364 hr
       refine at_off rfl rfl (decide_eq_true (by omega)) rfl ?_
       refine at_off rfl rfl (decide_eq_true (by omega)) rfl ?_
       refine at_off rfl rfl (decide_eq_true (by omega)) rfl ?_
       refine at_off rfl rfl (decide_eq_true (by omega)) rfl ?_
       refine at_lt (lt_pick true rfl (decide_eq_true (by omega)) rfl) rfl ?_
       refine s_nt (at_true rfl rfl (at_region (s_mv rfl ?_)))
       replace hr := imust hr
       obtain ⟨h1365, hr⟩ := hr
       refine at_lt (lt_sadd rfl rfl h1365) rfl (s_as rfl (at_nil ?_))
       have hq := oinj hr
       clear hr
       subst hq
       refine at_str (x1353 ++ ([92] : Str)) (by rw [List.length_append]; exact h1365) ?_
       exact at_leaf () ⟨⟨rfl, ⟨rfl, ⟨rfl, ⟨rfl, ⟨rfl, trivial⟩⟩⟩⟩⟩, ⟨[true], rfl⟩, ⟨[], rfl⟩, ⟨[0, 3, 4, 2, 5, 6], rfl⟩⟩
      replace hr := ineg h1364 hr
      refine at_on rfl rfl (decide_eq_false (by omega)) ?_
      refine s_mv rfl ?_
      refine at_on rfl rfl (decide_eq_false (by omega)) ?_
      refine s_mv rfl ?_
      replace hr := obind hr
      obtain ⟨c1366, h1367, hr⟩ := hr
      have := (List.getElem?_eq_some_iff.1 h1367).1
      have := c1366.toNat_lt
      refine at_on rfl rfl (decide_eq_false (by omega)) ?_
      refine at_lt (lt_sidx rfl rfl und9 (by omega) (nat_at h1367)) rfl ?_
      refine at_on rfl rfl (decide_eq_false (by omega)) ?_
      refine at_lt (lt_eql rfl rfl) rfl ?_
      refine at_lt (lt_pick false rfl (decide_eq_false (by omega)) rfl) rfl ?_
      refine s_nt ?_
      by_cases h1368 : c1366.toNat = 92
      ·replace hr := ipos h1368 hr
       refine at_true rfl (decide_eq_true (by omega)) ?_
       refine at_region (s_mv rfl ?_)
       replace hr := imust hr
       obtain ⟨h1369, hr⟩ := hr
       refine at_lt (lt_sadd rfl rfl h1369) rfl (s_as rfl (at_nil ?_))
       have hq := oinj hr
       clear hr
       subst hq
       refine at_str (x1353 ++ ([92] : Str)) (by rw [List.length_append]; exact h1369) ?_
       exact at_leaf () ⟨⟨rfl, ⟨rfl, ⟨rfl, ⟨rfl, ⟨rfl, trivial⟩⟩⟩⟩⟩, ⟨[true], rfl⟩, ⟨[], rfl⟩, ⟨[0, 3, 4, 2, 5, 6], rfl⟩⟩
      replace hr := ineg h1368 hr
      refine at_false rfl (decide_eq_false (by omega)) ?_
      refine at_skip ?_
      have hq := oinj hr
      clear hr
      subst hq
      exact at_leaf () ⟨⟨rfl, ⟨rfl, ⟨rfl, ⟨rfl, ⟨rfl, trivial⟩⟩⟩⟩⟩, ⟨[true], rfl⟩, ⟨[], rfl⟩, ⟨[0, 2, 3, 1, 4, 5], rfl⟩⟩
     clear hc1361
     intro _
     change At _ _ (⟨[(1, .pointer (some (Addr.add ⟨b1307, 0, none⟩ 0))), (3, str x1360), (6, .int .i64 (x1334 : Int)), (7, str x1349.Value), (8, .int .i64 (x1354 : Int))], [⟨b1307, [str a0.Tag, .int .u8 (a0.Ind_0.toNat : Int), .int .u8 (a0.Ind_1.toNat : Int), s1306], 59⟩], [], [(Ty.str.fact x1360 [str x1360]), ((Ty.int .i64).fact (x1334 : Int) [.int .i64 (x1334 : Int)]), (Ty.str.fact x1349.Value [str x1349.Value]), ((Ty.int .i64).fact (x1354 : Int) [.int .i64 (x1354 : Int)]), (Ty.str.fact a0.Tag [str a0.Tag]), ((Ty.slice ty67).fact a0.Subs [s1306])]⟩ : St) _
     refine s_tr (s_mv rfl (s_mv rfl (s_mv rfl (s_mv rfl ?_))))
     refine at_inv 4 rfl (fun l1370 => ?_)
     replace l1370 : a0.Tag.length ≤ 9223372036854775807 := l1370
     refine at_lt (lt_add rfl rfl (by simp only [lo, hi]; omega)) rfl ?_
     replace hr := imust hr
     obtain ⟨h1371, hr⟩ := hr
     refine at_lt (lt_scut_lh x1354 (x1354 + 1) rfl rfl rfl (by omega) (by omega) und9 (by omega) (by omega)) rfl ?_
     replace hr := imust hr
     obtain ⟨h1372, hr⟩ := hr
     refine at_lt (lt_sadd rfl rfl h1372) rfl (s_as rfl (at_nil (at_in (s_tr (s_mv rfl ?_)))))
     refine at_inv 0 rfl (fun l1373 => ?_)
     replace l1373 : x1360.length ≤ 9223372036854775807 := l1373
     refine at_lt (lt_add rfl rfl (by simp only [lo, hi]; omega)) rfl (s_as rfl (at_nil ?_))
     refine at_str (x1360 ++ ((x1349.Value.take (x1354 + 1)).drop x1354)) (by rw [List.length_append]; exact h1372) ?_
     refine at_int .i64 (x1354 + 1 : Int) (by simp only [lo, hi]; omega) ?_
     exact at_again (σ := (Str × Nat)) (V := Unit) (lp := fun n s => m52_l3 x1349 n s.1 s.2) (S := fun s e => (⟨[(1, .pointer (some (Addr.add ⟨b1307, 0, none⟩ 0))), (3, str s.1), (6, .int .i64 (x1334 : Int)), (7, str x1349.Value), (8, .int .i64 (s.2 : Int))], [⟨b1307, [str a0.Tag, .int .u8 (a0.Ind_0.toNat : Int), .int .u8 (a0.Ind_1.toNat : Int), s1306], 59⟩], [], [(Ty.str.fact s.1 [str s.1]), ((Ty.int .i64).fact (s.2 : Int) [.int .i64 (s.2 : Int)]), ((Ty.int .i64).fact (x1334 : Int) [.int .i64 (x1334 : Int)]), (Ty.str.fact x1349.Value [str x1349.Value]), (Ty.str.fact a0.Tag [str a0.Tag]), ((Ty.slice ty67).fact a0.Subs [s1306])]⟩ : St)) (x1360 ++ ((x1349.Value.take (x1354 + 1)).drop x1354), x1354 + 1) () hr ⟨⟨rfl, ⟨rfl, ⟨rfl, ⟨rfl, ⟨rfl, trivial⟩⟩⟩⟩⟩, ⟨[true], rfl⟩, ⟨[], rfl⟩, ⟨[1, 0, 3, 4, 6, 7], rfl⟩⟩
    replace hr := ineg h1359 hr
    refine at_false rfl (decide_eq_false (by omega)) ?_
    refine at_exit (at_then_exit (at_then_exit (at_in_exit ?_)))
    have hq := oinj hr
    clear hr
    subst hq
    exact at_leaf () ⟨⟨rfl, ⟨rfl, ⟨rfl, trivial⟩⟩⟩, ⟨[true], rfl⟩, ⟨[], rfl⟩, ⟨[0, 2, 4, 5], rfl⟩⟩
   clear hl1356
   intro e
   change At _ _ (⟨[(1, .pointer (some (Addr.add ⟨b1307, 0, none⟩ 0))), (3, str x1355), (6, .int .i64 (x1334 : Int))], [⟨b1307, [str a0.Tag, .int .u8 (a0.Ind_0.toNat : Int), .int .u8 (a0.Ind_1.toNat : Int), s1306], 59⟩], [], [(Ty.str.fact x1355 [str x1355]), ((Ty.int .i64).fact (x1334 : Int) [.int .i64 (x1334 : Int)]), (Ty.str.fact a0.Tag [str a0.Tag]), ((Ty.slice ty67).fact a0.Subs [s1306])]⟩ : St) _
   refine at_in (s_tr (s_mv rfl ?_))
   refine at_inv 2 rfl (fun l1374 => ?_)
   replace l1374 : a0.Tag.length ≤ 9223372036854775807 := l1374
   refine at_lt (lt_add rfl rfl (by simp only [lo, hi]; omega)) rfl (s_as rfl (at_nil (at_int .i64 (x1334 + 1 : Int) (by simp only [lo, hi]; omega) ?_)))
   exact at_again (σ := (Str × Nat)) (V := Unit) (lp := fun n s => m52_l2 a0 n s.1 s.2) (S := fun s e => (⟨[(1, .pointer (some (Addr.add ⟨b1307, 0, none⟩ 0))), (3, str s.1), (6, .int .i64 (s.2 : Int))], [⟨b1307, [str a0.Tag, .int .u8 (a0.Ind_0.toNat : Int), .int .u8 (a0.Ind_1.toNat : Int), s1306], 59⟩], [], [(Ty.str.fact s.1 [str s.1]), ((Ty.int .i64).fact (s.2 : Int) [.int .i64 (s.2 : Int)]), (Ty.str.fact a0.Tag [str a0.Tag]), ((Ty.slice ty67).fact a0.Subs [s1306])]⟩ : St)) (x1355, x1334 + 1) () hr ⟨⟨rfl, ⟨rfl, ⟨rfl, trivial⟩⟩⟩, ⟨[true], rfl⟩, ⟨[], rfl⟩, ⟨[1, 0, 3, 4], rfl⟩⟩
  replace hr := ineg h1340 hr
  refine at_false rfl (decide_eq_false (by omega)) ?_
  refine at_exit (at_then_exit (at_then_exit (at_in_exit ?_)))
  have hq := oinj hr
  clear hr
  subst hq
  exact at_leaf () ⟨⟨rfl, trivial⟩, ⟨[false], rfl⟩, ⟨[], rfl⟩, ⟨[0], rfl⟩⟩
 clear hl1336
 intro e
 change At _ _ (⟨[(3, str x1335)], [], [], [(Ty.str.fact x1335 [str x1335])]⟩ : St) _
 refine s_tsr (s_mv rfl (s_as rfl (s_nt (at_ret ?_))))
 have hq := oinj hr
 clear hr
 subst hq
 exact at_return (str x1335) [0] hS Tryz.results52 (.cons (.tmp rfl) .nil) rfl rfl ⟨rfl, rfl⟩
def m14_l1 (a0 : D_api_Record) : Nat → Str → Nat → Option Str
  | 0, _, _ => none
  | k + 1, x1385, x1386 =>
    if x1386 < a0.Fields.length then
     (a0.Fields[x1386]?).bind fun x1393 =>
     (m52 x1393).bind fun x1398 =>
     if x1398.length + ([10] : Str).length ≤ 9223372036854775807 then
      if x1385.length + (x1398 ++ ([10] : Str)).length ≤ 9223372036854775807 then
       m14_l1 a0 k (x1385 ++ (x1398 ++ ([10] : Str))) (x1386 + 1)
      else none
     else none
    else
     some x1385
def m14 (a0 : D_api_Record) : Option (Str × Int) :=
  (m27 (⟨a0.ID, a0.Fields⟩ : D_api_Record)).bind fun x1378 =>
  if x1378 = true then
   (m51 a0.ID).bind fun x1381 =>
   if ([114, 101, 99, 111, 114, 100, 32] : Str).length + x1381.length ≤ 9223372036854775807 then
    if (([114, 101, 99, 111, 114, 100, 32] : Str) ++ x1381).length + ([10] : Str).length ≤ 9223372036854775807 then
     (m14_l1 a0 (a0.Fields.length + 1) (([114, 101, 99, 111, 114, 100, 32] : Str) ++ x1381 ++ ([10] : Str)) 0).bind fun x1387 =>
     some (x1387, 0)
    else none
   else none
  else
   some (([] : Str), 1)
def post14 (r : (Str × Int)) (v : Value) (fs : List Fact) : Prop := v = .tuple #[str r.1, .int .i64 r.2] ∧ fs = [(Ty.str.fact r.1 [str r.1]), ((Ty.int .i64).fact r.2 [.int .i64 r.2])]
theorem en14 : Enters Tryz.prog 14 := ⟨_, Tryz.func14, by kernel_rfl, rfl⟩
theorem f14_spec {a0 : D_api_Record} {s1375 : Value} {r : (Str × Int)} (hr : m14 a0 = some r) : Spec Tryz.prog 14 [.agg #[.int .i64 a0.ID, s1375]] [(ty24.fact a0 [.int .i64 a0.ID, s1375])] (post14 r) := by
 refine spec_start (N := 31) Tryz.func14 (by kernel_rfl) rfl rfl rfl ?_
 intro g hS
 unfold m14 at hr
 refine at_open (A := Unit) 0 rfl (fun _ => True) (fun _ => [((Ty.int .i64).fact a0.ID [.int .i64 a0.ID]), ((Ty.slice ty59).fact a0.Fields [s1375])]) (fun F w h => ⟨(), trivial, ex24 h⟩) (fun _ _ => ?_)
 refine at_inv 0 rfl (fun l1376 => ?_)
 replace l1376 : (-9223372036854775808) ≤ a0.ID ∧ a0.ID ≤ 9223372036854775807 := l1376
 refine s_sr (at_hv rfl ?_)
 refine hv_box (cs := [.int .i64 a0.ID, s1375]) rfl rfl rfl (fun b1377 => ?_)
 refine s_as rfl (s_as rfl (s_nt (at_seq (s_sr (at_lt (lt_load_box 0 rfl ti24 rfl rfl rfl rfl rfl) rfl ?_)))))
 replace hr := obind hr
 obtain ⟨x1378, h1379, hr⟩ := hr
 refine at_derive [0, 1] (ty24.fact (⟨a0.ID, a0.Fields⟩ : D_api_Record) [.int .i64 a0.ID, s1375]) rfl (fun F w h => mk24 (x := (⟨a0.ID, a0.Fields⟩ : D_api_Record)) h) ?_
 refine at_hv rfl (hv_call0 [0] (f27_spec h1379) rfl rfl rfl rfl ?_)
 rintro _ _ ⟨rfl, rfl⟩
 refine at_lt (lt_not rfl) rfl (s_nt ?_)
 by_cases h1380 : x1378 = true
 ·replace hr := ipos h1380 hr
  refine at_false rfl (nt h1380) (at_skip (s_tsr (at_lt (lt_fieldAddr 0 rfl fld24_0 rfl) rfl (at_lt (lt_load_box 0 rfl ti3 rfl rfl rfl rfl rfl) rfl ?_))))
  replace hr := obind hr
  obtain ⟨x1381, h1382, hr⟩ := hr
  refine at_hv rfl (hv_call0 [1] (f51_spec h1382) rfl rfl rfl rfl ?_)
  rintro _ _ ⟨rfl, rfl⟩
  replace hr := imust hr
  obtain ⟨h1383, hr⟩ := hr
  refine at_lt (lt_sadd rfl rfl h1383) rfl ?_
  replace hr := imust hr
  obtain ⟨h1384, hr⟩ := hr
  refine at_lt (lt_sadd rfl rfl h1384) rfl (s_as rfl (s_nt (at_seq (s_sr (s_as rfl (s_nt ?_))))))
  refine at_str (([114, 101, 99, 111, 114, 100, 32] : Str) ++ x1381 ++ ([10] : Str)) (by rw [List.length_append]; exact h1384) ?_
  refine at_int .i64 0 (by simp only [lo, hi]; omega) ?_
  replace hr := obind hr
  obtain ⟨x1387, hl1388, hr⟩ := hr
  refine at_cut (V := Unit) (fun e => (⟨[(4, str x1387)], [], [], [(Ty.str.fact x1387 [str x1387])]⟩ : St)) ?_ ?_
  ·refine at_block ?_
   refine at_loopW (σ := (Str × Nat)) (V := Unit) (r := x1387) (fun n s => m14_l1 a0 n s.1 s.2) (fun s e => (⟨[(1, .pointer (some (Addr.add ⟨b1377, 0, none⟩ 0))), (4, str s.1), (5, .int .i64 (s.2 : Int))], [⟨b1377, [.int .i64 a0.ID, s1375], 24⟩], [], [(Ty.str.fact s.1 [str s.1]), ((Ty.int .i64).fact (s.2 : Int) [.int .i64 (s.2 : Int)]), ((Ty.int .i64).fact a0.ID [.int .i64 a0.ID]), ((Ty.slice ty59).fact a0.Fields [s1375])]⟩ : St)) (fun _ => rfl) _ (([114, 101, 99, 111, 114, 100, 32] : Str) ++ x1381 ++ ([10] : Str), 0) () hl1388 ⟨⟨rfl, ⟨rfl, ⟨rfl, trivial⟩⟩⟩, ⟨[true], rfl⟩, ⟨[], rfl⟩, ⟨[1, 0, 4, 5], rfl⟩⟩ ?_
   clear hr hl1388
   intro n s hr e
   obtain ⟨x1385, x1386⟩ := s
   skip
   change m14_l1 a0 (n + 1) x1385 x1386 = some x1387 at hr
   change At _ _ (⟨[(1, .pointer (some (Addr.add ⟨b1377, 0, none⟩ 0))), (4, str x1385), (5, .int .i64 (x1386 : Int))], [⟨b1377, [.int .i64 a0.ID, s1375], 24⟩], [], [(Ty.str.fact x1385 [str x1385]), ((Ty.int .i64).fact (x1386 : Int) [.int .i64 (x1386 : Int)]), ((Ty.int .i64).fact a0.ID [.int .i64 a0.ID]), ((Ty.slice ty59).fact a0.Fields [s1375])]⟩ : St) _
   rw [m14_l1] at hr
   refine at_seq (s_sr (s_mv rfl (at_lt (lt_fieldAddr 1 rfl fld24_1 rfl) rfl (at_lt (lt_load_box 0 rfl ti22 rfl rfl rfl rfl rfl) rfl ?_))))
   refine at_inv 3 rfl (fun i1390 => ?_)
   have l1391 := slice_len i1390
   refine at_lt (lt_flen 3 rfl rfl und22) rfl (at_lt (lt_lss rfl rfl) rfl (s_nt ?_))
   by_cases h1392 : x1386 < a0.Fields.length
   ·replace hr := ipos h1392 hr
    refine at_true rfl (decide_eq_true (by omega)) ?_
    refine at_skip (at_then (at_seq (at_block (at_region (s_mv rfl (at_lt (lt_fieldAddr 1 rfl fld24_1 rfl) rfl (at_lt (lt_load_box 0 rfl ti22 rfl rfl rfl rfl rfl) rfl (s_mv rfl ?_))))))))
    replace hr := obind hr
    obtain ⟨x1393, h1394, hr⟩ := hr
    have := (List.getElem?_eq_some_iff.1 h1394).1
    refine at_elem 3 rfl (nat_at' h1394) (fun p1396 ec pa1397 => ?_)
    refine at_open (A := Value) 0 rfl _ _ (fun F w h => op59 h) ?_
    rintro s1395 rfl
    refine at_lt (lt_idx rfl rfl pa1397 und22 ti59) rfl (at_lt (lt_load_peek 3 rfl ti59 rfl rfl rfl rfl rfl) rfl ?_)
    replace hr := obind hr
    obtain ⟨x1398, h1399, hr⟩ := hr
    refine at_hv rfl (hv_call0 [2] (f52_spec h1399) rfl rfl rfl rfl ?_)
    rintro _ _ ⟨rfl, rfl⟩
    replace hr := imust hr
    obtain ⟨h1400, hr⟩ := hr
    refine at_lt (lt_sadd rfl rfl h1400) rfl ?_
    replace hr := imust hr
    obtain ⟨h1401, hr⟩ := hr
    refine at_lt (lt_sadd rfl rfl h1401) rfl (s_as rfl (at_nil (at_in (s_tr (s_mv rfl ?_)))))
    refine at_inv 0 rfl (fun l1402 => ?_)
    replace l1402 : x1398.length ≤ 9223372036854775807 := l1402
    refine at_inv 5 rfl (fun l1403 => ?_)
    replace l1403 : x1385.length ≤ 9223372036854775807 := l1403
    refine at_lt (lt_add rfl rfl (by simp only [lo, hi]; omega)) rfl (s_as rfl (at_nil ?_))
    refine at_str (x1385 ++ (x1398 ++ ([10] : Str))) (by rw [List.length_append]; exact h1401) ?_
    refine at_int .i64 (x1386 + 1 : Int) (by simp only [lo, hi]; omega) ?_
    exact at_again (σ := (Str × Nat)) (V := Unit) (lp := fun n s => m14_l1 a0 n s.1 s.2) (S := fun s e => (⟨[(1, .pointer (some (Addr.add ⟨b1377, 0, none⟩ 0))), (4, str s.1), (5, .int .i64 (s.2 : Int))], [⟨b1377, [.int .i64 a0.ID, s1375], 24⟩], [], [(Ty.str.fact s.1 [str s.1]), ((Ty.int .i64).fact (s.2 : Int) [.int .i64 (s.2 : Int)]), ((Ty.int .i64).fact a0.ID [.int .i64 a0.ID]), ((Ty.slice ty59).fact a0.Fields [s1375])]⟩ : St)) (x1385 ++ (x1398 ++ ([10] : Str)), x1386 + 1) () hr ⟨⟨rfl, ⟨rfl, ⟨rfl, trivial⟩⟩⟩, ⟨[true], rfl⟩, ⟨[], rfl⟩, ⟨[1, 0, 9, 10], rfl⟩⟩
   replace hr := ineg h1392 hr
   refine at_false rfl (decide_eq_false (by omega)) ?_
   refine at_exit (at_then_exit (at_then_exit (at_in_exit ?_)))
   have hq := oinj hr
   clear hr
   subst hq
   exact at_leaf () ⟨⟨rfl, trivial⟩, ⟨[false], rfl⟩, ⟨[], rfl⟩, ⟨[0], rfl⟩⟩
  clear hl1388
  intro e
  change At _ _ (⟨[(4, str x1387)], [], [], [(Ty.str.fact x1387 [str x1387])]⟩ : St) _
  refine s_tsr (s_mv rfl (s_as rfl (s_as rfl (s_nt (at_ret ?_)))))
  have hq := oinj hr
  clear hr
  subst hq
  refine at_int .i64 0 (by simp only [lo, hi]; omega) ?_
  exact at_return (.tuple #[str x1387, .int .i64 0]) [1, 0] hS Tryz.results14 (.cons (.tmp rfl) (.cons (.tmp rfl) .nil)) rfl rfl ⟨rfl, rfl⟩
 replace hr := ineg h1380 hr
 refine at_true rfl (nf (bf h1380)) (s_sr (s_as rfl (s_as rfl (s_nt (at_ret ?_)))))
 have hq := oinj hr
 clear hr
 subst hq
 refine at_then_ret ?_
 refine at_str ([] : Str) (by decide) ?_
 refine at_int .i64 1 (by simp only [lo, hi]; omega) ?_
 exact at_return (.tuple #[str ([] : Str), .int .i64 1]) [1, 0] hS Tryz.results14 (.cons (.tmp rfl) (.cons (.tmp rfl) .nil)) rfl rfl ⟨rfl, rfl⟩
def m18_l1 (a0 : Str) : Nat → (List Str) → Str → Nat → Option ((List Str) × Str)
  | 0, _, _, _ => none
  | k + 1, x1404, x1405, x1406 =>
    if x1406 < a0.length then
     (a0[x1406]?).bind fun c1420 =>
     if c1420.toNat = 10 then
      if x1404.length + 1 ≤ 8796093022208 then
       m18_l1 a0 k (x1404 ++ [x1405]) ([] : Str) (x1406 + 1)
      else none
     else
      if x1406 ≤ x1406 + 1 ∧ x1406 + 1 ≤ a0.length then
       if x1405.length + ((a0.take (x1406 + 1)).drop x1406).length ≤ 9223372036854775807 then
        m18_l1 a0 k x1404 (x1405 ++ ((a0.take (x1406 + 1)).drop x1406)) (x1406 + 1)
       else none
      else none
    else
     some (x1404, x1405)
def m18 (a0 : Str) : Option ((List Str) × Str) :=
  (m18_l1 a0 (a0.length + 1) ([] : (List Str)) ([] : Str) 0).bind fun (x1410, x1411) =>
  some (x1410, x1411)
def post18 (r : ((List Str) × Str)) (v : Value) (fs : List Fact) : Prop := ∃ s1431 : Value, v = .tuple #[s1431, str r.2] ∧ fs = [((Ty.slice Ty.str).fact r.1 [s1431]), (Ty.str.fact r.2 [str r.2])]
theorem en18 : Enters Tryz.prog 18 := ⟨_, Tryz.func18, by kernel_rfl, rfl⟩
theorem f18_spec {a0 : Str} {r : ((List Str) × Str)} (hr : m18 a0 = some r) : Spec Tryz.prog 18 [str a0] [(Ty.str.fact a0 [str a0])] (post18 r) := by
 refine spec_start (N := 28) Tryz.func18 (by kernel_rfl) rfl rfl rfl ?_
 intro g hS
 unfold m18 at hr
 refine s_sr (s_as rfl (s_as rfl (s_nt (at_seq (s_sr (s_as rfl (s_nt (at_rownew none 9 1 (at_rownil Ty.str ?_)))))))))
 refine at_mkpure (q := (([] : (List Str)).length * Ty.str.bytes ≤ 140737488355328)) (by simp only [List.nil_append, List.cons_append, List.length_cons, List.length_nil, Ty.int_bytes, Ty.u8_bytes, Ty.str_bytes, Ty.slice_bytes, Ty.bool_bytes, nb] <;> omega) ?_
 refine at_str ([] : Str) (by decide) ?_
 refine at_int .i64 0 (by simp only [lo, hi]; omega) ?_
 replace hr := obind hr
 obtain ⟨r1415, hl1416, hr⟩ := hr
 refine at_cut (V := Value × Nat × (List Value)) (fun e => (⟨[(2, e.1), (3, str r1415.2)], [], [⟨e.1, 9, 1, e.2.1, e.2.2⟩], [(Ty.str.row r1415.1 e.2.2), (pureF (r1415.1.length * Ty.str.bytes ≤ 140737488355328)), (Ty.str.fact r1415.2 [str r1415.2])]⟩ : St)) ?_ ?_
 ·refine at_block ?_
  refine at_loopW (σ := ((List Str) × Str × Nat)) (V := Value × Nat × (List Value)) (r := r1415) (fun n s => m18_l1 a0 n s.1 s.2.1 s.2.2) (fun s e => (⟨[(0, str a0), (2, e.1), (3, str s.2.1), (4, .int .i64 (s.2.2 : Int))], [], [⟨e.1, 9, 1, e.2.1, e.2.2⟩], [(Ty.str.row s.1 e.2.2), (pureF (s.1.length * Ty.str.bytes ≤ 140737488355328)), (Ty.str.fact s.2.1 [str s.2.1]), ((Ty.int .i64).fact (s.2.2 : Int) [.int .i64 (s.2.2 : Int)]), (Ty.str.fact a0 [str a0])]⟩ : St)) (fun _ => rfl) _ (([] : (List Str)), ([] : Str), 0) ((.slice none 0 0), 0, []) hl1416 ⟨⟨rfl, ⟨rfl, ⟨rfl, ⟨rfl, trivial⟩⟩⟩⟩, ⟨[], rfl⟩, ⟨[true], rfl⟩, ⟨[3, 2, 1, 0, 4], rfl⟩⟩ ?_
  clear hr hl1416
  intro n s hr e
  obtain ⟨x1404, x1405, x1406⟩ := s
  obtain ⟨v1407, n1408, i1409⟩ := e
  change m18_l1 a0 (n + 1) x1404 x1405 x1406 = some r1415 at hr
  change At _ _ (⟨[(0, str a0), (2, v1407), (3, str x1405), (4, .int .i64 (x1406 : Int))], [], [⟨v1407, 9, 1, n1408, i1409⟩], [(Ty.str.row x1404 i1409), (pureF (x1404.length * Ty.str.bytes ≤ 140737488355328)), (Ty.str.fact x1405 [str x1405]), ((Ty.int .i64).fact (x1406 : Int) [.int .i64 (x1406 : Int)]), (Ty.str.fact a0 [str a0])]⟩ : St) _
  rw [m18_l1] at hr
  refine at_seq (s_sr (s_mv rfl (s_mv rfl ?_)))
  refine at_inv 4 rfl (fun l1418 => ?_)
  replace l1418 : a0.length ≤ 9223372036854775807 := l1418
  refine at_lt (lt_slen rfl und9) rfl (at_lt (lt_lss rfl rfl) rfl (s_nt ?_))
  by_cases h1419 : x1406 < a0.length
  ·replace hr := ipos h1419 hr
   refine at_true rfl (decide_eq_true (by omega)) ?_
   refine at_skip (at_then (at_seq (at_block (at_seq (s_sr (s_mv rfl (s_mv rfl ?_)))))))
   replace hr := obind hr
   obtain ⟨c1420, h1421, hr⟩ := hr
   have := (List.getElem?_eq_some_iff.1 h1421).1
   have := c1420.toNat_lt
   refine at_lt (lt_sidx rfl rfl und9 (by omega) (nat_at h1421)) rfl ?_
   refine at_lt (lt_eql rfl rfl) rfl (s_nt ?_)
   by_cases h1422 : c1420.toNat = 10
   ·replace hr := ipos h1422 hr
    refine at_true rfl (decide_eq_true (by omega)) ?_
    refine s_sr (s_mv rfl (s_mv rfl (at_hv rfl ?_)))
    refine hv_bslice (cs := [str x1405]) rfl und34 ti9 rfl rfl rfl rfl rfl (fun s1423 => ?_)
    replace hr := imust hr
    obtain ⟨h1424, hr⟩ := hr
    refine at_rown 1 0 rfl rfl rfl (fun hn1426 => ?_)
    refine at_hv rfl ?_
    refine hv_append 1 0 rfl rfl rfl rfl und34 ti9 rfl rfl rfl (by omega) (by omega) rfl (fun s1425 => ?_)
    refine at_rowsnoc 0 2 rfl rfl (s_as rfl (s_ntsr (s_as rfl (s_nt (at_exit (at_then_exit (at_in_exit (s_tr (s_mv rfl ?_)))))))))
    refine at_lt (lt_add rfl rfl (by simp only [lo, hi]; omega)) rfl (s_as rfl (at_nil ?_))
    refine at_mkpure (q := ((x1404 ++ [x1405]).length * Ty.str.bytes ≤ 140737488355328)) (by simp only [List.length_append, List.length_cons, List.length_nil, Ty.int_bytes, Ty.u8_bytes, Ty.str_bytes, Ty.slice_bytes, Ty.bool_bytes, nb] <;> omega) ?_
    refine at_str ([] : Str) (by decide) ?_
    refine at_int .i64 (x1406 + 1 : Int) (by simp only [lo, hi]; omega) ?_
    exact at_again (σ := ((List Str) × Str × Nat)) (V := Value × Nat × (List Value)) (lp := fun n s => m18_l1 a0 n s.1 s.2.1 s.2.2) (S := fun s e => (⟨[(0, str a0), (2, e.1), (3, str s.2.1), (4, .int .i64 (s.2.2 : Int))], [], [⟨e.1, 9, 1, e.2.1, e.2.2⟩], [(Ty.str.row s.1 e.2.2), (pureF (s.1.length * Ty.str.bytes ≤ 140737488355328)), (Ty.str.fact s.2.1 [str s.2.1]), ((Ty.int .i64).fact (s.2.2 : Int) [.int .i64 (s.2.2 : Int)]), (Ty.str.fact a0 [str a0])]⟩ : St)) (x1404 ++ [x1405], ([] : Str), x1406 + 1) (s1425, n1408 + 1, i1409 ++ [str x1405]) hr ⟨⟨rfl, ⟨rfl, ⟨rfl, ⟨rfl, trivial⟩⟩⟩⟩, ⟨[], rfl⟩, ⟨[false, true], rfl⟩, ⟨[3, 2, 1, 0, 8], rfl⟩⟩
   replace hr := ineg h1422 hr
   refine at_false rfl (decide_eq_false (by omega)) ?_
   refine at_skip (s_tr (s_mv rfl (s_mv rfl (s_mv rfl (s_mv rfl (at_lt (lt_add rfl rfl (by simp only [lo, hi]; omega)) rfl ?_))))))
   replace hr := imust hr
   obtain ⟨h1427, hr⟩ := hr
   refine at_lt (lt_scut_lh x1406 (x1406 + 1) rfl rfl rfl (by omega) (by omega) und9 (by omega) (by omega)) rfl ?_
   replace hr := imust hr
   obtain ⟨h1428, hr⟩ := hr
   refine at_lt (lt_sadd rfl rfl h1428) rfl (s_as rfl (at_nil (at_in (s_tr (s_mv rfl ?_)))))
   refine at_inv 2 rfl (fun l1429 => ?_)
   replace l1429 : x1405.length ≤ 9223372036854775807 := l1429
   refine at_lt (lt_add rfl rfl (by simp only [lo, hi]; omega)) rfl (s_as rfl (at_nil ?_))
   refine at_str (x1405 ++ ((a0.take (x1406 + 1)).drop x1406)) (by rw [List.length_append]; exact h1428) ?_
   refine at_int .i64 (x1406 + 1 : Int) (by simp only [lo, hi]; omega) ?_
   exact at_again (σ := ((List Str) × Str × Nat)) (V := Value × Nat × (List Value)) (lp := fun n s => m18_l1 a0 n s.1 s.2.1 s.2.2) (S := fun s e => (⟨[(0, str a0), (2, e.1), (3, str s.2.1), (4, .int .i64 (s.2.2 : Int))], [], [⟨e.1, 9, 1, e.2.1, e.2.2⟩], [(Ty.str.row s.1 e.2.2), (pureF (s.1.length * Ty.str.bytes ≤ 140737488355328)), (Ty.str.fact s.2.1 [str s.2.1]), ((Ty.int .i64).fact (s.2.2 : Int) [.int .i64 (s.2.2 : Int)]), (Ty.str.fact a0 [str a0])]⟩ : St)) (x1404, x1405 ++ ((a0.take (x1406 + 1)).drop x1406), x1406 + 1) (v1407, n1408, i1409) hr ⟨⟨rfl, ⟨rfl, ⟨rfl, ⟨rfl, trivial⟩⟩⟩⟩, ⟨[], rfl⟩, ⟨[true], rfl⟩, ⟨[2, 3, 1, 0, 6], rfl⟩⟩
  replace hr := ineg h1419 hr
  refine at_false rfl (decide_eq_false (by omega)) ?_
  refine at_exit (at_then_exit (at_then_exit (at_in_exit ?_)))
  have hq := oinj hr
  clear hr
  subst hq
  exact at_leaf (v1407, n1408, i1409) ⟨⟨rfl, ⟨rfl, trivial⟩⟩, ⟨[], rfl⟩, ⟨[true], rfl⟩, ⟨[0, 1, 2], rfl⟩⟩
 clear hl1416
 obtain ⟨x1410, x1411⟩ := r1415
 intro e
 obtain ⟨v1412, n1413, i1414⟩ := e
 change At _ _ (⟨[(2, v1412), (3, str x1411)], [], [⟨v1412, 9, 1, n1413, i1414⟩], [(Ty.str.row x1410 i1414), (pureF (x1410.length * Ty.str.bytes ≤ 140737488355328)), (Ty.str.fact x1411 [str x1411])]⟩ : St) _
 refine s_tsr (s_mv rfl (s_mv rfl (s_as rfl (s_as rfl (s_nt (at_ret ?_))))))
 have hq := oinj hr
 clear hr
 subst hq
 refine at_pure 1 rfl (fun hb1430 => ?_)
 refine at_release 0 0 rfl rfl rfl hb1430 ?_
 exact at_return (.tuple #[v1412, str x1411]) [0, 3] hS Tryz.results18 (.cons (.tmp rfl) (.cons (.tmp rfl) .nil)) rfl rfl ⟨v1412, rfl, rfl⟩
def m57_l1 (a0 : Str) : Nat → Int → Nat → Option (Fl (Int × Bool) Int)
  | 0, _, _ => none
  | k + 1, x1433, x1434 =>
    if x1434 < a0.length then
     (a0[x1434]?).bind fun c1442 =>
     (m84 c1442).bind fun x1444 =>
     if x1444 = true then
      if 17 < x1434 then
       some (Fl.ret (0, false))
      else
       (a0[x1434]?).bind fun c1448 =>
       m57_l1 a0 k (IntKind.i64.wrap (IntKind.i64.wrap (10 * x1433) + ((w8 ((c1448.toNat : Int) - 48)).toNat : Int))) (x1434 + 1)
     else
      some (Fl.ret (0, false))
    else
     some (Fl.go x1433)
def m57 (a0 : Str) (a1 : Int) : Option (Int × Bool) :=
  (m57_l1 a0 (a0.length + 1) 0 0).bind fun r => match r with
  | .ret x => some x
  | .go x1435 =>
   if 0 < a0.length then
    if x1435 ≤ a1 then
     (a0[0]?).bind fun c1454 =>
     if c1454.toNat = 48 then
      some (x1435, decide (a0 = ([48] : Str)))
     else
      some (x1435, true)
    else
     some (x1435, false)
   else
    some (x1435, false)
def post57 (r : (Int × Bool)) (v : Value) (fs : List Fact) : Prop := v = .tuple #[.int .i64 r.1, .bool r.2] ∧ fs = [((Ty.int .i64).fact r.1 [.int .i64 r.1])]
theorem en57 : Enters Tryz.prog 57 := ⟨_, Tryz.func57, by kernel_rfl, rfl⟩
theorem f57_spec {a0 : Str} {a1 : Int} {r : (Int × Bool)} (hr : m57 a0 a1 = some r) : Spec Tryz.prog 57 [str a0, .int .i64 a1] [(Ty.str.fact a0 [str a0]), ((Ty.int .i64).fact a1 [.int .i64 a1])] (post57 r) := by
 refine spec_start (N := 49) Tryz.func57 (by kernel_rfl) rfl rfl rfl ?_
 intro g hS
 unfold m57 at hr
 refine at_inv 1 rfl (fun l1432 => ?_)
 replace l1432 : (-9223372036854775808) ≤ a1 ∧ a1 ≤ 9223372036854775807 := l1432
 refine s_sr (s_as rfl (s_as rfl (s_ntsr (s_as rfl (s_nt (at_seq (s_sr (s_as rfl (s_nt ?_)))))))))
 refine at_int .i64 0 (by simp only [lo, hi]; omega) ?_
 replace hr := obind hr
 obtain ⟨r1436, hl1437, hk1438⟩ := hr
 refine at_cutP (V := (Int) × (Unit)) (fun v => r1436 = Fl.go v.1) (fun v => (⟨[(0, str a0), (1, .int .i64 a1), (6, .int .i64 v.1)], [], [], [((Ty.int .i64).fact v.1 [.int .i64 v.1]), (Ty.str.fact a0 [str a0]), ((Ty.int .i64).fact a1 [.int .i64 a1])]⟩ : St)) ?_ ?_
 ·refine at_block ?_
  refine at_loopW (σ := (Int × Nat)) (V := Unit) (r := r1436) (fun n s => m57_l1 a0 n s.1 s.2) (fun s e => (⟨[(0, str a0), (1, .int .i64 a1), (6, .int .i64 s.1), (7, .int .i64 (s.2 : Int))], [], [], [((Ty.int .i64).fact s.1 [.int .i64 s.1]), ((Ty.int .i64).fact (s.2 : Int) [.int .i64 (s.2 : Int)]), (Ty.str.fact a0 [str a0]), ((Ty.int .i64).fact a1 [.int .i64 a1])]⟩ : St)) (fun _ => rfl) _ (0, 0) () hl1437 ⟨⟨rfl, ⟨rfl, ⟨rfl, ⟨rfl, trivial⟩⟩⟩⟩, ⟨[], rfl⟩, ⟨[], rfl⟩, ⟨[0, 0, 1, 2], rfl⟩⟩ ?_
  clear hl1437
  intro n s hr e
  obtain ⟨x1433, x1434⟩ := s
  skip
  change m57_l1 a0 (n + 1) x1433 x1434 = some r1436 at hr
  change At _ _ (⟨[(0, str a0), (1, .int .i64 a1), (6, .int .i64 x1433), (7, .int .i64 (x1434 : Int))], [], [], [((Ty.int .i64).fact x1433 [.int .i64 x1433]), ((Ty.int .i64).fact (x1434 : Int) [.int .i64 (x1434 : Int)]), (Ty.str.fact a0 [str a0]), ((Ty.int .i64).fact a1 [.int .i64 a1])]⟩ : St) _
  rw [m57_l1] at hr
  refine at_inv 0 rfl (fun l1439 => ?_)
  replace l1439 : (-9223372036854775808) ≤ x1433 ∧ x1433 ≤ 9223372036854775807 := l1439
  refine at_seq (s_sr (s_mv rfl (s_mv rfl ?_)))
  refine at_inv 2 rfl (fun l1440 => ?_)
  replace l1440 : a0.length ≤ 9223372036854775807 := l1440
  refine at_lt (lt_slen rfl und9) rfl (at_lt (lt_lss rfl rfl) rfl (s_nt ?_))
  by_cases h1441 : x1434 < a0.length
  ·replace hr := ipos h1441 hr
   refine at_true rfl (decide_eq_true (by omega)) ?_
   refine at_skip (at_then (at_seq (at_block (at_seq (s_sr (s_mv rfl (s_mv rfl ?_)))))))
   replace hr := obind hr
   obtain ⟨c1442, h1443, hr⟩ := hr
   have := (List.getElem?_eq_some_iff.1 h1443).1
   have := c1442.toNat_lt
   refine at_lt (lt_sidx rfl rfl und9 (by omega) (nat_at h1443)) rfl ?_
   replace hr := obind hr
   obtain ⟨x1444, h1445, hr⟩ := hr
   refine at_hv rfl (hv_call0 [] (f84_spec h1445) rfl rfl rfl rfl ?_)
   rintro _ _ ⟨rfl, rfl⟩
   refine at_lt (lt_not rfl) rfl (s_mv rfl ?_)
   by_cases h1446 : x1444 = true
   ·replace hr := ipos h1446 hr
    refine at_on rfl rfl (nt h1446) (s_mv rfl (at_on rfl rfl (nt h1446) (at_lt (lt_gtr rfl rfl) rfl (at_lt (lt_pick false rfl (nt h1446) rfl) rfl (s_nt ?_)))))
    by_cases h1447 : 17 < x1434
    ·replace hr := ipos h1447 hr
     refine at_true rfl (decide_eq_true (by omega)) ?_
     refine s_sr (s_as rfl (s_as rfl (s_nt (at_ret ?_))))
     have hq := oinj hr
     clear hr
     subst hq
     have hq := oinj hk1438
     clear hk1438
     subst hq
     refine at_then_ret (at_in_ret (at_then_ret (at_then_ret (at_in_ret (at_then_ret (at_then_ret (at_int .i64 0 (by simp only [lo, hi]; omega) ?_)))))))
     exact at_return (.tuple #[.int .i64 0, .bool false]) [0] hS Tryz.results57 (.cons (.tmp rfl) (.cons (.tmp rfl) .nil)) rfl rfl ⟨rfl, rfl⟩
    replace hr := ineg h1447 hr
    refine at_false rfl (decide_eq_false (by omega)) ?_
    refine at_skip (s_tr (s_mv rfl (at_lt (lt_mulw rfl rfl) rfl (s_mv rfl (s_mv rfl ?_)))))
    replace hr := obind hr
    obtain ⟨c1448, h1449, hr⟩ := hr
    have := (List.getElem?_eq_some_iff.1 h1449).1
    have := c1448.toNat_lt
    refine at_lt (lt_sidx rfl rfl und9 (by omega) (nat_at h1449)) rfl ?_
    refine at_lt (lt_u8 (lt_subw rfl rfl)) rfl (at_lt (lt_convint rfl (iso und5) und3 (u8_in_i64 (w8 ((c1448.toNat : Int) - 48)))) rfl (at_lt (lt_addw rfl rfl) rfl (s_as rfl (at_nil (at_in (s_tr (s_mv rfl (at_lt (lt_add rfl rfl (by simp only [lo, hi]; omega)) rfl (s_as rfl ?_)))))))))
    refine at_nil (at_int .i64 (IntKind.i64.wrap (IntKind.i64.wrap (10 * x1433) + ((w8 ((c1448.toNat : Int) - 48)).toNat : Int))) (wrap_bd .i64 _) (at_int .i64 (x1434 + 1 : Int) (by simp only [lo, hi]; omega) ?_))
    exact at_again (σ := (Int × Nat)) (V := Unit) (lp := fun n s => m57_l1 a0 n s.1 s.2) (S := fun s e => (⟨[(0, str a0), (1, .int .i64 a1), (6, .int .i64 s.1), (7, .int .i64 (s.2 : Int))], [], [], [((Ty.int .i64).fact s.1 [.int .i64 s.1]), ((Ty.int .i64).fact (s.2 : Int) [.int .i64 (s.2 : Int)]), (Ty.str.fact a0 [str a0]), ((Ty.int .i64).fact a1 [.int .i64 a1])]⟩ : St)) (IntKind.i64.wrap (IntKind.i64.wrap (10 * x1433) + ((w8 ((c1448.toNat : Int) - 48)).toNat : Int)), x1434 + 1) () hr ⟨⟨rfl, ⟨rfl, ⟨rfl, ⟨rfl, trivial⟩⟩⟩⟩, ⟨[], rfl⟩, ⟨[], rfl⟩, ⟨[1, 0, 4, 5], rfl⟩⟩
   replace hr := ineg h1446 hr
   refine at_off rfl rfl (nf (bf h1446)) rfl (at_off rfl rfl (nf (bf h1446)) rfl (at_lt (lt_pick true rfl (nf (bf h1446)) rfl) rfl (s_nt (at_true rfl rfl (s_sr (s_as rfl (s_as rfl (s_nt (at_ret ?_)))))))))
   have hq := oinj hr
   clear hr
   subst hq
   have hq := oinj hk1438
   clear hk1438
   subst hq
   refine at_then_ret (at_in_ret (at_then_ret (at_then_ret (at_in_ret (at_then_ret (at_then_ret (at_int .i64 0 (by simp only [lo, hi]; omega) ?_)))))))
   exact at_return (.tuple #[.int .i64 0, .bool false]) [0] hS Tryz.results57 (.cons (.tmp rfl) (.cons (.tmp rfl) .nil)) rfl rfl ⟨rfl, rfl⟩
  replace hr := ineg h1441 hr
  refine at_false rfl (decide_eq_false (by omega)) ?_
  refine at_exit (at_then_exit (at_then_exit (at_in_exit ?_)))
  have hq := oinj hr
  clear hr
  subst hq
  exact at_leafP (x1433, ()) rfl ⟨⟨rfl, ⟨rfl, ⟨rfl, trivial⟩⟩⟩, ⟨[], rfl⟩, ⟨[], rfl⟩, ⟨[0, 2, 3], rfl⟩⟩
 rintro ⟨x1435, _⟩ hp
 replace hr := hk1438
 subst hp
 clear hl1437
 change At _ _ (⟨[(0, str a0), (1, .int .i64 a1), (6, .int .i64 x1435)], [], [], [((Ty.int .i64).fact x1435 [.int .i64 x1435]), (Ty.str.fact a0 [str a0]), ((Ty.int .i64).fact a1 [.int .i64 a1])]⟩ : St) _
 refine at_inv 0 rfl (fun l1450 => ?_)
 replace l1450 : (-9223372036854775808) ≤ x1435 ∧ x1435 ≤ 9223372036854775807 := l1450
 refine s_tsr (s_mv rfl (s_mv rfl ?_))
 refine at_inv 1 rfl (fun l1451 => ?_)
 replace l1451 : a0.length ≤ 9223372036854775807 := l1451
 refine at_lt (lt_slen rfl und9) rfl (at_lt (lt_gtr rfl rfl) rfl (s_mv rfl ?_))
 by_cases h1452 : 0 < a0.length
 ·replace hr := ipos h1452 hr
  refine at_on rfl rfl (decide_eq_true (by omega)) ?_
  refine s_mv rfl ?_
  refine at_on rfl rfl (decide_eq_true (by omega)) ?_
  refine s_mv rfl ?_
  refine at_on rfl rfl (decide_eq_true (by omega)) ?_
  refine at_lt (lt_leq rfl rfl) rfl ?_
  refine at_lt (lt_pick true rfl (decide_eq_true (by omega)) rfl) rfl ?_
  refine s_mv rfl ?_
  by_cases h1453 : x1435 ≤ a1
  ·replace hr := ipos h1453 hr
   refine at_on rfl rfl (decide_eq_true (by first | exact h1453 | omega)) ?_
   refine s_mv rfl ?_
   replace hr := obind hr
   obtain ⟨c1454, h1455, hr⟩ := hr
   have := (List.getElem?_eq_some_iff.1 h1455).1
   have := c1454.toNat_lt
   refine at_on rfl rfl (decide_eq_true (by first | exact h1453 | omega)) ?_
   refine at_lt (lt_sidx rfl rfl und9 (by omega) h1455) rfl ?_
   refine at_on rfl rfl (decide_eq_true (by first | exact h1453 | omega)) ?_
   refine at_lt (lt_neq rfl rfl) rfl ?_
   refine at_on rfl rfl (decide_eq_true (by first | exact h1453 | omega)) ?_
   refine s_mv rfl ?_
   by_cases h1456 : c1454.toNat = 48
   ·replace hr := ipos h1456 hr
    refine at_on rfl rfl (nt (decide_eq_true (by omega))) ?_
    refine s_mv rfl ?_
    refine at_on rfl rfl (nt (decide_eq_true (by omega))) ?_
    refine at_lt (lt_seql rfl rfl) rfl ?_
    refine at_on rfl rfl (decide_eq_true (by first | exact h1453 | omega)) ?_
    refine at_lt (lt_pick false rfl (nt (decide_eq_true (by omega))) rfl) rfl ?_
    refine at_lt (lt_pick true rfl (decide_eq_true (by first | exact h1453 | omega)) rfl) rfl ?_
    refine s_as rfl (s_as rfl (s_nt (at_ret ?_)))
    have hq := oinj hr
    clear hr
    subst hq
    exact at_return (.tuple #[.int .i64 x1435, .bool (decide (a0 = ([48] : Str)))]) [0] hS Tryz.results57 (.cons (.tmp rfl) (.cons (.tmp rfl) .nil)) rfl rfl ⟨rfl, rfl⟩
   replace hr := ineg h1456 hr
   refine at_off rfl rfl (nf (decide_eq_false (by omega))) rfl ?_
   refine at_off rfl rfl (nf (decide_eq_false (by omega))) rfl ?_
   refine at_on rfl rfl (decide_eq_true (by first | exact h1453 | omega)) ?_
   refine at_lt (lt_pick true rfl (nf (decide_eq_false (by omega))) rfl) rfl ?_
   refine at_lt (lt_pick true rfl (decide_eq_true (by first | exact h1453 | omega)) rfl) rfl ?_
   refine s_as rfl (s_as rfl (s_nt (at_ret ?_)))
   have hq := oinj hr
   clear hr
   subst hq
   exact at_return (.tuple #[.int .i64 x1435, .bool true]) [0] hS Tryz.results57 (.cons (.tmp rfl) (.cons (.tmp rfl) .nil)) rfl rfl ⟨rfl, rfl⟩
  replace hr := ineg h1453 hr
  refine at_off rfl rfl (decide_eq_false (by first | exact h1453 | omega)) rfl ?_
  refine at_off rfl rfl (decide_eq_false (by first | exact h1453 | omega)) rfl ?_
  refine at_off rfl rfl (decide_eq_false (by first | exact h1453 | omega)) rfl ?_
  refine at_off rfl rfl (decide_eq_false (by first | exact h1453 | omega)) rfl ?_
  refine at_offu rfl rfl rfl (at_offu rfl rfl rfl ?_)
  refine at_off rfl rfl (decide_eq_false (by first | exact h1453 | omega)) rfl ?_
  refine at_lt (lt_pick false rfl (decide_eq_false (by first | exact h1453 | omega)) rfl) rfl ?_
  refine s_as rfl (s_as rfl (s_nt (at_ret ?_)))
  have hq := oinj hr
  clear hr
  subst hq
  exact at_return (.tuple #[.int .i64 x1435, .bool false]) [0] hS Tryz.results57 (.cons (.tmp rfl) (.cons (.tmp rfl) .nil)) rfl rfl ⟨rfl, rfl⟩
 replace hr := ineg h1452 hr
 refine at_off rfl rfl (decide_eq_false (by omega)) rfl ?_
 refine at_off rfl rfl (decide_eq_false (by omega)) rfl ?_
 refine at_off rfl rfl (decide_eq_false (by omega)) rfl ?_
 refine at_lt (lt_pick false rfl (decide_eq_false (by omega)) rfl) rfl ?_
 refine s_mv rfl (at_off rfl rfl rfl rfl (at_off rfl rfl rfl rfl (at_off rfl rfl rfl rfl (at_off rfl rfl rfl rfl (at_offu rfl rfl rfl (at_offu rfl rfl rfl (at_off rfl rfl rfl rfl (at_lt (lt_pick false rfl rfl rfl) rfl (s_as rfl ?_)))))))))
 refine s_as rfl (s_nt (at_ret ?_))
 have hq := oinj hr
 clear hr
 subst hq
 exact at_return (.tuple #[.int .i64 x1435, .bool false]) [0] hS Tryz.results57 (.cons (.tmp rfl) (.cons (.tmp rfl) .nil)) rfl rfl ⟨rfl, rfl⟩
def m113_l1 (a0 : Str) : Nat → (List Str) → Nat → Option (List Str)
  | 0, _, _ => none
  | k + 1, x1458, x1459 =>
    if x1459 < a0.length then
     Option.bind (α := Bool) (
      if x1459 + 1 < a0.length then
       (a0[x1459]?).bind fun c1474 =>
       if c1474.toNat = 32 then
        (a0[x1459 + 1]?).bind fun c1477 =>
        some (decide ((c1477.toNat : Int) = 36))
       else
        some false
      else
       some false
     ) fun x1471 =>
     if x1471 = true then
      if x1458.length + 1 ≤ 8796093022208 then
       if x1459 + 1 + 1 ≤ 9223372036854775807 then
        m113_l1 a0 k (x1458 ++ [([] : Str)]) (x1459 + 1 + 1)
       else none
      else none
     else
      (at? x1458 ((x1458.length : Int) - 1)).bind fun x1488 =>
      if x1459 ≤ x1459 + 1 ∧ x1459 + 1 ≤ a0.length then
       if x1488.length + ((a0.take (x1459 + 1)).drop x1459).length ≤ 9223372036854775807 then
        (at? x1458 ((x1458.length : Int) - 1)).bind fun x1499 =>
        m113_l1 a0 k (x1458.set ((x1458.length : Int) - 1).toNat (x1488 ++ ((a0.take (x1459 + 1)).drop x1459))) (x1459 + 1)
       else none
      else none
    else
     some x1458
def m113 (a0 : Str) : Option (List Str) :=
  (m113_l1 a0 (a0.length + 1) [([] : Str)] 0).bind fun x1463 =>
  some x1463
def post113 (r : (List Str)) (v : Value) (fs : List Fact) : Prop := ∃ s1510 : Value, v = s1510 ∧ fs = [((Ty.slice Ty.str).fact r [s1510])]
theorem en113 : Enters Tryz.prog 113 := ⟨_, Tryz.func113, by kernel_rfl, rfl⟩
theorem f113_spec {a0 : Str} {r : (List Str)} (hr : m113 a0 = some r) : Spec Tryz.prog 113 [str a0] [(Ty.str.fact a0 [str a0])] (post113 r) := by
 refine spec_start (N := 49) Tryz.func113 (by kernel_rfl) rfl rfl rfl ?_
 intro g hS
 unfold m113 at hr
 refine s_sr (s_as rfl (s_ntsr (at_hv rfl ?_)))
 refine hv_bslice (cs := [str ([] : Str)]) rfl und34 ti9 rfl rfl rfl rfl rfl (fun s1457 => ?_)
 refine s_as rfl (s_nt (at_seq (s_sr (s_as rfl (s_nt (at_rownil Ty.str ?_))))))
 refine at_str ([] : Str) (by decide) ?_
 refine at_rowsnoc 1 0 rfl rfl ?_
 refine at_mkpure (q := ([([] : Str)].length * Ty.str.bytes ≤ 140737488355328)) (by simp only [List.nil_append, List.cons_append, List.length_cons, List.length_nil, Ty.int_bytes, Ty.u8_bytes, Ty.str_bytes, Ty.slice_bytes, Ty.bool_bytes, nb] <;> omega) ?_
 refine at_int .i64 0 (by simp only [lo, hi]; omega) ?_
 replace hr := obind hr
 obtain ⟨x1463, hl1467, hr⟩ := hr
 refine at_cut (V := Value × Nat × (List Value)) (fun e => (⟨[(3, e.1)], [], [⟨e.1, 9, 1, e.2.1, e.2.2⟩], [(Ty.str.row x1463 e.2.2), (pureF (x1463.length * Ty.str.bytes ≤ 140737488355328))]⟩ : St)) ?_ ?_
 ·refine at_block ?_
  refine at_loopW (σ := ((List Str) × Nat)) (V := Value × Nat × (List Value)) (r := x1463) (fun n s => m113_l1 a0 n s.1 s.2) (fun s e => (⟨[(0, str a0), (3, e.1), (4, .int .i64 (s.2 : Int))], [], [⟨e.1, 9, 1, e.2.1, e.2.2⟩], [(Ty.str.row s.1 e.2.2), (pureF (s.1.length * Ty.str.bytes ≤ 140737488355328)), ((Ty.int .i64).fact (s.2 : Int) [.int .i64 (s.2 : Int)]), (Ty.str.fact a0 [str a0])]⟩ : St)) (fun _ => rfl) _ ([([] : Str)], 0) (s1457, 1, [str ([] : Str)]) hl1467 ⟨⟨rfl, ⟨rfl, ⟨rfl, trivial⟩⟩⟩, ⟨[], rfl⟩, ⟨[true], rfl⟩, ⟨[2, 1, 0, 5], rfl⟩⟩ ?_
  clear hr hl1467
  intro n s hr e
  obtain ⟨x1458, x1459⟩ := s
  obtain ⟨v1460, n1461, i1462⟩ := e
  change m113_l1 a0 (n + 1) x1458 x1459 = some x1463 at hr
  change At _ _ (⟨[(0, str a0), (3, v1460), (4, .int .i64 (x1459 : Int))], [], [⟨v1460, 9, 1, n1461, i1462⟩], [(Ty.str.row x1458 i1462), (pureF (x1458.length * Ty.str.bytes ≤ 140737488355328)), ((Ty.int .i64).fact (x1459 : Int) [.int .i64 (x1459 : Int)]), (Ty.str.fact a0 [str a0])]⟩ : St) _
  rw [m113_l1] at hr
  refine at_seq (s_sr (s_mv rfl (s_mv rfl ?_)))
  refine at_inv 3 rfl (fun l1469 => ?_)
  replace l1469 : a0.length ≤ 9223372036854775807 := l1469
  refine at_lt (lt_slen rfl und9) rfl (at_lt (lt_lss rfl rfl) rfl (s_nt ?_))
  by_cases h1470 : x1459 < a0.length
  ·replace hr := ipos h1470 hr
   refine at_true rfl (decide_eq_true (by omega)) ?_
   refine at_skip (at_then (at_seq (at_block (at_seq (at_seq ?_)))))
   replace hr := obind hr
   obtain ⟨x1471, hc1472, hr⟩ := hr
   refine at_cut (V := Unit) (fun e => (⟨[(0, str a0), (3, v1460), (4, .int .i64 (x1459 : Int)), (29, .bool x1471)], [], [⟨v1460, 9, 1, n1461, i1462⟩], [(Ty.str.fact a0 [str a0]), (Ty.str.row x1458 i1462), (pureF (x1458.length * Ty.str.bytes ≤ 140737488355328)), ((Ty.int .i64).fact (x1459 : Int) [.int .i64 (x1459 : Int)])]⟩ : St)) ?_ ?_
   ·clear hr
    have hr := hc1472
    clear hc1472
    refine at_region (s_mv rfl (at_lt (lt_add rfl rfl (by simp only [lo, hi]; omega)) rfl (s_mv rfl (at_lt (lt_slen rfl und9) rfl (at_lt (lt_lss rfl rfl) rfl (s_mv rfl ?_))))))
    by_cases h1473 : x1459 + 1 < a0.length
    ·replace hr := ipos h1473 hr
     refine at_on rfl rfl (decide_eq_true (by omega)) ?_
     refine s_mv rfl ?_
     refine at_on rfl rfl (decide_eq_true (by omega)) ?_
     refine s_mv rfl ?_
     replace hr := obind hr
     obtain ⟨c1474, h1475, hr⟩ := hr
     have := (List.getElem?_eq_some_iff.1 h1475).1
     have := c1474.toNat_lt
     refine at_on rfl rfl (decide_eq_true (by omega)) ?_
     refine at_lt (lt_sidx rfl rfl und9 (by omega) (nat_at h1475)) rfl ?_
     refine at_on rfl rfl (decide_eq_true (by omega)) ?_
     refine at_lt (lt_eql rfl rfl) rfl ?_
     refine at_lt (lt_pick true rfl (decide_eq_true (by omega)) rfl) rfl ?_
     refine s_mv rfl ?_
     by_cases h1476 : c1474.toNat = 32
     ·replace hr := ipos h1476 hr
      refine at_on rfl rfl (decide_eq_true (by omega)) ?_
      refine s_mv rfl ?_
      refine at_on rfl rfl (decide_eq_true (by omega)) ?_
      refine s_mv rfl ?_
      refine at_on rfl rfl (decide_eq_true (by omega)) ?_
      refine at_lt (lt_add rfl rfl (by simp only [lo, hi]; omega)) rfl ?_
      replace hr := obind hr
      obtain ⟨c1477, h1478, hr⟩ := hr
      have := (List.getElem?_eq_some_iff.1 h1478).1
      have := c1477.toNat_lt
      refine at_on rfl rfl (decide_eq_true (by omega)) ?_
      refine at_lt (lt_sidx rfl rfl und9 (by omega) (nat_at h1478)) rfl ?_
      refine at_on rfl rfl (decide_eq_true (by omega)) ?_
      refine at_lt (lt_eql rfl rfl) rfl ?_
      refine at_lt (lt_pick true rfl (decide_eq_true (by omega)) rfl) rfl ?_
      refine at_nil ?_
      have hq := oinj hr
      clear hr
      subst hq
      exact at_leaf () ⟨⟨rfl, ⟨rfl, ⟨rfl, ⟨rfl, trivial⟩⟩⟩⟩, ⟨[], rfl⟩, ⟨[true], rfl⟩, ⟨[3, 0, 1, 2], rfl⟩⟩
     replace hr := ineg h1476 hr
     refine at_off rfl rfl (decide_eq_false (by omega)) rfl ?_
     refine at_off rfl rfl (decide_eq_false (by omega)) rfl ?_
     refine at_off rfl rfl (decide_eq_false (by omega)) rfl ?_
     refine at_off rfl rfl (decide_eq_false (by omega)) rfl ?_
     refine at_off rfl rfl (decide_eq_false (by omega)) rfl ?_
     refine at_lt (lt_pick false rfl (decide_eq_false (by omega)) rfl) rfl ?_
     refine at_nil ?_
     have hq := oinj hr
     clear hr
     subst hq
     exact at_leaf () ⟨⟨rfl, ⟨rfl, ⟨rfl, ⟨rfl, trivial⟩⟩⟩⟩, ⟨[], rfl⟩, ⟨[true], rfl⟩, ⟨[3, 0, 1, 2], rfl⟩⟩
    replace hr := ineg h1473 hr
    refine at_off rfl rfl (decide_eq_false (by omega)) rfl ?_
    refine at_off rfl rfl (decide_eq_false (by omega)) rfl ?_
    refine at_off rfl rfl (decide_eq_false (by omega)) rfl ?_
    refine at_off rfl rfl (decide_eq_false (by omega)) rfl ?_
    refine at_lt (lt_pick false rfl (decide_eq_false (by omega)) rfl) rfl ?_
    refine s_mv rfl (at_off rfl rfl rfl rfl (at_off rfl rfl rfl rfl (at_off rfl rfl rfl rfl (at_off rfl rfl rfl rfl (at_off rfl rfl rfl rfl (at_lt (lt_pick false rfl rfl rfl) rfl (at_nil ?_)))))))
    have hq := oinj hr
    clear hr
    subst hq
    exact at_leaf () ⟨⟨rfl, ⟨rfl, ⟨rfl, ⟨rfl, trivial⟩⟩⟩⟩, ⟨[], rfl⟩, ⟨[true], rfl⟩, ⟨[3, 0, 1, 2], rfl⟩⟩
   clear hc1472
   intro _
   change At _ _ (⟨[(0, str a0), (3, v1460), (4, .int .i64 (x1459 : Int)), (29, .bool x1471)], [], [⟨v1460, 9, 1, n1461, i1462⟩], [(Ty.str.fact a0 [str a0]), (Ty.str.row x1458 i1462), (pureF (x1458.length * Ty.str.bytes ≤ 140737488355328)), ((Ty.int .i64).fact (x1459 : Int) [.int .i64 (x1459 : Int)])]⟩ : St) _
   refine at_then ?_
   by_cases h1479 : x1471 = true
   ·replace hr := ipos h1479 hr
    refine at_true rfl h1479 (s_sr (s_mv rfl (at_hv rfl ?_)))
    refine hv_bslice (cs := [str ([] : Str)]) rfl und34 ti9 rfl rfl rfl rfl rfl (fun s1480 => ?_)
    replace hr := imust hr
    obtain ⟨h1481, hr⟩ := hr
    refine at_str ([] : Str) (by decide) ?_
    refine at_rown 1 2 rfl rfl rfl (fun hn1483 => ?_)
    refine at_hv rfl ?_
    refine hv_append 1 0 rfl rfl rfl rfl und34 ti9 rfl rfl rfl (by omega) (by omega) rfl (fun s1482 => ?_)
    refine at_rowsnoc 2 0 rfl rfl (s_as rfl (s_ntsr (s_mv rfl (at_lt (lt_add rfl rfl (by simp only [lo, hi]; omega)) rfl (s_as rfl (s_nt (at_exit (at_then_exit (at_in_exit ?_)))))))))
    refine s_tr (s_mv rfl ?_)
    replace hr := imust hr
    obtain ⟨h1484, hr⟩ := hr
    refine at_lt (lt_add rfl rfl (by simp only [lo, hi]; omega)) rfl (s_as rfl (at_nil ?_))
    refine at_mkpure (q := ((x1458 ++ [([] : Str)]).length * Ty.str.bytes ≤ 140737488355328)) (by simp only [List.length_append, List.length_cons, List.length_nil, Ty.int_bytes, Ty.u8_bytes, Ty.str_bytes, Ty.slice_bytes, Ty.bool_bytes, nb] <;> omega) ?_
    refine at_int .i64 (x1459 + 1 + 1 : Int) (by simp only [lo, hi]; omega) ?_
    exact at_again (σ := ((List Str) × Nat)) (V := Value × Nat × (List Value)) (lp := fun n s => m113_l1 a0 n s.1 s.2) (S := fun s e => (⟨[(0, str a0), (3, e.1), (4, .int .i64 (s.2 : Int))], [], [⟨e.1, 9, 1, e.2.1, e.2.2⟩], [(Ty.str.row s.1 e.2.2), (pureF (s.1.length * Ty.str.bytes ≤ 140737488355328)), ((Ty.int .i64).fact (s.2 : Int) [.int .i64 (s.2 : Int)]), (Ty.str.fact a0 [str a0])]⟩ : St)) (x1458 ++ [([] : Str)], x1459 + 1 + 1) (s1482, n1461 + 1, i1462 ++ [str ([] : Str)]) hr ⟨⟨rfl, ⟨rfl, ⟨rfl, trivial⟩⟩⟩, ⟨[], rfl⟩, ⟨[false, true], rfl⟩, ⟨[2, 1, 0, 4], rfl⟩⟩
   replace hr := ineg h1479 hr
   refine at_false rfl (bf h1479) (at_skip (at_then ?_))
   refine at_pure 2 rfl (fun hb1487 => ?_)
   simp only [Ty.int_bytes, Ty.u8_bytes, Ty.str_bytes, Ty.slice_bytes, Ty.bool_bytes, nb] at hb1487
   refine at_rown 0 1 rfl rfl rfl (fun hn1485 => ?_)
   refine at_rowv 0 rfl (fun hv1486 => ?_)
   replace hr := obind hr
   obtain ⟨x1488, h1489, hr⟩ := hr
   have := at?_lt h1489
   refine at_rown 0 1 rfl rfl rfl (fun hn1491 => ?_)
   refine at_box 0 rfl (by omega) (fun b1492 q1493 n1494 hl1495 hf1496 => ?_)
   refine at_relem 1 q1493 rfl h1489 (fun ec he1490 => ?_)
   refine at_open (A := Unit) 0 rfl (fun _ => ec = [str x1488]) (fun _ => []) (fun F w h => ⟨(), h.1, by simp⟩) ?_
   rintro _ rfl
   replace hr := imust hr
   obtain ⟨h1497, hr⟩ := hr
   replace hr := imust hr
   obtain ⟨h1498, hr⟩ := hr
   replace hr := obind hr
   obtain ⟨x1499, h1500, hr⟩ := hr
   have := at?_lt h1500
   refine aa_start 13 (by kernel_rfl) ?_
   refine aa_p 0 rfl (lt_move rfl) (aa_p 1 rfl (lt_move rfl) (aa_p 2 rfl (lt_rlen rfl hv1486 und34 hn1485) (aa_p 3 rfl (lt_sub rfl rfl (by simp only [lo, hi]; omega)) ?_)))
   refine aa_p 4 rfl (lt_idx rfl rfl (ptrAt_of (ix := (x1458.length : Int) - 1) hf1496 (by omega) (by omega)) und34 ti9) ?_
   refine aa_l 5 rfl (lt_load_rb 0 rfl ti9 rfl he1490 rfl rfl rfl) (aa_p 6 rfl (lt_move rfl) (aa_p 7 rfl (lt_move rfl) (aa_p 8 rfl (lt_move rfl) (aa_p 9 rfl (lt_add rfl rfl (by simp only [lo, hi]; omega)) ?_))))
   refine aa_p 10 rfl (lt_scut_lh x1459 (x1459 + 1) rfl rfl rfl (by omega) (by omega) und9 (by omega) (by omega)) ?_
   refine aa_p 11 rfl (lt_sadd rfl rfl h1498) ?_
   refine aa_p 12 rfl (lt_idx rfl rfl (ptrAt_of (ix := (x1458.length : Int) - 1) hf1496 (by omega) (by omega)) und34 ti9) ?_
   refine aa_one 13 ?_
   refine at_pure 3 rfl (fun hb1505 => ?_)
   refine at_str (x1488 ++ ((a0.take (x1459 + 1)).drop x1459)) (by rw [List.length_append]; exact h1498) ?_
   refine aa_op rfl rfl ?_
   refine hv_store_rb 0 (k := ((x1458.length : Int) - 1).toNat * 1) (m := n1461 * 1) (cs := [str (x1488 ++ ((a0.take (x1459 + 1)).drop x1459))]) (inner' := (i1462.take (((x1458.length : Int) - 1).toNat * 1) ++ ([str (x1488 ++ ((a0.take (x1459 + 1)).drop x1459))] : List Value) ++ i1462.drop (((x1458.length : Int) - 1).toNat * 1 + 1))) rfl rfl ti9 rfl rfl rfl hl1495 (by omega) rfl rfl ?_
   have hl1506 : (i1462.take (((x1458.length : Int) - 1).toNat * 1) ++ ([str (x1488 ++ ((a0.take (x1459 + 1)).drop x1459))] : List Value) ++ i1462.drop (((x1458.length : Int) - 1).toNat * 1 + 1)).length = n1461 * 1 := rb_len (by simp only [List.length_cons, List.length_nil]; omega) hl1495
   have hf1507 := RowF.len hf1496 (l' := ((i1462.take (((x1458.length : Int) - 1).toNat * 1) ++ ([str (x1488 ++ ((a0.take (x1459 + 1)).drop x1459))] : List Value) ++ i1462.drop (((x1458.length : Int) - 1).toNat * 1 + 1)) ++ q1493).length) (by simp only [List.length_append, hl1506, hl1495])
   refine at_rowset (inner' := (i1462.take (((x1458.length : Int) - 1).toNat * 1) ++ ([str (x1488 ++ ((a0.take (x1459 + 1)).drop x1459))] : List Value) ++ i1462.drop (((x1458.length : Int) - 1).toNat * 1 + 1))) 3 0 ((x1458.length : Int) - 1).toNat rfl rfl (by omega) rfl ?_
   refine aa_done (by kernel_rfl) (ts_out rfl) ?_
   refine at_unbox (sz := 1) rfl hl1506 hf1507 (at_in (s_tr (s_mv rfl ?_)))
   refine at_inv 2 rfl (fun l1508 => ?_)
   replace l1508 : x1488.length ≤ 9223372036854775807 := l1508
   refine at_lt (lt_add rfl rfl (by simp only [lo, hi]; omega)) rfl (s_as rfl (at_nil ?_))
   refine at_mkpure (q := ((x1458.set ((x1458.length : Int) - 1).toNat (x1488 ++ ((a0.take (x1459 + 1)).drop x1459))).length * Ty.str.bytes ≤ 140737488355328)) (by rw [List.length_set]; exact hb1505) ?_
   refine at_int .i64 (x1459 + 1 : Int) (by simp only [lo, hi]; omega) ?_
   exact at_again (σ := ((List Str) × Nat)) (V := Value × Nat × (List Value)) (lp := fun n s => m113_l1 a0 n s.1 s.2) (S := fun s e => (⟨[(0, str a0), (3, e.1), (4, .int .i64 (s.2 : Int))], [], [⟨e.1, 9, 1, e.2.1, e.2.2⟩], [(Ty.str.row s.1 e.2.2), (pureF (s.1.length * Ty.str.bytes ≤ 140737488355328)), ((Ty.int .i64).fact (s.2 : Int) [.int .i64 (s.2 : Int)]), (Ty.str.fact a0 [str a0])]⟩ : St)) (x1458.set ((x1458.length : Int) - 1).toNat (x1488 ++ ((a0.take (x1459 + 1)).drop x1459)), x1459 + 1) (v1460, n1461, (i1462.take (((x1458.length : Int) - 1).toNat * 1) ++ ([str (x1488 ++ ((a0.take (x1459 + 1)).drop x1459))] : List Value) ++ i1462.drop (((x1458.length : Int) - 1).toNat * 1 + 1))) hr ⟨⟨rfl, ⟨rfl, ⟨rfl, trivial⟩⟩⟩, ⟨[], rfl⟩, ⟨[true], rfl⟩, ⟨[2, 1, 0, 5], rfl⟩⟩
  replace hr := ineg h1470 hr
  refine at_false rfl (decide_eq_false (by omega)) ?_
  refine at_exit (at_then_exit (at_then_exit (at_in_exit ?_)))
  have hq := oinj hr
  clear hr
  subst hq
  exact at_leaf (v1460, n1461, i1462) ⟨⟨rfl, trivial⟩, ⟨[], rfl⟩, ⟨[true], rfl⟩, ⟨[0, 1], rfl⟩⟩
 clear hl1467
 intro e
 obtain ⟨v1464, n1465, i1466⟩ := e
 change At _ _ (⟨[(3, v1464)], [], [⟨v1464, 9, 1, n1465, i1466⟩], [(Ty.str.row x1463 i1466), (pureF (x1463.length * Ty.str.bytes ≤ 140737488355328))]⟩ : St) _
 refine s_tsr (s_mv rfl (s_as rfl (s_nt (at_ret ?_))))
 have hq := oinj hr
 clear hr
 subst hq
 refine at_pure 1 rfl (fun hb1509 => ?_)
 refine at_release 0 0 rfl rfl rfl hb1509 ?_
 exact at_return (v1464) [0] hS Tryz.results113 (.cons (.tmp rfl) .nil) rfl rfl ⟨v1464, rfl, rfl⟩
def m114_l1 (a0 : Str) : Nat → Str → Nat → Option Str
  | 0, _, _ => none
  | k + 1, x1511, x1512 =>
    if x1512 < a0.length then
     Option.bind (α := Nat) (
      (a0[x1512]?).bind fun c1520 =>
      if c1520.toNat = 92 then
       if x1512 + 1 < a0.length then
        some (x1512 + 1)
       else
        some x1512
      else
       some x1512
     ) fun x1518 =>
     if x1518 + 1 ≤ 9223372036854775807 then
      if x1518 ≤ x1518 + 1 ∧ x1518 + 1 ≤ a0.length then
       if x1511.length + ((a0.take (x1518 + 1)).drop x1518).length ≤ 9223372036854775807 then
        m114_l1 a0 k (x1511 ++ ((a0.take (x1518 + 1)).drop x1518)) (x1518 + 1)
       else none
      else none
     else none
    else
     some x1511
def m114 (a0 : Str) : Option Str :=
  (m114_l1 a0 (a0.length + 1) ([] : Str) 0).bind fun x1513 =>
  some x1513
def post114 (r : Str) (v : Value) (fs : List Fact) : Prop := v = str r ∧ fs = [(Ty.str.fact r [str r])]
theorem en114 : Enters Tryz.prog 114 := ⟨_, Tryz.func114, by kernel_rfl, rfl⟩
theorem f114_spec {a0 : Str} {r : Str} (hr : m114 a0 = some r) : Spec Tryz.prog 114 [str a0] [(Ty.str.fact a0 [str a0])] (post114 r) := by
 refine spec_start (N := 32) Tryz.func114 (by kernel_rfl) rfl rfl rfl ?_
 intro g hS
 unfold m114 at hr
 refine s_sr (s_as rfl (s_ntsr (s_as rfl (s_nt (at_seq (s_sr (s_as rfl (s_nt ?_))))))))
 refine at_str ([] : Str) (by decide) ?_
 refine at_int .i64 0 (by simp only [lo, hi]; omega) ?_
 replace hr := obind hr
 obtain ⟨x1513, hl1514, hr⟩ := hr
 refine at_cut (V := Unit) (fun e => (⟨[(3, str x1513)], [], [], [(Ty.str.fact x1513 [str x1513])]⟩ : St)) ?_ ?_
 ·refine at_block ?_
  refine at_loopW (σ := (Str × Nat)) (V := Unit) (r := x1513) (fun n s => m114_l1 a0 n s.1 s.2) (fun s e => (⟨[(0, str a0), (3, str s.1), (4, .int .i64 (s.2 : Int))], [], [], [(Ty.str.fact s.1 [str s.1]), ((Ty.int .i64).fact (s.2 : Int) [.int .i64 (s.2 : Int)]), (Ty.str.fact a0 [str a0])]⟩ : St)) (fun _ => rfl) _ (([] : Str), 0) () hl1514 ⟨⟨rfl, ⟨rfl, ⟨rfl, trivial⟩⟩⟩, ⟨[], rfl⟩, ⟨[], rfl⟩, ⟨[1, 0, 2], rfl⟩⟩ ?_
  clear hr hl1514
  intro n s hr e
  obtain ⟨x1511, x1512⟩ := s
  skip
  change m114_l1 a0 (n + 1) x1511 x1512 = some x1513 at hr
  change At _ _ (⟨[(0, str a0), (3, str x1511), (4, .int .i64 (x1512 : Int))], [], [], [(Ty.str.fact x1511 [str x1511]), ((Ty.int .i64).fact (x1512 : Int) [.int .i64 (x1512 : Int)]), (Ty.str.fact a0 [str a0])]⟩ : St) _
  rw [m114_l1] at hr
  refine at_seq (s_sr (s_mv rfl (s_mv rfl ?_)))
  refine at_inv 2 rfl (fun l1516 => ?_)
  replace l1516 : a0.length ≤ 9223372036854775807 := l1516
  refine at_lt (lt_slen rfl und9) rfl (at_lt (lt_lss rfl rfl) rfl (s_nt ?_))
  by_cases h1517 : x1512 < a0.length
  ·replace hr := ipos h1517 hr
   refine at_true rfl (decide_eq_true (by omega)) ?_
   refine at_skip (at_then (at_seq (at_block (at_seq (at_seq ?_)))))
   replace hr := obind hr
   obtain ⟨x1518, hc1519, hr⟩ := hr
   refine at_cutR1 (V := Unit) (fun e => (⟨[(0, str a0), (3, str x1511), (4, .int .i64 (x1518 : Int))], [], [], [((Ty.int .i64).fact (x1518 : Int) [.int .i64 (x1518 : Int)]), (Ty.str.fact a0 [str a0]), (Ty.str.fact x1511 [str x1511])]⟩ : St)) ?_ ?_
   ·clear hr
    have hr := hc1519
    clear hc1519
    refine at_region (s_mv rfl (s_mv rfl ?_))
    replace hr := obind hr
    obtain ⟨c1520, h1521, hr⟩ := hr
    have := (List.getElem?_eq_some_iff.1 h1521).1
    have := c1520.toNat_lt
    refine at_lt (lt_sidx rfl rfl und9 (by omega) (nat_at h1521)) rfl ?_
    refine at_lt (lt_eql rfl rfl) rfl (s_mv rfl ?_)
    by_cases h1522 : c1520.toNat = 92
    ·replace hr := ipos h1522 hr
     refine at_on rfl rfl (decide_eq_true (by omega)) ?_
     refine s_mv rfl ?_
     refine at_on rfl rfl (decide_eq_true (by omega)) ?_
     refine at_lt (lt_add rfl rfl (by simp only [lo, hi]; omega)) rfl ?_
     refine at_on rfl rfl (decide_eq_true (by omega)) ?_
     refine s_mv rfl ?_
     refine at_on rfl rfl (decide_eq_true (by omega)) ?_
     refine at_lt (lt_slen rfl und9) rfl ?_
     refine at_on rfl rfl (decide_eq_true (by omega)) ?_
     refine at_lt (lt_lss rfl rfl) rfl ?_
     refine at_lt (lt_pick true rfl (decide_eq_true (by omega)) rfl) rfl ?_
     refine s_nt ?_
     by_cases h1523 : x1512 + 1 < a0.length
     ·replace hr := ipos h1523 hr
      refine at_true rfl (decide_eq_true (by omega)) ?_
      refine at_region (s_mv rfl (at_lt (lt_add rfl rfl (by simp only [lo, hi]; omega)) rfl (s_as rfl (at_nil ?_))))
      have hq := oinj hr
      clear hr
      subst hq
      refine at_int .i64 (x1512 + 1 : Int) (by simp only [lo, hi]; omega) ?_
      exact at_leaf () ⟨⟨rfl, ⟨rfl, ⟨rfl, trivial⟩⟩⟩, ⟨[], rfl⟩, ⟨[], rfl⟩, ⟨[0, 3, 1], rfl⟩⟩
     replace hr := ineg h1523 hr
     refine at_false rfl (decide_eq_false (by omega)) ?_
     refine at_skip ?_
     have hq := oinj hr
     clear hr
     subst hq
     exact at_leaf () ⟨⟨rfl, ⟨rfl, ⟨rfl, trivial⟩⟩⟩, ⟨[], rfl⟩, ⟨[], rfl⟩, ⟨[1, 2, 0], rfl⟩⟩
    replace hr := ineg h1522 hr
    refine at_off rfl rfl (decide_eq_false (by omega)) rfl ?_
    refine at_off rfl rfl (decide_eq_false (by omega)) rfl ?_
    refine at_off rfl rfl (decide_eq_false (by omega)) rfl ?_
    refine at_off rfl rfl (decide_eq_false (by omega)) rfl ?_
    refine at_off rfl rfl (decide_eq_false (by omega)) rfl ?_
    refine at_lt (lt_pick false rfl (decide_eq_false (by omega)) rfl) rfl ?_
    refine s_nt (at_false rfl rfl (at_skip ?_))
    have hq := oinj hr
    clear hr
    subst hq
    exact at_leaf () ⟨⟨rfl, ⟨rfl, ⟨rfl, trivial⟩⟩⟩, ⟨[], rfl⟩, ⟨[], rfl⟩, ⟨[1, 2, 0], rfl⟩⟩
   clear hc1519
   intro _
   change At _ _ (⟨[(0, str a0), (3, str x1511), (4, .int .i64 (x1518 : Int))], [], [], [((Ty.int .i64).fact (x1518 : Int) [.int .i64 (x1518 : Int)]), (Ty.str.fact a0 [str a0]), (Ty.str.fact x1511 [str x1511])]⟩ : St) _
   refine s_tr (s_mv rfl (s_mv rfl (s_mv rfl (s_mv rfl ?_))))
   replace hr := imust hr
   obtain ⟨h1524, hr⟩ := hr
   refine at_lt (lt_add rfl rfl (by simp only [lo, hi]; omega)) rfl ?_
   replace hr := imust hr
   obtain ⟨h1525, hr⟩ := hr
   refine at_lt (lt_scut_lh x1518 (x1518 + 1) rfl rfl rfl (by omega) (by omega) und9 (by omega) (by omega)) rfl ?_
   replace hr := imust hr
   obtain ⟨h1526, hr⟩ := hr
   refine at_lt (lt_sadd rfl rfl h1526) rfl (s_as rfl (at_nil (at_in (s_tr (s_mv rfl ?_)))))
   refine at_inv 2 rfl (fun l1527 => ?_)
   replace l1527 : x1511.length ≤ 9223372036854775807 := l1527
   refine at_lt (lt_add rfl rfl (by simp only [lo, hi]; omega)) rfl (s_as rfl (at_nil ?_))
   refine at_str (x1511 ++ ((a0.take (x1518 + 1)).drop x1518)) (by rw [List.length_append]; exact h1526) ?_
   refine at_int .i64 (x1518 + 1 : Int) (by simp only [lo, hi]; omega) ?_
   exact at_again (σ := (Str × Nat)) (V := Unit) (lp := fun n s => m114_l1 a0 n s.1 s.2) (S := fun s e => (⟨[(0, str a0), (3, str s.1), (4, .int .i64 (s.2 : Int))], [], [], [(Ty.str.fact s.1 [str s.1]), ((Ty.int .i64).fact (s.2 : Int) [.int .i64 (s.2 : Int)]), (Ty.str.fact a0 [str a0])]⟩ : St)) (x1511 ++ ((a0.take (x1518 + 1)).drop x1518), x1518 + 1) () hr ⟨⟨rfl, ⟨rfl, ⟨rfl, trivial⟩⟩⟩, ⟨[], rfl⟩, ⟨[], rfl⟩, ⟨[1, 0, 3], rfl⟩⟩
  replace hr := ineg h1517 hr
  refine at_false rfl (decide_eq_false (by omega)) ?_
  refine at_exit (at_then_exit (at_then_exit (at_in_exit ?_)))
  have hq := oinj hr
  clear hr
  subst hq
  exact at_leaf () ⟨⟨rfl, trivial⟩, ⟨[], rfl⟩, ⟨[], rfl⟩, ⟨[0], rfl⟩⟩
 clear hl1514
 intro e
 change At _ _ (⟨[(3, str x1513)], [], [], [(Ty.str.fact x1513 [str x1513])]⟩ : St) _
 refine s_tsr (s_mv rfl (s_as rfl (s_nt (at_ret ?_))))
 have hq := oinj hr
 clear hr
 subst hq
 exact at_return (str x1513) [0] hS Tryz.results114 (.cons (.tmp rfl) .nil) rfl rfl ⟨rfl, rfl⟩
def m58_l1 : Nat → Nat → UInt8 → UInt8 → Option (UInt8 × UInt8)
  | 0, _, _, _ => none
  | k + 1, x1565, x1566, x1567 =>
    if x1565 < 2 then
     if x1565 = 0 then
      Option.bind (α := (UInt8 × UInt8)) (
       if x1566.toNat = 95 then
        some (32, x1567)
       else
        some (x1566, x1567)
      ) fun (x1575, x1576) =>
      if x1565 + 1 ≤ 9223372036854775807 then
       m58_l1 k (x1565 + 1) x1575 x1576
      else none
     else
      if x1565 = 1 then
       Option.bind (α := (UInt8 × UInt8)) (
        if x1567.toNat = 95 then
         some (x1566, 32)
        else
         some (x1566, x1567)
       ) fun (x1582, x1583) =>
       if x1565 + 1 ≤ 9223372036854775807 then
        m58_l1 k (x1565 + 1) x1582 x1583
       else none
      else
       none
    else
     some (x1566, x1567)
def m58_l2 (x1529 : (List Str)) : Nat → Nat → (List D_api_Sub) → Str → UInt8 → UInt8 → (List D_api_Sub) → Option (Fl (D_api_Field × Bool) ((List D_api_Sub) × Str × UInt8 × UInt8 × (List D_api_Sub)))
  | 0, _, _, _, _, _, _ => none
  | k + 1, x1588, x1589, x1590, x1591, x1592, x1593 =>
    if x1588 < x1529.length then
     (x1529[x1588]?).bind fun x1613 =>
     if x1613.length < 3 then
      some (Fl.ret ((⟨([] : Str), 0, 0, ([] : (List D_api_Sub))⟩ : D_api_Field), false))
     else
      (x1529[x1588]?).bind fun x1619 =>
      (x1619[1]?).bind fun c1623 =>
      if c1623.toNat = 32 then
       (x1529[x1588]?).bind fun x1626 =>
       (x1626[0]?).bind fun c1630 =>
       (x1529[x1588]?).bind fun x1632 =>
       if 2 ≤ x1632.length then
        (m114 (x1632.drop 2)).bind fun x1638 =>
        if x1589.length + 1 ≤ 5864062014805 then
         m58_l2 x1529 k (x1588 + 1) (x1589 ++ [(⟨c1630, x1638⟩ : D_api_Sub)]) x1590 x1591 x1592 x1593
        else none
       else none
      else
       some (Fl.ret ((⟨([] : Str), 0, 0, ([] : (List D_api_Sub))⟩ : D_api_Field), false))
    else
     some (Fl.go (x1589, x1590, x1591, x1592, x1593))
def m58 (a0 : Str) : Option (D_api_Field × Bool) :=
  (m113 a0).bind fun x1529 =>
  (x1529[0]?).bind fun x1532 =>
  if x1532.length = 6 then
   (x1529[0]?).bind fun x1538 =>
   (x1538[3]?).bind fun c1542 =>
   if c1542.toNat = 32 then
    (x1529[0]?).bind fun x1545 =>
    if 3 ≤ x1545.length then
     (x1529[0]?).bind fun x1551 =>
     (x1551[4]?).bind fun c1555 =>
     (x1529[0]?).bind fun x1557 =>
     (x1557[5]?).bind fun c1561 =>
     (m58_l1 (2 + 1) 0 c1555 c1561).bind fun (x1568, x1569) =>
     (m58_l2 x1529 (x1529.length + 1) 1 ([] : (List D_api_Sub)) ([] : Str) 0 0 ([] : (List D_api_Sub))).bind fun r => match r with
     | .ret x => some x
     | .go (x1598, x1599, x1600, x1601, x1602) =>
      (m36 (⟨x1545.take 3, x1568, x1569, x1598⟩ : D_api_Field)).bind fun x1649 =>
      if x1649 = true then
       (m52 (⟨x1545.take 3, x1568, x1569, x1598⟩ : D_api_Field)).bind fun x1653 =>
       if x1653 = a0 then
        some ((⟨x1545.take 3, x1568, x1569, x1598⟩ : D_api_Field), true)
       else
        some ((⟨([] : Str), 0, 0, ([] : (List D_api_Sub))⟩ : D_api_Field), false)
      else
       some ((⟨([] : Str), 0, 0, ([] : (List D_api_Sub))⟩ : D_api_Field), false)
    else none
   else
    some ((⟨([] : Str), 0, 0, ([] : (List D_api_Sub))⟩ : D_api_Field), false)
  else
   some ((⟨([] : Str), 0, 0, ([] : (List D_api_Sub))⟩ : D_api_Field), false)
def post58 (r : (D_api_Field × Bool)) (v : Value) (fs : List Fact) : Prop := ∃ s1657 : Value, v = .tuple #[.agg #[str r.1.Tag, .int .u8 (r.1.Ind_0.toNat : Int), .int .u8 (r.1.Ind_1.toNat : Int), s1657], .bool r.2] ∧ fs = [(ty59.fact r.1 [str r.1.Tag, .int .u8 (r.1.Ind_0.toNat : Int), .int .u8 (r.1.Ind_1.toNat : Int), s1657])]
theorem en58 : Enters Tryz.prog 58 := ⟨_, Tryz.func58, by kernel_rfl, rfl⟩
theorem f58_spec {a0 : Str} {r : (D_api_Field × Bool)} (hr : m58 a0 = some r) : Spec Tryz.prog 58 [str a0] [(Ty.str.fact a0 [str a0])] (post58 r) := by
 refine spec_start (N := 98) Tryz.func58 (by kernel_rfl) rfl rfl rfl ?_
 intro g hS
 unfold m58 at hr
 refine s_sr (at_hv rfl ?_)
 refine hv_alloc (cs := [str ([] : Str), .int .u8 0, .int .u8 0, (.slice none 0 0)]) ti59 rfl rfl (fun b1528 => ?_)
 refine s_as rfl (s_ntsr (s_mv rfl ?_))
 replace hr := obind hr
 obtain ⟨x1529, h1530, hr⟩ := hr
 refine at_hv rfl (hv_call0 [0] (f113_spec h1530) rfl rfl rfl rfl ?_)
 rintro s1531 _ ⟨_, rfl, rfl⟩
 refine s_as rfl (s_nt (at_seq (s_sr (s_mv rfl ?_))))
 replace hr := obind hr
 obtain ⟨x1532, h1533, hr⟩ := hr
 have := (List.getElem?_eq_some_iff.1 h1533).1
 refine at_elem 0 rfl (nat_at' (i := 0) h1533) (fun p1534 ec pa1535 => ?_)
 refine at_open (A := Unit) 0 rfl (fun _ => ec = [str x1532]) (fun _ => []) (fun F w h => ⟨(), h.1, by simp⟩) ?_
 rintro _ rfl
 refine at_lt (lt_idx rfl rfl pa1535 und34 ti9) rfl (at_lt (lt_load_peek 1 rfl ti9 rfl rfl rfl rfl rfl) rfl ?_)
 refine at_inv 0 rfl (fun l1536 => ?_)
 replace l1536 : x1532.length ≤ 9223372036854775807 := l1536
 refine at_lt (lt_slen rfl und9) rfl (at_lt (lt_neq rfl rfl) rfl (s_mv rfl ?_))
 by_cases h1537 : x1532.length = 6
 ·replace hr := ipos h1537 hr
  refine at_on rfl rfl (nt (decide_eq_true (by omega))) ?_
  refine s_mv rfl ?_
  replace hr := obind hr
  obtain ⟨x1538, h1539, hr⟩ := hr
  have := (List.getElem?_eq_some_iff.1 h1539).1
  refine at_elem 2 rfl (nat_at' (i := 0) h1539) (fun p1540 ec pa1541 => ?_)
  refine at_open (A := Unit) 0 rfl (fun _ => ec = [str x1538]) (fun _ => []) (fun F w h => ⟨(), h.1, by simp⟩) ?_
  rintro _ rfl
  refine at_on rfl rfl (nt (decide_eq_true (by omega))) ?_
  refine at_lt (lt_idx rfl rfl pa1541 und34 ti9) rfl ?_
  refine at_on rfl rfl (nt (decide_eq_true (by omega))) ?_
  refine at_lt (lt_load_peek 1 rfl ti9 rfl rfl rfl rfl rfl) rfl ?_
  replace hr := obind hr
  obtain ⟨c1542, h1543, hr⟩ := hr
  have := (List.getElem?_eq_some_iff.1 h1543).1
  have := c1542.toNat_lt
  refine at_on rfl rfl (nt (decide_eq_true (by omega))) ?_
  refine at_lt (lt_sidx rfl rfl und9 (by omega) h1543) rfl ?_
  refine at_on rfl rfl (nt (decide_eq_true (by omega))) ?_
  refine at_lt (lt_neq rfl rfl) rfl ?_
  refine at_lt (lt_pick false rfl (nt (decide_eq_true (by omega))) rfl) rfl ?_
  refine s_nt ?_
  by_cases h1544 : c1542.toNat = 32
  ·replace hr := ipos h1544 hr
   refine at_false rfl (nt (decide_eq_true (by omega))) ?_
   refine at_skip (at_then (at_seq ?_))
   replace hr := obind hr
   obtain ⟨x1545, h1546, hr⟩ := hr
   have := (List.getElem?_eq_some_iff.1 h1546).1
   refine at_elem 4 rfl (nat_at' (i := 0) h1546) (fun p1547 ec pa1548 => ?_)
   refine at_open (A := Unit) 0 rfl (fun _ => ec = [str x1545]) (fun _ => []) (fun F w h => ⟨(), h.1, by simp⟩) ?_
   rintro _ rfl
   replace hr := imust hr
   obtain ⟨h1549, hr⟩ := hr
   refine at_inv 0 rfl (fun l1550 => ?_)
   replace l1550 : x1545.length ≤ 9223372036854775807 := l1550
   replace hr := obind hr
   obtain ⟨x1551, h1552, hr⟩ := hr
   have := (List.getElem?_eq_some_iff.1 h1552).1
   refine at_elem 6 rfl (nat_at' (i := 0) h1552) (fun p1553 ec pa1554 => ?_)
   refine at_open (A := Unit) 0 rfl (fun _ => ec = [str x1551]) (fun _ => []) (fun F w h => ⟨(), h.1, by simp⟩) ?_
   rintro _ rfl
   replace hr := obind hr
   obtain ⟨c1555, h1556, hr⟩ := hr
   have := (List.getElem?_eq_some_iff.1 h1556).1
   have := c1555.toNat_lt
   replace hr := obind hr
   obtain ⟨x1557, h1558, hr⟩ := hr
   have := (List.getElem?_eq_some_iff.1 h1558).1
   refine at_elem 8 rfl (nat_at' (i := 0) h1558) (fun p1559 ec pa1560 => ?_)
   refine at_open (A := Unit) 0 rfl (fun _ => ec = [str x1557]) (fun _ => []) (fun F w h => ⟨(), h.1, by simp⟩) ?_
   rintro _ rfl
   replace hr := obind hr
   obtain ⟨c1561, h1562, hr⟩ := hr
   have := (List.getElem?_eq_some_iff.1 h1562).1
   have := c1561.toNat_lt
   refine aa_start 16 (by kernel_rfl) ?_
   refine aa_p 0 rfl (lt_move rfl) (aa_p 1 rfl (lt_idx rfl rfl pa1548 und34 ti9) (aa_l 2 rfl (lt_load_peek 5 rfl ti9 rfl rfl rfl rfl rfl) ?_))
   refine aa_p 3 rfl (lt_scut_h 3 rfl rfl (by omega) und9 (by omega)) ?_
   refine aa_p 4 rfl (lt_move rfl) (aa_p 5 rfl (lt_idx rfl rfl pa1554 und34 ti9) (aa_l 6 rfl (lt_load_peek 3 rfl ti9 rfl rfl rfl rfl rfl) ?_))
   refine aa_p 7 rfl (lt_sidx rfl rfl und9 (by omega) h1556) ?_
   refine aa_p 8 rfl (lt_move rfl) (aa_p 9 rfl (lt_idx rfl rfl pa1560 und34 ti9) (aa_l 10 rfl (lt_load_peek 1 rfl ti9 rfl rfl rfl rfl rfl) ?_))
   refine aa_p 11 rfl (lt_sidx rfl rfl und9 (by omega) h1562) ?_
   refine aa_p 12 rfl (lt_abuild (cs := [.int .u8 (c1555.toNat : Int), .int .u8 (c1561.toNat : Int)]) rfl ti56 und56 ti5 rfl) (aa_p 13 rfl (lt_build (cs := [str (x1545.take 3), .int .u8 (c1555.toNat : Int), .int .u8 (c1561.toNat : Int), (.slice none 0 0)]) rfl ti59 pl59 rfl) (aa_one 14 (aa_op rfl rfl ?_)))
   refine hv_alloc (cs := [str ([] : Str), .int .u8 0, .int .u8 0, (.slice none 0 0)]) ti59 rfl rfl (fun b1564 => ?_)
   refine aa_all (rs := [15]) (by kernel_rfl) rfl (ts_in 1 0 rfl rfl) (List.forall_mem_singleton.2 ?_)
   refine aa_op rfl rfl (hv_store_box 0 (cs' := [str (x1545.take 3), .int .u8 (c1555.toNat : Int), .int .u8 (c1561.toNat : Int), (.slice none 0 0)]) rfl rfl ti59 rfl rfl rfl rfl rfl ?_)
   refine aa_done (by kernel_rfl) (ts_in 1 0 rfl rfl) ?_
   refine at_then (at_seq (s_sr (s_as rfl (s_nt (at_int .i64 0 (by simp only [lo, hi]; omega) ?_)))))
   replace hr := obind hr
   obtain ⟨r1570, hl1571, hr⟩ := hr
   refine at_cut (V := Unit) (fun e => (⟨[(0, str a0), (2, .pointer (some (Addr.add ⟨b1528, 0, none⟩ 0))), (4, s1531), (5, .pointer (some (Addr.add ⟨b1564, 0, none⟩ 0)))], [⟨b1564, [str (x1545.take 3), .int .u8 (r1570.1.toNat : Int), .int .u8 (r1570.2.toNat : Int), (.slice none 0 0)], 59⟩, ⟨b1528, [str ([] : Str), .int .u8 0, .int .u8 0, (.slice none 0 0)], 59⟩], [], [(Ty.str.fact a0 [str a0]), ((Ty.slice Ty.str).fact x1529 [s1531])]⟩ : St)) ?_ ?_
   ·refine at_block ?_
    refine at_loopW (σ := (Nat × UInt8 × UInt8)) (V := Unit) (r := r1570) (fun n s => m58_l1 n s.1 s.2.1 s.2.2) (fun s e => (⟨[(0, str a0), (2, .pointer (some (Addr.add ⟨b1528, 0, none⟩ 0))), (4, s1531), (5, .pointer (some (Addr.add ⟨b1564, 0, none⟩ 0))), (6, .int .i64 (s.1 : Int))], [⟨b1564, [str (x1545.take 3), .int .u8 (s.2.1.toNat : Int), .int .u8 (s.2.2.toNat : Int), (.slice none 0 0)], 59⟩, ⟨b1528, [str ([] : Str), .int .u8 0, .int .u8 0, (.slice none 0 0)], 59⟩], [], [((Ty.int .i64).fact (s.1 : Int) [.int .i64 (s.1 : Int)]), (Ty.str.fact a0 [str a0]), ((Ty.slice Ty.str).fact x1529 [s1531])]⟩ : St)) (fun _ => rfl) _ (0, c1555, c1561) () hl1571 ⟨⟨rfl, ⟨rfl, ⟨rfl, ⟨rfl, ⟨rfl, trivial⟩⟩⟩⟩⟩, ⟨[true, true], rfl⟩, ⟨[], rfl⟩, ⟨[0, 12, 11], rfl⟩⟩ ?_
    clear hr hl1571
    intro n s hr e
    obtain ⟨x1565, x1566, x1567⟩ := s
    skip
    change m58_l1 (n + 1) x1565 x1566 x1567 = some r1570 at hr
    change At _ _ (⟨[(0, str a0), (2, .pointer (some (Addr.add ⟨b1528, 0, none⟩ 0))), (4, s1531), (5, .pointer (some (Addr.add ⟨b1564, 0, none⟩ 0))), (6, .int .i64 (x1565 : Int))], [⟨b1564, [str (x1545.take 3), .int .u8 (x1566.toNat : Int), .int .u8 (x1567.toNat : Int), (.slice none 0 0)], 59⟩, ⟨b1528, [str ([] : Str), .int .u8 0, .int .u8 0, (.slice none 0 0)], 59⟩], [], [((Ty.int .i64).fact (x1565 : Int) [.int .i64 (x1565 : Int)]), (Ty.str.fact a0 [str a0]), ((Ty.slice Ty.str).fact x1529 [s1531])]⟩ : St) _
    rw [m58_l1] at hr
    refine at_seq (s_sr (s_mv rfl (at_lt (lt_lss rfl rfl) rfl (s_nt ?_))))
    by_cases h1573 : x1565 < 2
    ·replace hr := ipos h1573 hr
     refine at_true rfl (decide_eq_true (by omega)) ?_
     refine at_skip (at_then (at_seq (at_block (s_sr (s_mv rfl (at_lt (lt_fieldAddr 1 rfl fld59_1 rfl) rfl ?_))))))
     by_cases h1574 : x1565 = 0
     ·replace hr := ipos h1574 hr
      refine at_lt (lt_aidx 0 rfl rfl (by omega) rfl und56 ti5 rfl) rfl ?_
      refine at_lt (lt_load_box 0 rfl ti5 rfl rfl rfl rfl rfl) rfl (at_lt (lt_eql rfl rfl) rfl (s_nt ?_))
      replace hr := obind hr
      obtain ⟨r1577, hc1578, hr⟩ := hr
      refine at_cut (V := Unit) (fun e => (⟨[(0, str a0), (2, .pointer (some (Addr.add ⟨b1528, 0, none⟩ 0))), (4, s1531), (5, .pointer (some (Addr.add ⟨b1564, 0, none⟩ 0))), (6, .int .i64 (x1565 : Int))], [⟨b1564, [str (x1545.take 3), .int .u8 (r1577.1.toNat : Int), .int .u8 (r1577.2.toNat : Int), (.slice none 0 0)], 59⟩, ⟨b1528, [str ([] : Str), .int .u8 0, .int .u8 0, (.slice none 0 0)], 59⟩], [], [(Ty.str.fact a0 [str a0]), ((Ty.slice Ty.str).fact x1529 [s1531]), ((Ty.int .i64).fact (x1565 : Int) [.int .i64 (x1565 : Int)])]⟩ : St)) ?_ ?_
      ·clear hr
       have hr := hc1578
       clear hc1578
       by_cases h1579 : x1566.toNat = 95
       ·replace hr := ipos h1579 hr
        refine at_true rfl (decide_eq_true (by omega)) ?_
        refine at_region (s_mv rfl (at_lt (lt_fieldAddr 1 rfl fld59_1 rfl) rfl ?_))
        refine at_lt (lt_aidx 0 rfl rfl (by omega) rfl und56 ti5 rfl) rfl ?_
        refine at_hv rfl (hv_store_box 0 (cs' := [str (x1545.take 3), .int .u8 32, .int .u8 (x1567.toNat : Int), (.slice none 0 0)]) rfl rfl ti5 rfl rfl rfl rfl rfl (at_nil ?_))
        have hq := oinj hr
        clear hr
        subst hq
        exact at_leaf () ⟨⟨rfl, ⟨rfl, ⟨rfl, ⟨rfl, ⟨rfl, trivial⟩⟩⟩⟩⟩, ⟨[true, true], rfl⟩, ⟨[], rfl⟩, ⟨[1, 2, 0], rfl⟩⟩
       replace hr := ineg h1579 hr
       refine at_false rfl (decide_eq_false (by omega)) ?_
       refine at_skip ?_
       have hq := oinj hr
       clear hr
       subst hq
       exact at_leaf () ⟨⟨rfl, ⟨rfl, ⟨rfl, ⟨rfl, ⟨rfl, trivial⟩⟩⟩⟩⟩, ⟨[true, true], rfl⟩, ⟨[], rfl⟩, ⟨[1, 2, 0], rfl⟩⟩
      clear hc1578
      obtain ⟨x1575, x1576⟩ := r1577
      intro _
      change At _ _ (⟨[(0, str a0), (2, .pointer (some (Addr.add ⟨b1528, 0, none⟩ 0))), (4, s1531), (5, .pointer (some (Addr.add ⟨b1564, 0, none⟩ 0))), (6, .int .i64 (x1565 : Int))], [⟨b1564, [str (x1545.take 3), .int .u8 (x1575.toNat : Int), .int .u8 (x1576.toNat : Int), (.slice none 0 0)], 59⟩, ⟨b1528, [str ([] : Str), .int .u8 0, .int .u8 0, (.slice none 0 0)], 59⟩], [], [(Ty.str.fact a0 [str a0]), ((Ty.slice Ty.str).fact x1529 [s1531]), ((Ty.int .i64).fact (x1565 : Int) [.int .i64 (x1565 : Int)])]⟩ : St) _
      refine at_in (s_tr (s_mv rfl ?_))
      replace hr := imust hr
      obtain ⟨h1580, hr⟩ := hr
      refine at_lt (lt_add rfl rfl (by simp only [lo, hi]; omega)) rfl (s_as rfl (at_nil (at_int .i64 (x1565 + 1 : Int) (by simp only [lo, hi]; omega) ?_)))
      exact at_again (σ := (Nat × UInt8 × UInt8)) (V := Unit) (lp := fun n s => m58_l1 n s.1 s.2.1 s.2.2) (S := fun s e => (⟨[(0, str a0), (2, .pointer (some (Addr.add ⟨b1528, 0, none⟩ 0))), (4, s1531), (5, .pointer (some (Addr.add ⟨b1564, 0, none⟩ 0))), (6, .int .i64 (s.1 : Int))], [⟨b1564, [str (x1545.take 3), .int .u8 (s.2.1.toNat : Int), .int .u8 (s.2.2.toNat : Int), (.slice none 0 0)], 59⟩, ⟨b1528, [str ([] : Str), .int .u8 0, .int .u8 0, (.slice none 0 0)], 59⟩], [], [((Ty.int .i64).fact (s.1 : Int) [.int .i64 (s.1 : Int)]), (Ty.str.fact a0 [str a0]), ((Ty.slice Ty.str).fact x1529 [s1531])]⟩ : St)) (x1565 + 1, x1575, x1576) () hr ⟨⟨rfl, ⟨rfl, ⟨rfl, ⟨rfl, ⟨rfl, trivial⟩⟩⟩⟩⟩, ⟨[true, true], rfl⟩, ⟨[], rfl⟩, ⟨[0, 1, 2], rfl⟩⟩
     replace hr := ineg h1574 hr
     by_cases h1581 : x1565 = 1
     ·replace hr := ipos h1581 hr
      refine at_lt (lt_aidx 1 rfl rfl (by omega) rfl und56 ti5 rfl) rfl ?_
      refine at_lt (lt_load_box 0 rfl ti5 rfl rfl rfl rfl rfl) rfl (at_lt (lt_eql rfl rfl) rfl (s_nt ?_))
      replace hr := obind hr
      obtain ⟨r1584, hc1585, hr⟩ := hr
      refine at_cut (V := Unit) (fun e => (⟨[(0, str a0), (2, .pointer (some (Addr.add ⟨b1528, 0, none⟩ 0))), (4, s1531), (5, .pointer (some (Addr.add ⟨b1564, 0, none⟩ 0))), (6, .int .i64 (x1565 : Int))], [⟨b1564, [str (x1545.take 3), .int .u8 (r1584.1.toNat : Int), .int .u8 (r1584.2.toNat : Int), (.slice none 0 0)], 59⟩, ⟨b1528, [str ([] : Str), .int .u8 0, .int .u8 0, (.slice none 0 0)], 59⟩], [], [(Ty.str.fact a0 [str a0]), ((Ty.slice Ty.str).fact x1529 [s1531]), ((Ty.int .i64).fact (x1565 : Int) [.int .i64 (x1565 : Int)])]⟩ : St)) ?_ ?_
      ·clear hr
       have hr := hc1585
       clear hc1585
       by_cases h1586 : x1567.toNat = 95
       ·replace hr := ipos h1586 hr
        refine at_true rfl (decide_eq_true (by omega)) ?_
        refine at_region (s_mv rfl (at_lt (lt_fieldAddr 1 rfl fld59_1 rfl) rfl ?_))
        refine at_lt (lt_aidx 1 rfl rfl (by omega) rfl und56 ti5 rfl) rfl ?_
        refine at_hv rfl (hv_store_box 0 (cs' := [str (x1545.take 3), .int .u8 (x1566.toNat : Int), .int .u8 32, (.slice none 0 0)]) rfl rfl ti5 rfl rfl rfl rfl rfl (at_nil ?_))
        have hq := oinj hr
        clear hr
        subst hq
        exact at_leaf () ⟨⟨rfl, ⟨rfl, ⟨rfl, ⟨rfl, ⟨rfl, trivial⟩⟩⟩⟩⟩, ⟨[true, true], rfl⟩, ⟨[], rfl⟩, ⟨[1, 2, 0], rfl⟩⟩
       replace hr := ineg h1586 hr
       refine at_false rfl (decide_eq_false (by omega)) ?_
       refine at_skip ?_
       have hq := oinj hr
       clear hr
       subst hq
       exact at_leaf () ⟨⟨rfl, ⟨rfl, ⟨rfl, ⟨rfl, ⟨rfl, trivial⟩⟩⟩⟩⟩, ⟨[true, true], rfl⟩, ⟨[], rfl⟩, ⟨[1, 2, 0], rfl⟩⟩
      clear hc1585
      obtain ⟨x1582, x1583⟩ := r1584
      intro _
      change At _ _ (⟨[(0, str a0), (2, .pointer (some (Addr.add ⟨b1528, 0, none⟩ 0))), (4, s1531), (5, .pointer (some (Addr.add ⟨b1564, 0, none⟩ 0))), (6, .int .i64 (x1565 : Int))], [⟨b1564, [str (x1545.take 3), .int .u8 (x1582.toNat : Int), .int .u8 (x1583.toNat : Int), (.slice none 0 0)], 59⟩, ⟨b1528, [str ([] : Str), .int .u8 0, .int .u8 0, (.slice none 0 0)], 59⟩], [], [(Ty.str.fact a0 [str a0]), ((Ty.slice Ty.str).fact x1529 [s1531]), ((Ty.int .i64).fact (x1565 : Int) [.int .i64 (x1565 : Int)])]⟩ : St) _
      refine at_in (s_tr (s_mv rfl ?_))
      replace hr := imust hr
      obtain ⟨h1587, hr⟩ := hr
      refine at_lt (lt_add rfl rfl (by simp only [lo, hi]; omega)) rfl (s_as rfl (at_nil (at_int .i64 (x1565 + 1 : Int) (by simp only [lo, hi]; omega) ?_)))
      exact at_again (σ := (Nat × UInt8 × UInt8)) (V := Unit) (lp := fun n s => m58_l1 n s.1 s.2.1 s.2.2) (S := fun s e => (⟨[(0, str a0), (2, .pointer (some (Addr.add ⟨b1528, 0, none⟩ 0))), (4, s1531), (5, .pointer (some (Addr.add ⟨b1564, 0, none⟩ 0))), (6, .int .i64 (s.1 : Int))], [⟨b1564, [str (x1545.take 3), .int .u8 (s.2.1.toNat : Int), .int .u8 (s.2.2.toNat : Int), (.slice none 0 0)], 59⟩, ⟨b1528, [str ([] : Str), .int .u8 0, .int .u8 0, (.slice none 0 0)], 59⟩], [], [((Ty.int .i64).fact (s.1 : Int) [.int .i64 (s.1 : Int)]), (Ty.str.fact a0 [str a0]), ((Ty.slice Ty.str).fact x1529 [s1531])]⟩ : St)) (x1565 + 1, x1582, x1583) () hr ⟨⟨rfl, ⟨rfl, ⟨rfl, ⟨rfl, ⟨rfl, trivial⟩⟩⟩⟩⟩, ⟨[true, true], rfl⟩, ⟨[], rfl⟩, ⟨[0, 1, 2], rfl⟩⟩
     replace hr := ineg h1581 hr
     cases hr
    replace hr := ineg h1573 hr
    refine at_false rfl (decide_eq_false (by omega)) ?_
    refine at_exit (at_then_exit (at_then_exit (at_in_exit ?_)))
    have hq := oinj hr
    clear hr
    subst hq
    exact at_leaf () ⟨⟨rfl, ⟨rfl, ⟨rfl, ⟨rfl, trivial⟩⟩⟩⟩, ⟨[true, true], rfl⟩, ⟨[], rfl⟩, ⟨[1, 2], rfl⟩⟩
   clear hl1571
   obtain ⟨x1568, x1569⟩ := r1570
   intro e
   change At _ _ (⟨[(0, str a0), (2, .pointer (some (Addr.add ⟨b1528, 0, none⟩ 0))), (4, s1531), (5, .pointer (some (Addr.add ⟨b1564, 0, none⟩ 0)))], [⟨b1564, [str (x1545.take 3), .int .u8 (x1568.toNat : Int), .int .u8 (x1569.toNat : Int), (.slice none 0 0)], 59⟩, ⟨b1528, [str ([] : Str), .int .u8 0, .int .u8 0, (.slice none 0 0)], 59⟩], [], [(Ty.str.fact a0 [str a0]), ((Ty.slice Ty.str).fact x1529 [s1531])]⟩ : St) _
   refine at_then (at_seq (s_sr (s_as rfl (s_nt (at_int .i64 1 (by simp only [lo, hi]; omega) (at_rownew none 67 2 (at_rownil ty67 ?_)))))))
   refine at_mkpure (q := (([] : (List D_api_Sub)).length * ty67.bytes ≤ 140737488355328)) (by simp only [List.nil_append, List.cons_append, List.length_cons, List.length_nil, ty67_bytes] <;> omega) ?_
   refine at_str ([] : Str) (by decide) ?_
   refine at_fnil ty67 none ?_
   replace hr := obind hr
   obtain ⟨r1607, hl1608, hk1609⟩ := hr
   refine at_cutP (V := (((List D_api_Sub) × Str × UInt8 × UInt8 × (List D_api_Sub))) × (Value × Nat × (List Value) × Value)) (fun v => r1607 = Fl.go v.1) (fun v => (⟨[(0, str a0), (2, .pointer (some (Addr.add ⟨b1528, 0, none⟩ 0))), (5, .pointer (some (Addr.add ⟨b1564, 0, none⟩ 0)))], [⟨b1564, [str (x1545.take 3), .int .u8 (x1568.toNat : Int), .int .u8 (x1569.toNat : Int), v.2.1], 59⟩, ⟨b1528, [str v.1.2.1, .int .u8 (v.1.2.2.1.toNat : Int), .int .u8 (v.1.2.2.2.1.toNat : Int), v.2.2.2.2], 59⟩], [⟨v.2.1, 67, 2, v.2.2.1, v.2.2.2.1⟩], [(ty67.row v.1.1 v.2.2.2.1), (pureF (v.1.1.length * ty67.bytes ≤ 140737488355328)), (Ty.str.fact v.1.2.1 [str v.1.2.1]), ((Ty.slice ty67).fact v.1.2.2.2.2 [v.2.2.2.2]), (Ty.str.fact a0 [str a0])]⟩ : St)) ?_ ?_
   ·refine at_block ?_
    refine at_loopW (σ := (Nat × (List D_api_Sub) × Str × UInt8 × UInt8 × (List D_api_Sub))) (V := Value × Nat × (List Value) × Value) (r := r1607) (fun n s => m58_l2 x1529 n s.1 s.2.1 s.2.2.1 s.2.2.2.1 s.2.2.2.2.1 s.2.2.2.2.2) (fun s e => (⟨[(0, str a0), (2, .pointer (some (Addr.add ⟨b1528, 0, none⟩ 0))), (4, s1531), (5, .pointer (some (Addr.add ⟨b1564, 0, none⟩ 0))), (7, .int .i64 (s.1 : Int))], [⟨b1564, [str (x1545.take 3), .int .u8 (x1568.toNat : Int), .int .u8 (x1569.toNat : Int), e.1], 59⟩, ⟨b1528, [str s.2.2.1, .int .u8 (s.2.2.2.1.toNat : Int), .int .u8 (s.2.2.2.2.1.toNat : Int), e.2.2.2], 59⟩], [⟨e.1, 67, 2, e.2.1, e.2.2.1⟩], [((Ty.int .i64).fact (s.1 : Int) [.int .i64 (s.1 : Int)]), (ty67.row s.2.1 e.2.2.1), (pureF (s.2.1.length * ty67.bytes ≤ 140737488355328)), (Ty.str.fact s.2.2.1 [str s.2.2.1]), ((Ty.slice ty67).fact s.2.2.2.2.2 [e.2.2.2]), (Ty.str.fact a0 [str a0]), ((Ty.slice Ty.str).fact x1529 [s1531])]⟩ : St)) (fun _ => rfl) _ (1, ([] : (List D_api_Sub)), ([] : Str), 0, 0, ([] : (List D_api_Sub))) ((.slice none 0 0), 0, [], (.slice none 0 0)) hl1608 ⟨⟨rfl, ⟨rfl, ⟨rfl, ⟨rfl, ⟨rfl, trivial⟩⟩⟩⟩⟩, ⟨[true, true], rfl⟩, ⟨[true], rfl⟩, ⟨[4, 3, 2, 1, 0, 5, 6], rfl⟩⟩ ?_
    clear hl1608
    intro n s hr e
    obtain ⟨x1588, x1589, x1590, x1591, x1592, x1593⟩ := s
    obtain ⟨v1594, n1595, i1596, v1597⟩ := e
    change m58_l2 x1529 (n + 1) x1588 x1589 x1590 x1591 x1592 x1593 = some r1607 at hr
    change At _ _ (⟨[(0, str a0), (2, .pointer (some (Addr.add ⟨b1528, 0, none⟩ 0))), (4, s1531), (5, .pointer (some (Addr.add ⟨b1564, 0, none⟩ 0))), (7, .int .i64 (x1588 : Int))], [⟨b1564, [str (x1545.take 3), .int .u8 (x1568.toNat : Int), .int .u8 (x1569.toNat : Int), v1594], 59⟩, ⟨b1528, [str x1590, .int .u8 (x1591.toNat : Int), .int .u8 (x1592.toNat : Int), v1597], 59⟩], [⟨v1594, 67, 2, n1595, i1596⟩], [((Ty.int .i64).fact (x1588 : Int) [.int .i64 (x1588 : Int)]), (ty67.row x1589 i1596), (pureF (x1589.length * ty67.bytes ≤ 140737488355328)), (Ty.str.fact x1590 [str x1590]), ((Ty.slice ty67).fact x1593 [v1597]), (Ty.str.fact a0 [str a0]), ((Ty.slice Ty.str).fact x1529 [s1531])]⟩ : St) _
    rw [m58_l2] at hr
    refine at_seq (s_sr (s_mv rfl (s_mv rfl ?_)))
    refine at_inv 6 rfl (fun i1610 => ?_)
    have l1611 := slice_len i1610
    refine at_lt (lt_flen 6 rfl rfl und34) rfl (at_lt (lt_lss rfl rfl) rfl (s_nt ?_))
    by_cases h1612 : x1588 < x1529.length
    ·replace hr := ipos h1612 hr
     refine at_true rfl (decide_eq_true (by omega)) ?_
     refine at_skip (at_then (at_seq (at_block (at_seq (s_sr (s_mv rfl (s_mv rfl ?_)))))))
     replace hr := obind hr
     obtain ⟨x1613, h1614, hr⟩ := hr
     have := (List.getElem?_eq_some_iff.1 h1614).1
     refine at_elem 6 rfl (nat_at' h1614) (fun p1615 ec pa1616 => ?_)
     refine at_open (A := Unit) 0 rfl (fun _ => ec = [str x1613]) (fun _ => []) (fun F w h => ⟨(), h.1, by simp⟩) ?_
     rintro _ rfl
     refine at_lt (lt_idx rfl rfl pa1616 und34 ti9) rfl (at_lt (lt_load_peek 1 rfl ti9 rfl rfl rfl rfl rfl) rfl ?_)
     refine at_inv 0 rfl (fun l1617 => ?_)
     replace l1617 : x1613.length ≤ 9223372036854775807 := l1617
     refine at_lt (lt_slen rfl und9) rfl (at_lt (lt_lss rfl rfl) rfl (s_mv rfl ?_))
     by_cases h1618 : x1613.length < 3
     ·replace hr := ipos h1618 hr
      refine at_off rfl rfl (decide_eq_true (by omega)) rfl ?_
      refine at_off rfl rfl (decide_eq_true (by omega)) rfl ?_
      refine at_off rfl rfl (decide_eq_true (by omega)) rfl ?_
      refine at_off rfl rfl (decide_eq_true (by omega)) rfl ?_
      refine at_off rfl rfl (decide_eq_true (by omega)) rfl ?_
      refine at_off rfl rfl (decide_eq_true (by omega)) rfl ?_
      refine at_lt (lt_pick true rfl (decide_eq_true (by omega)) rfl) rfl ?_
      refine s_nt (at_true rfl rfl (s_sr (at_lt (lt_build (cs := [str ([] : Str), .int .u8 0, .int .u8 0, (.slice none 0 0)]) rfl ti59 pl59 rfl) rfl (at_hv rfl (hv_store_box 1 (cs' := [str ([] : Str), .int .u8 0, .int .u8 0, (.slice none 0 0)]) rfl rfl ti59 rfl rfl rfl rfl rfl (s_as rfl (s_nt (at_ret ?_))))))))
      have hq := oinj hr
      clear hr
      subst hq
      have hq := oinj hk1609
      clear hk1609
      subst hq
      refine at_then_ret (at_in_ret (at_then_ret (at_then_ret (at_in_ret (at_then_ret (at_then_ret ?_))))))
      refine at_str ([] : Str) (by decide) ?_
      refine at_fnil ty67 none ?_
      refine at_derive [1, 0] (ty59.fact (⟨([] : Str), 0, 0, ([] : (List D_api_Sub))⟩ : D_api_Field) [str ([] : Str), .int .u8 0, .int .u8 0, (.slice none 0 0)]) rfl (fun F w h => mk59 (x := (⟨([] : Str), 0, 0, ([] : (List D_api_Sub))⟩ : D_api_Field)) h) ?_
      exact at_return (.tuple #[.agg #[str ([] : Str), .int .u8 0, .int .u8 0, (.slice none 0 0)], .bool false]) [0] hS Tryz.results58 (.cons (.cell 1 rfl ti59 rfl rfl rfl rfl) (.cons (.tmp rfl) .nil)) rfl rfl ⟨((.slice none 0 0)), rfl, rfl⟩
     replace hr := ineg h1618 hr
     refine at_on rfl rfl (decide_eq_false (by omega)) ?_
     refine s_mv rfl ?_
     refine at_on rfl rfl (decide_eq_false (by omega)) ?_
     refine s_mv rfl ?_
     replace hr := obind hr
     obtain ⟨x1619, h1620, hr⟩ := hr
     have := (List.getElem?_eq_some_iff.1 h1620).1
     refine at_elem 8 rfl (nat_at' h1620) (fun p1621 ec pa1622 => ?_)
     refine at_open (A := Unit) 0 rfl (fun _ => ec = [str x1619]) (fun _ => []) (fun F w h => ⟨(), h.1, by simp⟩) ?_
     rintro _ rfl
     refine at_on rfl rfl (decide_eq_false (by omega)) ?_
     refine at_lt (lt_idx rfl rfl pa1622 und34 ti9) rfl ?_
     refine at_on rfl rfl (decide_eq_false (by omega)) ?_
     refine at_lt (lt_load_peek 1 rfl ti9 rfl rfl rfl rfl rfl) rfl ?_
     replace hr := obind hr
     obtain ⟨c1623, h1624, hr⟩ := hr
     have := (List.getElem?_eq_some_iff.1 h1624).1
     have := c1623.toNat_lt
     refine at_on rfl rfl (decide_eq_false (by omega)) ?_
     refine at_lt (lt_sidx rfl rfl und9 (by omega) h1624) rfl ?_
     refine at_on rfl rfl (decide_eq_false (by omega)) ?_
     refine at_lt (lt_neq rfl rfl) rfl ?_
     refine at_lt (lt_pick false rfl (decide_eq_false (by omega)) rfl) rfl ?_
     refine s_nt ?_
     by_cases h1625 : c1623.toNat = 32
     ·replace hr := ipos h1625 hr
      refine at_false rfl (nt (decide_eq_true (by omega))) ?_
      refine at_skip (at_then ?_)
      replace hr := obind hr
      obtain ⟨x1626, h1627, hr⟩ := hr
      have := (List.getElem?_eq_some_iff.1 h1627).1
      refine at_elem 10 rfl (nat_at' h1627) (fun p1628 ec pa1629 => ?_)
      refine at_open (A := Unit) 0 rfl (fun _ => ec = [str x1626]) (fun _ => []) (fun F w h => ⟨(), h.1, by simp⟩) ?_
      rintro _ rfl
      replace hr := obind hr
      obtain ⟨c1630, h1631, hr⟩ := hr
      have := (List.getElem?_eq_some_iff.1 h1631).1
      have := c1630.toNat_lt
      replace hr := obind hr
      obtain ⟨x1632, h1633, hr⟩ := hr
      have := (List.getElem?_eq_some_iff.1 h1633).1
      refine at_elem 12 rfl (nat_at' h1633) (fun p1634 ec pa1635 => ?_)
      refine at_open (A := Unit) 0 rfl (fun _ => ec = [str x1632]) (fun _ => []) (fun F w h => ⟨(), h.1, by simp⟩) ?_
      rintro _ rfl
      replace hr := imust hr
      obtain ⟨h1636, hr⟩ := hr
      refine at_inv 0 rfl (fun l1637 => ?_)
      replace l1637 : x1632.length ≤ 9223372036854775807 := l1637
      replace hr := obind hr
      obtain ⟨x1638, h1639, hr⟩ := hr
      replace hr := imust hr
      obtain ⟨h1641, hr⟩ := hr
      refine aa_start 17 (by kernel_rfl) ?_
      refine aa_p 0 rfl (lt_fieldAddr 3 rfl fld59_2 rfl) (aa_l 1 rfl (lt_load_box 0 rfl ti57 rfl rfl rfl rfl rfl) (aa_p 2 rfl (lt_move rfl) (aa_p 3 rfl (lt_move rfl) (aa_p 4 rfl (lt_idx rfl rfl pa1629 und34 ti9) (aa_l 5 rfl (lt_load_peek 3 rfl ti9 rfl rfl rfl rfl rfl) ?_)))))
      refine aa_p 6 rfl (lt_sidx rfl rfl und9 (by omega) h1631) ?_
      refine aa_p 7 rfl (lt_move rfl) (aa_p 8 rfl (lt_move rfl) (aa_p 9 rfl (lt_idx rfl rfl pa1635 und34 ti9) (aa_l 10 rfl (lt_load_peek 1 rfl ti9 rfl rfl rfl rfl rfl) ?_)))
      refine aa_p 11 rfl (lt_scut_l 2 rfl rfl (by omega) und9 (by omega)) ?_
      refine aa_one 12 ?_
      refine at_str (x1632.drop 2) (by simp only [List.length_take, List.length_drop]; omega) ?_
      refine aa_op rfl rfl (hv_call0 [0] (f114_spec h1639) rfl rfl rfl rfl ?_)
      rintro _ _ ⟨rfl, rfl⟩
      refine aa_pure 13 rfl (by kernel_rfl) rfl rfl (lt_build (cs := [.int .u8 (c1630.toNat : Int), str x1638]) rfl ti67 pl67 rfl) rfl (ts_in 0 2 rfl rfl) ?_
      refine aa_all (rs := [14]) (by kernel_rfl) rfl (ts_in 0 2 rfl rfl) (List.forall_mem_singleton.2 ?_)
      refine aa_op rfl rfl ?_
      refine hv_bslice (cs := [.int .u8 (c1630.toNat : Int), str x1638]) rfl und57 ti67 rfl rfl rfl rfl rfl (fun s1645 => ?_)
      refine aa_all (rs := [15]) (by kernel_rfl) rfl (ts_in 0 2 rfl rfl) (List.forall_mem_singleton.2 ?_)
      refine at_derive [0] (ty67.fact (⟨c1630, x1638⟩ : D_api_Sub) [.int .u8 (c1630.toNat : Int), str x1638]) rfl (fun F w h => mk67 (x := (⟨c1630, x1638⟩ : D_api_Sub)) h) ?_
      refine at_rown 1 12 rfl rfl rfl (fun hn1647 => ?_)
      refine aa_op rfl rfl ?_
      refine hv_append 1 0 rfl rfl rfl rfl und57 ti67 rfl rfl rfl (by omega) (by omega) rfl (fun s1646 => ?_)
      refine at_rowsnoc 12 0 rfl rfl ?_
      refine aa_pure 16 rfl (by kernel_rfl) rfl rfl (lt_fieldAddr 3 rfl fld59_2 rfl) rfl (ts_in 0 4 rfl rfl) ?_
      refine aa_all (rs := [17]) (by kernel_rfl) rfl (ts_in 0 4 rfl rfl) (List.forall_mem_singleton.2 ?_)
      refine at_rowv 1 rfl (fun ho1648 => ?_)
      replace ho1648 := row_one (by obtain ⟨a, c, h⟩ := ho1648; exact ⟨a, _, c, h⟩)
      refine aa_op rfl rfl (hv_store1 0 (cs' := [str (x1545.take 3), .int .u8 (x1568.toNat : Int), .int .u8 (x1569.toNat : Int), s1646]) rfl rfl ti57 rfl rfl rfl rfl ho1648 ?_)
      refine aa_done (by kernel_rfl) (ts_out rfl) ?_
      refine at_in (s_tr (s_mv rfl (at_lt (lt_add rfl rfl (by simp only [lo, hi]; omega)) rfl (s_as rfl (at_nil (at_int .i64 (x1588 + 1 : Int) (by simp only [lo, hi]; omega) ?_))))))
      refine at_mkpure (q := ((x1589 ++ [(⟨c1630, x1638⟩ : D_api_Sub)]).length * ty67.bytes ≤ 140737488355328)) (by simp only [List.length_append, List.length_cons, List.length_nil, ty67_bytes] <;> omega) ?_
      exact at_again (σ := (Nat × (List D_api_Sub) × Str × UInt8 × UInt8 × (List D_api_Sub))) (V := Value × Nat × (List Value) × Value) (lp := fun n s => m58_l2 x1529 n s.1 s.2.1 s.2.2.1 s.2.2.2.1 s.2.2.2.2.1 s.2.2.2.2.2) (S := fun s e => (⟨[(0, str a0), (2, .pointer (some (Addr.add ⟨b1528, 0, none⟩ 0))), (4, s1531), (5, .pointer (some (Addr.add ⟨b1564, 0, none⟩ 0))), (7, .int .i64 (s.1 : Int))], [⟨b1564, [str (x1545.take 3), .int .u8 (x1568.toNat : Int), .int .u8 (x1569.toNat : Int), e.1], 59⟩, ⟨b1528, [str s.2.2.1, .int .u8 (s.2.2.2.1.toNat : Int), .int .u8 (s.2.2.2.2.1.toNat : Int), e.2.2.2], 59⟩], [⟨e.1, 67, 2, e.2.1, e.2.2.1⟩], [((Ty.int .i64).fact (s.1 : Int) [.int .i64 (s.1 : Int)]), (ty67.row s.2.1 e.2.2.1), (pureF (s.2.1.length * ty67.bytes ≤ 140737488355328)), (Ty.str.fact s.2.2.1 [str s.2.2.1]), ((Ty.slice ty67).fact s.2.2.2.2.2 [e.2.2.2]), (Ty.str.fact a0 [str a0]), ((Ty.slice Ty.str).fact x1529 [s1531])]⟩ : St)) (x1588 + 1, x1589 ++ [(⟨c1630, x1638⟩ : D_api_Sub)], x1590, x1591, x1592, x1593) (s1646, n1595 + 1, i1596 ++ [.int .u8 (c1630.toNat : Int), str x1638], v1597) hr ⟨⟨rfl, ⟨rfl, ⟨rfl, ⟨rfl, ⟨rfl, trivial⟩⟩⟩⟩⟩, ⟨[true, true], rfl⟩, ⟨[false, true], rfl⟩, ⟨[1, 2, 0, 17, 18, 19, 20], rfl⟩⟩
     replace hr := ineg h1625 hr
     refine at_true rfl (nf (decide_eq_false (by omega))) ?_
     refine s_sr (at_lt (lt_build (cs := [str ([] : Str), .int .u8 0, .int .u8 0, (.slice none 0 0)]) rfl ti59 pl59 rfl) rfl (at_hv rfl (hv_store_box 1 (cs' := [str ([] : Str), .int .u8 0, .int .u8 0, (.slice none 0 0)]) rfl rfl ti59 rfl rfl rfl rfl rfl (s_as rfl (s_nt (at_ret ?_))))))
     have hq := oinj hr
     clear hr
     subst hq
     have hq := oinj hk1609
     clear hk1609
     subst hq
     refine at_then_ret (at_in_ret (at_then_ret (at_then_ret (at_in_ret (at_then_ret (at_then_ret ?_))))))
     refine at_str ([] : Str) (by decide) ?_
     refine at_fnil ty67 none ?_
     refine at_derive [1, 0] (ty59.fact (⟨([] : Str), 0, 0, ([] : (List D_api_Sub))⟩ : D_api_Field) [str ([] : Str), .int .u8 0, .int .u8 0, (.slice none 0 0)]) rfl (fun F w h => mk59 (x := (⟨([] : Str), 0, 0, ([] : (List D_api_Sub))⟩ : D_api_Field)) h) ?_
     exact at_return (.tuple #[.agg #[str ([] : Str), .int .u8 0, .int .u8 0, (.slice none 0 0)], .bool false]) [0] hS Tryz.results58 (.cons (.cell 1 rfl ti59 rfl rfl rfl rfl) (.cons (.tmp rfl) .nil)) rfl rfl ⟨((.slice none 0 0)), rfl, rfl⟩
    replace hr := ineg h1612 hr
    refine at_false rfl (decide_eq_false (by omega)) ?_
    refine at_exit (at_then_exit (at_then_exit (at_in_exit ?_)))
    have hq := oinj hr
    clear hr
    subst hq
    exact at_leafP ((x1589, x1590, x1591, x1592, x1593), (v1594, n1595, i1596, v1597)) rfl ⟨⟨rfl, ⟨rfl, ⟨rfl, trivial⟩⟩⟩, ⟨[true, true], rfl⟩, ⟨[true], rfl⟩, ⟨[1, 2, 3, 4, 5], rfl⟩⟩
   rintro ⟨⟨x1598, x1599, x1600, x1601, x1602⟩, ⟨v1603, n1604, i1605, v1606⟩⟩ hp
   replace hr := hk1609
   subst hp
   clear hl1608
   change At _ _ (⟨[(0, str a0), (2, .pointer (some (Addr.add ⟨b1528, 0, none⟩ 0))), (5, .pointer (some (Addr.add ⟨b1564, 0, none⟩ 0)))], [⟨b1564, [str (x1545.take 3), .int .u8 (x1568.toNat : Int), .int .u8 (x1569.toNat : Int), v1603], 59⟩, ⟨b1528, [str x1599, .int .u8 (x1600.toNat : Int), .int .u8 (x1601.toNat : Int), v1606], 59⟩], [⟨v1603, 67, 2, n1604, i1605⟩], [(ty67.row x1598 i1605), (pureF (x1598.length * ty67.bytes ≤ 140737488355328)), (Ty.str.fact x1599 [str x1599]), ((Ty.slice ty67).fact x1602 [v1606]), (Ty.str.fact a0 [str a0])]⟩ : St) _
   refine at_then (at_seq (s_sr (at_lt (lt_load_box 0 rfl ti59 rfl rfl rfl rfl rfl) rfl ?_)))
   replace hr := obind hr
   obtain ⟨x1649, h1650, hr⟩ := hr
   refine at_str (x1545.take 3) (by simp only [List.length_take, List.length_drop]; omega) ?_
   refine at_pure 2 rfl (fun hb1651 => ?_)
   refine at_release 0 1 rfl rfl rfl hb1651 ?_
   refine at_derive [1, 0] (ty59.fact (⟨x1545.take 3, x1568, x1569, x1598⟩ : D_api_Field) [str (x1545.take 3), .int .u8 (x1568.toNat : Int), .int .u8 (x1569.toNat : Int), v1603]) rfl (fun F w h => mk59 (x := (⟨x1545.take 3, x1568, x1569, x1598⟩ : D_api_Field)) h) ?_
   refine at_hv rfl (hv_call0 [0] (f36_spec h1650) rfl rfl rfl rfl ?_)
   rintro _ _ ⟨rfl, rfl⟩
   refine at_lt (lt_not rfl) rfl (s_mv rfl ?_)
   by_cases h1652 : x1649 = true
   ·replace hr := ipos h1652 hr
    refine at_on rfl rfl (nt h1652) (at_lt (lt_load_box 0 rfl ti59 rfl rfl rfl rfl rfl) rfl ?_)
    replace hr := obind hr
    obtain ⟨x1653, h1654, hr⟩ := hr
    refine at_on rfl rfl (nt h1652) (at_hv rfl (hv_call0 [0] (f52_spec h1654) rfl rfl rfl rfl ?_))
    rintro _ _ ⟨rfl, rfl⟩
    refine at_on rfl rfl (nt h1652) (s_mv rfl (at_on rfl rfl (nt h1652) (at_lt (lt_sneq rfl rfl) rfl (at_lt (lt_pick false rfl (nt h1652) rfl) rfl (s_nt ?_)))))
    by_cases h1655 : x1653 = a0
    ·replace hr := ipos h1655 hr
     refine at_false rfl (nt (decide_eq_true h1655)) (at_skip (s_tsr (at_lt (lt_load_box 0 rfl ti59 rfl rfl rfl rfl rfl) rfl ?_)))
     refine at_one 2 rfl (fun ho1656 => ?_)
     refine at_hv rfl (hv_store_box 1 (cs' := [str (x1545.take 3), .int .u8 (x1568.toNat : Int), .int .u8 (x1569.toNat : Int), v1603]) rfl rfl ti59 rfl rfl rfl rfl (allc rfl (allc rfl (allc rfl (allc ho1656 rfl)))) (s_as rfl (s_nt (at_ret ?_))))
     have hq := oinj hr
     clear hr
     subst hq
     exact at_return (.tuple #[.agg #[str (x1545.take 3), .int .u8 (x1568.toNat : Int), .int .u8 (x1569.toNat : Int), v1603], .bool true]) [1] hS Tryz.results58 (.cons (.cell 1 rfl ti59 rfl rfl rfl rfl) (.cons (.tmp rfl) .nil)) rfl rfl ⟨v1603, rfl, rfl⟩
    replace hr := ineg h1655 hr
    refine at_true rfl (nf (decide_eq_false h1655)) (s_sr (at_lt (lt_build (cs := [str ([] : Str), .int .u8 0, .int .u8 0, (.slice none 0 0)]) rfl ti59 pl59 rfl) rfl (at_hv rfl (hv_store_box 1 (cs' := [str ([] : Str), .int .u8 0, .int .u8 0, (.slice none 0 0)]) rfl rfl ti59 rfl rfl rfl rfl rfl (s_as rfl (s_nt (at_ret ?_)))))))
    have hq := oinj hr
    clear hr
    subst hq
    refine at_then_ret ?_
    refine at_str ([] : Str) (by decide) ?_
    refine at_fnil ty67 none ?_
    refine at_derive [1, 0] (ty59.fact (⟨([] : Str), 0, 0, ([] : (List D_api_Sub))⟩ : D_api_Field) [str ([] : Str), .int .u8 0, .int .u8 0, (.slice none 0 0)]) rfl (fun F w h => mk59 (x := (⟨([] : Str), 0, 0, ([] : (List D_api_Sub))⟩ : D_api_Field)) h) ?_
    exact at_return (.tuple #[.agg #[str ([] : Str), .int .u8 0, .int .u8 0, (.slice none 0 0)], .bool false]) [0] hS Tryz.results58 (.cons (.cell 1 rfl ti59 rfl rfl rfl rfl) (.cons (.tmp rfl) .nil)) rfl rfl ⟨((.slice none 0 0)), rfl, rfl⟩
   replace hr := ineg h1652 hr
   refine at_off rfl rfl (nf (bf h1652)) rfl (at_off rfl rfl (nf (bf h1652)) rfl (at_off rfl rfl (nf (bf h1652)) rfl (at_off rfl rfl (nf (bf h1652)) rfl (at_lt (lt_pick true rfl (nf (bf h1652)) rfl) rfl (s_nt (at_true rfl rfl (s_sr (at_lt (lt_build (cs := [str ([] : Str), .int .u8 0, .int .u8 0, (.slice none 0 0)]) rfl ti59 pl59 rfl) rfl (at_hv rfl ?_)))))))))
   refine hv_store_box 1 (cs' := [str ([] : Str), .int .u8 0, .int .u8 0, (.slice none 0 0)]) rfl rfl ti59 rfl rfl rfl rfl rfl (s_as rfl (s_nt (at_ret ?_)))
   have hq := oinj hr
   clear hr
   subst hq
   refine at_then_ret ?_
   refine at_str ([] : Str) (by decide) ?_
   refine at_fnil ty67 none ?_
   refine at_derive [1, 0] (ty59.fact (⟨([] : Str), 0, 0, ([] : (List D_api_Sub))⟩ : D_api_Field) [str ([] : Str), .int .u8 0, .int .u8 0, (.slice none 0 0)]) rfl (fun F w h => mk59 (x := (⟨([] : Str), 0, 0, ([] : (List D_api_Sub))⟩ : D_api_Field)) h) ?_
   exact at_return (.tuple #[.agg #[str ([] : Str), .int .u8 0, .int .u8 0, (.slice none 0 0)], .bool false]) [0] hS Tryz.results58 (.cons (.cell 1 rfl ti59 rfl rfl rfl rfl) (.cons (.tmp rfl) .nil)) rfl rfl ⟨((.slice none 0 0)), rfl, rfl⟩
  replace hr := ineg h1544 hr
  refine at_true rfl (nf (decide_eq_false (by omega))) ?_
  refine s_sr (at_lt (lt_build (cs := [str ([] : Str), .int .u8 0, .int .u8 0, (.slice none 0 0)]) rfl ti59 pl59 rfl) rfl (at_hv rfl (hv_store_box 0 (cs' := [str ([] : Str), .int .u8 0, .int .u8 0, (.slice none 0 0)]) rfl rfl ti59 rfl rfl rfl rfl rfl (s_as rfl (s_nt (at_ret ?_))))))
  have hq := oinj hr
  clear hr
  subst hq
  refine at_then_ret ?_
  refine at_str ([] : Str) (by decide) ?_
  refine at_fnil ty67 none ?_
  refine at_derive [1, 0] (ty59.fact (⟨([] : Str), 0, 0, ([] : (List D_api_Sub))⟩ : D_api_Field) [str ([] : Str), .int .u8 0, .int .u8 0, (.slice none 0 0)]) rfl (fun F w h => mk59 (x := (⟨([] : Str), 0, 0, ([] : (List D_api_Sub))⟩ : D_api_Field)) h) ?_
  exact at_return (.tuple #[.agg #[str ([] : Str), .int .u8 0, .int .u8 0, (.slice none 0 0)], .bool false]) [0] hS Tryz.results58 (.cons (.cell 0 rfl ti59 rfl rfl rfl rfl) (.cons (.tmp rfl) .nil)) rfl rfl ⟨((.slice none 0 0)), rfl, rfl⟩
 replace hr := ineg h1537 hr
 refine at_off rfl rfl (nf (decide_eq_false (by omega))) rfl ?_
 refine at_off rfl rfl (nf (decide_eq_false (by omega))) rfl ?_
 refine at_off rfl rfl (nf (decide_eq_false (by omega))) rfl ?_
 refine at_off rfl rfl (nf (decide_eq_false (by omega))) rfl ?_
 refine at_off rfl rfl (nf (decide_eq_false (by omega))) rfl ?_
 refine at_lt (lt_pick true rfl (nf (decide_eq_false (by omega))) rfl) rfl ?_
 refine s_nt (at_true rfl rfl (s_sr (at_lt (lt_build (cs := [str ([] : Str), .int .u8 0, .int .u8 0, (.slice none 0 0)]) rfl ti59 pl59 rfl) rfl (at_hv rfl (hv_store_box 0 (cs' := [str ([] : Str), .int .u8 0, .int .u8 0, (.slice none 0 0)]) rfl rfl ti59 rfl rfl rfl rfl rfl (s_as rfl (s_nt (at_ret ?_))))))))
 have hq := oinj hr
 clear hr
 subst hq
 refine at_then_ret ?_
 refine at_str ([] : Str) (by decide) ?_
 refine at_fnil ty67 none ?_
 refine at_derive [1, 0] (ty59.fact (⟨([] : Str), 0, 0, ([] : (List D_api_Sub))⟩ : D_api_Field) [str ([] : Str), .int .u8 0, .int .u8 0, (.slice none 0 0)]) rfl (fun F w h => mk59 (x := (⟨([] : Str), 0, 0, ([] : (List D_api_Sub))⟩ : D_api_Field)) h) ?_
 exact at_return (.tuple #[.agg #[str ([] : Str), .int .u8 0, .int .u8 0, (.slice none 0 0)], .bool false]) [0] hS Tryz.results58 (.cons (.cell 0 rfl ti59 rfl rfl rfl rfl) (.cons (.tmp rfl) .nil)) rfl rfl ⟨((.slice none 0 0)), rfl, rfl⟩
def m16_l1 (x1659 : ((List Str) × Str)) : Nat → Nat → Int → (List D_api_Field) → Option (Fl (D_api_Record × Int × Int) (Int × (List D_api_Field)))
  | 0, _, _, _ => none
  | k + 1, x1689, x1690, x1691 =>
    if x1689 < x1659.1.length then
     (x1659.1[x1689]?).bind fun x1705 =>
     (m58 x1705).bind fun x1709 =>
     if x1709.2 = true then
      if 60 < x1689 then
       some (Fl.ret ((⟨0, ([] : (List D_api_Field))⟩ : D_api_Record), (x1689 : Int), 7))
      else
       if x1691.length + 1 ≤ 2932031007402 then
        m16_l1 x1659 k (x1689 + 1) x1690 (x1691 ++ [(⟨x1709.1.Tag, x1709.1.Ind_0, x1709.1.Ind_1, x1709.1.Subs⟩ : D_api_Field)])
       else none
     else
      some (Fl.ret ((⟨0, ([] : (List D_api_Field))⟩ : D_api_Record), (x1689 : Int), 7))
    else
     some (Fl.go (x1690, x1691))
def m16 (a0 : Str) : Option (D_api_Record × Int × Int) :=
  (m18 a0).bind fun x1659 =>
  if x1659.1.length = 0 then
   some ((⟨0, ([] : (List D_api_Field))⟩ : D_api_Record), 0, 7)
  else
   (x1659.1[0]?).bind fun x1665 =>
   if x1665.length < 8 then
    some ((⟨0, ([] : (List D_api_Field))⟩ : D_api_Record), 0, 7)
   else
    (x1659.1[0]?).bind fun x1671 =>
    if 7 ≤ x1671.length then
     if x1671.take 7 = ([114, 101, 99, 111, 114, 100, 32] : Str) then
      (x1659.1[0]?).bind fun x1678 =>
      if 7 ≤ x1678.length then
       (m57 (x1678.drop 7) 1000000000).bind fun x1684 =>
       if x1684.2 = true then
        if x1684.1 = 0 then
         some ((⟨0, ([] : (List D_api_Field))⟩ : D_api_Record), 0, 7)
        else
         (m16_l1 x1659 (x1659.1.length + 1) 1 x1684.1 ([] : (List D_api_Field))).bind fun r => match r with
         | .ret x => some x
         | .go (x1695, x1696) =>
          if x1659.2 = ([] : Str) then
           if x1696.length = 0 then
            some ((⟨0, ([] : (List D_api_Field))⟩ : D_api_Record), (x1659.1.length : Int), 7)
           else
            some ((⟨x1695, x1696⟩ : D_api_Record), 0, 0)
          else
           some ((⟨0, ([] : (List D_api_Field))⟩ : D_api_Record), (x1659.1.length : Int), 7)
       else
        some ((⟨0, ([] : (List D_api_Field))⟩ : D_api_Record), 0, 7)
      else none
     else
      some ((⟨0, ([] : (List D_api_Field))⟩ : D_api_Record), 0, 7)
    else none
def post16 (r : (D_api_Record × Int × Int)) (v : Value) (fs : List Fact) : Prop := ∃ s1729 : Value, v = .tuple #[.agg #[.int .i64 r.1.ID, s1729], .int .i64 r.2.1, .int .i64 r.2.2] ∧ fs = [(ty24.fact r.1 [.int .i64 r.1.ID, s1729]), ((Ty.int .i64).fact r.2.1 [.int .i64 r.2.1]), ((Ty.int .i64).fact r.2.2 [.int .i64 r.2.2])]
theorem en16 : Enters Tryz.prog 16 := ⟨_, Tryz.func16, by kernel_rfl, rfl⟩
theorem f16_spec {a0 : Str} {r : (D_api_Record × Int × Int)} (hr : m16 a0 = some r) : Spec Tryz.prog 16 [str a0] [(Ty.str.fact a0 [str a0])] (post16 r) := by
 refine spec_start (N := 92) Tryz.func16 (by kernel_rfl) rfl rfl rfl ?_
 intro g hS
 unfold m16 at hr
 refine s_sr (at_hv rfl ?_)
 refine hv_alloc (cs := [.int .i64 0, (.slice none 0 0)]) ti24 rfl rfl (fun b1658 => ?_)
 refine s_as rfl (s_as rfl (s_ntsr (s_mv rfl ?_)))
 replace hr := obind hr
 obtain ⟨x1659, h1660, hr⟩ := hr
 refine at_hv rfl (hv_call0 [0] (f18_spec h1660) rfl rfl rfl rfl ?_)
 rintro _ _ ⟨s1661, rfl, rfl⟩
 refine s_mv rfl (at_lt (lt_extract rfl rfl) rfl (at_lt (lt_extract rfl rfl) rfl (s_as rfl (s_as rfl (s_nt (at_seq (s_sr (s_mv rfl ?_))))))))
 refine at_inv 0 rfl (fun i1662 => ?_)
 have l1663 := slice_len i1662
 refine at_lt (lt_flen 0 rfl rfl und34) rfl (at_lt (lt_eql rfl rfl) rfl (s_mv rfl ?_))
 by_cases h1664 : x1659.1.length = 0
 ·replace hr := ipos h1664 hr
  refine at_off rfl rfl (decide_eq_true (by omega)) rfl ?_
  refine at_off rfl rfl (decide_eq_true (by omega)) rfl ?_
  refine at_off rfl rfl (decide_eq_true (by omega)) rfl ?_
  refine at_off rfl rfl (decide_eq_true (by omega)) rfl ?_
  refine at_off rfl rfl (decide_eq_true (by omega)) rfl ?_
  refine at_lt (lt_pick true rfl (decide_eq_true (by omega)) rfl) rfl ?_
  refine s_mv rfl (at_off rfl rfl rfl rfl (at_off rfl rfl rfl rfl (at_off rfl rfl rfl rfl (at_off rfl rfl rfl rfl (at_off rfl rfl rfl rfl (at_lt (lt_pick true rfl rfl rfl) rfl (s_nt (at_true rfl rfl (s_sr ?_)))))))))
  refine at_lt (lt_build (cs := [.int .i64 0, (.slice none 0 0)]) rfl ti24 pl24 rfl) rfl (at_hv rfl (hv_store_box 0 (cs' := [.int .i64 0, (.slice none 0 0)]) rfl rfl ti24 rfl rfl rfl rfl rfl (s_as rfl (s_as rfl (s_nt (at_ret ?_))))))
  have hq := oinj hr
  clear hr
  subst hq
  refine at_then_ret (at_int .i64 0 (by simp only [lo, hi]; omega) (at_fnil ty59 none ?_))
  refine at_derive [1, 0] (ty24.fact (⟨0, ([] : (List D_api_Field))⟩ : D_api_Record) [.int .i64 0, (.slice none 0 0)]) rfl (fun F w h => mk24 (x := (⟨0, ([] : (List D_api_Field))⟩ : D_api_Record)) h) ?_
  refine at_int .i64 7 (by simp only [lo, hi]; omega) ?_
  exact at_return (.tuple #[.agg #[.int .i64 0, (.slice none 0 0)], .int .i64 0, .int .i64 7]) [1, 3, 0] hS Tryz.results16 (.cons (.cell 0 rfl ti24 rfl rfl rfl rfl) (.cons (.tmp rfl) (.cons (.tmp rfl) .nil))) rfl rfl ⟨((.slice none 0 0)), rfl, rfl⟩
 replace hr := ineg h1664 hr
 refine at_on rfl rfl (decide_eq_false (by omega)) ?_
 refine s_mv rfl ?_
 replace hr := obind hr
 obtain ⟨x1665, h1666, hr⟩ := hr
 have := (List.getElem?_eq_some_iff.1 h1666).1
 refine at_elem 0 rfl (nat_at' (i := 0) h1666) (fun p1667 ec pa1668 => ?_)
 refine at_open (A := Unit) 0 rfl (fun _ => ec = [str x1665]) (fun _ => []) (fun F w h => ⟨(), h.1, by simp⟩) ?_
 rintro _ rfl
 refine at_on rfl rfl (decide_eq_false (by omega)) ?_
 refine at_lt (lt_idx rfl rfl pa1668 und34 ti9) rfl ?_
 refine at_on rfl rfl (decide_eq_false (by omega)) ?_
 refine at_lt (lt_load_peek 1 rfl ti9 rfl rfl rfl rfl rfl) rfl ?_
 refine at_inv 0 rfl (fun l1669 => ?_)
 replace l1669 : x1665.length ≤ 9223372036854775807 := l1669
 refine at_on rfl rfl (decide_eq_false (by omega)) ?_
 refine at_lt (lt_slen rfl und9) rfl ?_
 refine at_on rfl rfl (decide_eq_false (by omega)) ?_
 refine at_lt (lt_lss rfl rfl) rfl ?_
 refine at_lt (lt_pick false rfl (decide_eq_false (by omega)) rfl) rfl ?_
 refine s_mv rfl ?_
 by_cases h1670 : x1665.length < 8
 ·replace hr := ipos h1670 hr
  refine at_off rfl rfl (decide_eq_true (by omega)) rfl ?_
  refine at_off rfl rfl (decide_eq_true (by omega)) rfl ?_
  refine at_off rfl rfl (decide_eq_true (by omega)) rfl ?_
  refine at_off rfl rfl (decide_eq_true (by omega)) rfl ?_
  refine at_off rfl rfl (decide_eq_true (by omega)) rfl ?_
  refine at_lt (lt_pick true rfl (decide_eq_true (by omega)) rfl) rfl ?_
  refine s_nt (at_true rfl rfl (s_sr (at_lt (lt_build (cs := [.int .i64 0, (.slice none 0 0)]) rfl ti24 pl24 rfl) rfl (at_hv rfl (hv_store_box 0 (cs' := [.int .i64 0, (.slice none 0 0)]) rfl rfl ti24 rfl rfl rfl rfl rfl (s_as rfl (s_as rfl (s_nt (at_ret ?_)))))))))
  have hq := oinj hr
  clear hr
  subst hq
  refine at_then_ret (at_int .i64 0 (by simp only [lo, hi]; omega) (at_fnil ty59 none ?_))
  refine at_derive [1, 0] (ty24.fact (⟨0, ([] : (List D_api_Field))⟩ : D_api_Record) [.int .i64 0, (.slice none 0 0)]) rfl (fun F w h => mk24 (x := (⟨0, ([] : (List D_api_Field))⟩ : D_api_Record)) h) ?_
  refine at_int .i64 7 (by simp only [lo, hi]; omega) ?_
  exact at_return (.tuple #[.agg #[.int .i64 0, (.slice none 0 0)], .int .i64 0, .int .i64 7]) [1, 3, 0] hS Tryz.results16 (.cons (.cell 0 rfl ti24 rfl rfl rfl rfl) (.cons (.tmp rfl) (.cons (.tmp rfl) .nil))) rfl rfl ⟨((.slice none 0 0)), rfl, rfl⟩
 replace hr := ineg h1670 hr
 refine at_on rfl rfl (decide_eq_false (by omega)) ?_
 refine s_mv rfl ?_
 replace hr := obind hr
 obtain ⟨x1671, h1672, hr⟩ := hr
 have := (List.getElem?_eq_some_iff.1 h1672).1
 refine at_elem 2 rfl (nat_at' (i := 0) h1672) (fun p1673 ec pa1674 => ?_)
 refine at_open (A := Unit) 0 rfl (fun _ => ec = [str x1671]) (fun _ => []) (fun F w h => ⟨(), h.1, by simp⟩) ?_
 rintro _ rfl
 refine at_on rfl rfl (decide_eq_false (by omega)) ?_
 refine at_lt (lt_idx rfl rfl pa1674 und34 ti9) rfl ?_
 refine at_on rfl rfl (decide_eq_false (by omega)) ?_
 refine at_lt (lt_load_peek 1 rfl ti9 rfl rfl rfl rfl rfl) rfl ?_
 replace hr := imust hr
 obtain ⟨h1675, hr⟩ := hr
 refine at_inv 0 rfl (fun l1676 => ?_)
 replace l1676 : x1671.length ≤ 9223372036854775807 := l1676
 refine at_on rfl rfl (decide_eq_false (by omega)) ?_
 refine at_lt (lt_scut_h 7 rfl rfl (by omega) und9 (by omega)) rfl ?_
 refine at_on rfl rfl (decide_eq_false (by omega)) ?_
 refine at_lt (lt_sneq rfl rfl) rfl ?_
 refine at_lt (lt_pick false rfl (decide_eq_false (by omega)) rfl) rfl ?_
 refine s_nt ?_
 by_cases h1677 : x1671.take 7 = ([114, 101, 99, 111, 114, 100, 32] : Str)
 ·replace hr := ipos h1677 hr
  refine at_false rfl (nt (decide_eq_true h1677)) (at_skip (s_tsr (s_mv rfl ?_)))
  replace hr := obind hr
  obtain ⟨x1678, h1679, hr⟩ := hr
  have := (List.getElem?_eq_some_iff.1 h1679).1
  refine at_elem 4 rfl (nat_at' (i := 0) h1679) (fun p1680 ec pa1681 => ?_)
  refine at_open (A := Unit) 0 rfl (fun _ => ec = [str x1678]) (fun _ => []) (fun F w h => ⟨(), h.1, by simp⟩) ?_
  rintro _ rfl
  refine at_lt (lt_idx rfl rfl pa1681 und34 ti9) rfl (at_lt (lt_load_peek 1 rfl ti9 rfl rfl rfl rfl rfl) rfl ?_)
  replace hr := imust hr
  obtain ⟨h1682, hr⟩ := hr
  refine at_inv 0 rfl (fun l1683 => ?_)
  replace l1683 : x1678.length ≤ 9223372036854775807 := l1683
  refine at_lt (lt_scut_l 7 rfl rfl (by omega) und9 (by omega)) rfl ?_
  replace hr := obind hr
  obtain ⟨x1684, h1685, hr⟩ := hr
  refine at_str (x1678.drop 7) (by simp only [List.length_take, List.length_drop]; omega) ?_
  refine at_int .i64 1000000000 (by simp only [lo, hi]; omega) (at_hv rfl (hv_call0 [1, 0] (f57_spec h1685) rfl rfl rfl rfl ?_))
  rintro _ _ ⟨rfl, rfl⟩
  refine at_inv 0 rfl (fun l1686 => ?_)
  replace l1686 : (-9223372036854775808) ≤ x1684.1 ∧ x1684.1 ≤ 9223372036854775807 := l1686
  refine s_mv rfl (at_lt (lt_extract rfl rfl) rfl (at_lt (lt_extract rfl rfl) rfl (s_as rfl (s_as rfl (s_nt (at_seq (s_sr (s_mv rfl (at_lt (lt_not rfl) rfl ?_)))))))))
  refine s_mv rfl ?_
  by_cases h1687 : x1684.2 = true
  ·replace hr := ipos h1687 hr
   refine at_on rfl rfl (nt h1687) (s_mv rfl (at_on rfl rfl (nt h1687) (at_lt (lt_eql rfl rfl) rfl (at_lt (lt_pick false rfl (nt h1687) rfl) rfl (s_nt ?_)))))
   by_cases h1688 : x1684.1 = 0
   ·replace hr := ipos h1688 hr
    refine at_true rfl (decide_eq_true (by first | exact h1688 | omega)) ?_
    refine s_sr (at_lt (lt_build (cs := [.int .i64 0, (.slice none 0 0)]) rfl ti24 pl24 rfl) rfl (at_hv rfl (hv_store_box 0 (cs' := [.int .i64 0, (.slice none 0 0)]) rfl rfl ti24 rfl rfl rfl rfl rfl (s_as rfl (s_as rfl (s_nt (at_ret ?_)))))))
    have hq := oinj hr
    clear hr
    subst hq
    refine at_then_ret (at_int .i64 0 (by simp only [lo, hi]; omega) (at_fnil ty59 none ?_))
    refine at_derive [1, 0] (ty24.fact (⟨0, ([] : (List D_api_Field))⟩ : D_api_Record) [.int .i64 0, (.slice none 0 0)]) rfl (fun F w h => mk24 (x := (⟨0, ([] : (List D_api_Field))⟩ : D_api_Record)) h) ?_
    refine at_int .i64 7 (by simp only [lo, hi]; omega) ?_
    exact at_return (.tuple #[.agg #[.int .i64 0, (.slice none 0 0)], .int .i64 0, .int .i64 7]) [1, 3, 0] hS Tryz.results16 (.cons (.cell 0 rfl ti24 rfl rfl rfl rfl) (.cons (.tmp rfl) (.cons (.tmp rfl) .nil))) rfl rfl ⟨((.slice none 0 0)), rfl, rfl⟩
   replace hr := ineg h1688 hr
   refine at_false rfl (decide_eq_false (by first | exact h1688 | omega)) ?_
   refine at_skip (s_tsr (s_mv rfl (at_lt (lt_fieldAddr 0 rfl fld24_0 rfl) rfl (at_hv rfl (hv_store_box 0 (cs' := [.int .i64 x1684.1, (.slice none 0 0)]) rfl rfl ti3 rfl rfl rfl rfl rfl (s_nt (at_seq (s_sr (s_as rfl ?_)))))))))
   refine s_nt (at_int .i64 1 (by simp only [lo, hi]; omega) (at_rownew none 59 4 (at_rownil ty59 ?_)))
   refine at_mkpure (q := (([] : (List D_api_Field)).length * ty59.bytes ≤ 140737488355328)) (by simp only [List.nil_append, List.cons_append, List.length_cons, List.length_nil, ty59_bytes] <;> omega) ?_
   replace hr := obind hr
   obtain ⟨r1700, hl1701, hk1702⟩ := hr
   refine at_cutP (V := ((Int × (List D_api_Field))) × (Value × Nat × (List Value))) (fun v => r1700 = Fl.go v.1) (fun v => (⟨[(2, .pointer (some (Addr.add ⟨b1658, 0, none⟩ 0))), (5, s1661), (6, str x1659.2)], [⟨b1658, [.int .i64 v.1.1, v.2.1], 24⟩], [⟨v.2.1, 59, 4, v.2.2.1, v.2.2.2⟩], [((Ty.int .i64).fact v.1.1 [.int .i64 v.1.1]), (ty59.row v.1.2 v.2.2.2), (pureF (v.1.2.length * ty59.bytes ≤ 140737488355328)), ((Ty.slice Ty.str).fact x1659.1 [s1661]), (Ty.str.fact x1659.2 [str x1659.2])]⟩ : St)) ?_ ?_
   ·refine at_block ?_
    refine at_loopW (σ := (Nat × Int × (List D_api_Field))) (V := Value × Nat × (List Value)) (r := r1700) (fun n s => m16_l1 x1659 n s.1 s.2.1 s.2.2) (fun s e => (⟨[(2, .pointer (some (Addr.add ⟨b1658, 0, none⟩ 0))), (5, s1661), (6, str x1659.2), (9, .int .i64 (s.1 : Int))], [⟨b1658, [.int .i64 s.2.1, e.1], 24⟩], [⟨e.1, 59, 4, e.2.1, e.2.2⟩], [((Ty.int .i64).fact (s.1 : Int) [.int .i64 (s.1 : Int)]), ((Ty.int .i64).fact s.2.1 [.int .i64 s.2.1]), (ty59.row s.2.2 e.2.2), (pureF (s.2.2.length * ty59.bytes ≤ 140737488355328)), ((Ty.slice Ty.str).fact x1659.1 [s1661]), (Ty.str.fact x1659.2 [str x1659.2])]⟩ : St)) (fun _ => rfl) _ (1, x1684.1, ([] : (List D_api_Field))) ((.slice none 0 0), 0, []) hl1701 ⟨⟨rfl, ⟨rfl, ⟨rfl, ⟨rfl, trivial⟩⟩⟩⟩, ⟨[true], rfl⟩, ⟨[true], rfl⟩, ⟨[2, 3, 1, 0, 12, 13], rfl⟩⟩ ?_
    clear hl1701
    intro n s hr e
    obtain ⟨x1689, x1690, x1691⟩ := s
    obtain ⟨v1692, n1693, i1694⟩ := e
    change m16_l1 x1659 (n + 1) x1689 x1690 x1691 = some r1700 at hr
    change At _ _ (⟨[(2, .pointer (some (Addr.add ⟨b1658, 0, none⟩ 0))), (5, s1661), (6, str x1659.2), (9, .int .i64 (x1689 : Int))], [⟨b1658, [.int .i64 x1690, v1692], 24⟩], [⟨v1692, 59, 4, n1693, i1694⟩], [((Ty.int .i64).fact (x1689 : Int) [.int .i64 (x1689 : Int)]), ((Ty.int .i64).fact x1690 [.int .i64 x1690]), (ty59.row x1691 i1694), (pureF (x1691.length * ty59.bytes ≤ 140737488355328)), ((Ty.slice Ty.str).fact x1659.1 [s1661]), (Ty.str.fact x1659.2 [str x1659.2])]⟩ : St) _
    rw [m16_l1] at hr
    refine at_inv 1 rfl (fun l1703 => ?_)
    replace l1703 : (-9223372036854775808) ≤ x1690 ∧ x1690 ≤ 9223372036854775807 := l1703
    refine at_seq (s_sr (s_mv rfl (s_mv rfl (at_lt (lt_flen 4 rfl rfl und34) rfl (at_lt (lt_lss rfl rfl) rfl (s_nt ?_))))))
    by_cases h1704 : x1689 < x1659.1.length
    ·replace hr := ipos h1704 hr
     refine at_true rfl (decide_eq_true (by omega)) ?_
     refine at_skip (at_then (at_seq (at_block (s_sr (s_mv rfl (s_mv rfl ?_))))))
     replace hr := obind hr
     obtain ⟨x1705, h1706, hr⟩ := hr
     have := (List.getElem?_eq_some_iff.1 h1706).1
     refine at_elem 4 rfl (nat_at' h1706) (fun p1707 ec pa1708 => ?_)
     refine at_open (A := Unit) 0 rfl (fun _ => ec = [str x1705]) (fun _ => []) (fun F w h => ⟨(), h.1, by simp⟩) ?_
     rintro _ rfl
     refine at_lt (lt_idx rfl rfl pa1708 und34 ti9) rfl (at_lt (lt_load_peek 1 rfl ti9 rfl rfl rfl rfl rfl) rfl ?_)
     replace hr := obind hr
     obtain ⟨x1709, h1710, hr⟩ := hr
     refine at_hv rfl (hv_call0 [0] (f58_spec h1710) rfl rfl rfl rfl ?_)
     rintro _ _ ⟨s1711, rfl, rfl⟩
     refine at_open (A := Unit) 0 rfl (fun _ => True) (fun _ => [(Ty.str.fact x1709.1.Tag [str x1709.1.Tag]), ((Ty.slice ty67).fact x1709.1.Subs [s1711])]) (fun F w h => ⟨(), trivial, ex59 h⟩) (fun _ _ => ?_)
     refine s_mv rfl (at_lt (lt_extract rfl rfl) rfl (at_lt (lt_extract rfl rfl) rfl (at_hv rfl ?_)))
     refine hv_alloc (cs := [str ([] : Str), .int .u8 0, .int .u8 0, (.slice none 0 0)]) ti59 rfl rfl (fun b1712 => ?_)
     refine at_one 1 rfl (fun ho1713 => ?_)
     refine at_hv rfl (hv_store_box 0 (cs' := [str x1709.1.Tag, .int .u8 (x1709.1.Ind_0.toNat : Int), .int .u8 (x1709.1.Ind_1.toNat : Int), s1711]) rfl rfl ti59 rfl rfl rfl rfl (allc rfl (allc rfl (allc rfl (allc ho1713 rfl)))) (s_as rfl (s_nt (at_seq (s_sr (s_mv rfl (at_lt (lt_not rfl) rfl (s_mv rfl ?_))))))))
     by_cases h1714 : x1709.2 = true
     ·replace hr := ipos h1714 hr
      refine at_on rfl rfl (nt h1714) (s_mv rfl (at_on rfl rfl (nt h1714) (at_lt (lt_gtr rfl rfl) rfl (at_lt (lt_pick false rfl (nt h1714) rfl) rfl (s_nt ?_)))))
      by_cases h1715 : 60 < x1689
      ·replace hr := ipos h1715 hr
       refine at_true rfl (decide_eq_true (by omega)) ?_
       refine s_sr (at_lt (lt_build (cs := [.int .i64 0, (.slice none 0 0)]) rfl ti24 pl24 rfl) rfl (s_mv rfl (at_hv rfl (hv_store_box 1 (cs' := [.int .i64 0, (.slice none 0 0)]) rfl rfl ti24 rfl rfl rfl rfl rfl (s_as rfl (s_as rfl (s_nt (at_ret ?_))))))))
       have hq := oinj hr
       clear hr
       subst hq
       have hq := oinj hk1702
       clear hk1702
       subst hq
       refine at_then_ret (at_in_ret (at_then_ret (at_then_ret (at_in_ret (at_then_ret (at_then_ret (at_int .i64 0 (by simp only [lo, hi]; omega) (at_fnil ty59 none ?_))))))))
       refine at_derive [1, 0] (ty24.fact (⟨0, ([] : (List D_api_Field))⟩ : D_api_Record) [.int .i64 0, (.slice none 0 0)]) rfl (fun F w h => mk24 (x := (⟨0, ([] : (List D_api_Field))⟩ : D_api_Record)) h) ?_
       refine at_int .i64 7 (by simp only [lo, hi]; omega) ?_
       exact at_return (.tuple #[.agg #[.int .i64 0, (.slice none 0 0)], .int .i64 (x1689 : Int), .int .i64 7]) [1, 9, 0] hS Tryz.results16 (.cons (.cell 1 rfl ti24 rfl rfl rfl rfl) (.cons (.tmp rfl) (.cons (.tmp rfl) .nil))) rfl rfl ⟨((.slice none 0 0)), rfl, rfl⟩
      replace hr := ineg h1715 hr
      refine at_false rfl (decide_eq_false (by omega)) ?_
      refine at_skip (s_tr (at_lt (lt_fieldAddr 1 rfl fld24_1 rfl) rfl (at_lt (lt_load_box 1 rfl ti22 rfl rfl rfl rfl rfl) rfl (at_lt (lt_load_box 0 rfl ti59 rfl rfl rfl rfl rfl) rfl (at_hv rfl ?_)))))
      refine hv_bslice (cs := [str x1709.1.Tag, .int .u8 (x1709.1.Ind_0.toNat : Int), .int .u8 (x1709.1.Ind_1.toNat : Int), s1711]) rfl und22 ti59 rfl rfl rfl rfl rfl (fun s1716 => ?_)
      replace hr := imust hr
      obtain ⟨h1717, hr⟩ := hr
      refine at_derive [0, 1] (ty59.fact (⟨x1709.1.Tag, x1709.1.Ind_0, x1709.1.Ind_1, x1709.1.Subs⟩ : D_api_Field) [str x1709.1.Tag, .int .u8 (x1709.1.Ind_0.toNat : Int), .int .u8 (x1709.1.Ind_1.toNat : Int), s1711]) rfl (fun F w h => mk59 (x := (⟨x1709.1.Tag, x1709.1.Ind_0, x1709.1.Ind_1, x1709.1.Subs⟩ : D_api_Field)) h) ?_
      refine at_rown 1 8 rfl rfl rfl (fun hn1719 => ?_)
      refine at_hv rfl ?_
      refine hv_append 1 0 rfl rfl rfl rfl und22 ti59 rfl rfl (allc rfl (allc rfl (allc rfl (allc ho1713 rfl)))) (by omega) (by omega) rfl (fun s1718 => ?_)
      refine at_rowsnoc 8 0 rfl rfl (at_lt (lt_fieldAddr 1 rfl fld24_1 rfl) rfl ?_)
      refine at_rowv 1 rfl (fun ho1720 => ?_)
      replace ho1720 := row_one (by obtain ⟨a, c, h⟩ := ho1720; exact ⟨a, _, c, h⟩)
      refine at_hv rfl (hv_store1 1 (cs' := [.int .i64 x1690, s1718]) rfl rfl ti22 rfl rfl rfl rfl ho1720 (at_nil (at_in (s_tr (s_mv rfl (at_lt (lt_add rfl rfl (by simp only [lo, hi]; omega)) rfl (s_as rfl (at_nil (at_int .i64 (x1689 + 1 : Int) (by simp only [lo, hi]; omega) ?_)))))))))
      refine at_mkpure (q := ((x1691 ++ [(⟨x1709.1.Tag, x1709.1.Ind_0, x1709.1.Ind_1, x1709.1.Subs⟩ : D_api_Field)]).length * ty59.bytes ≤ 140737488355328)) (by simp only [List.length_append, List.length_cons, List.length_nil, ty59_bytes] <;> omega) ?_
      exact at_again (σ := (Nat × Int × (List D_api_Field))) (V := Value × Nat × (List Value)) (lp := fun n s => m16_l1 x1659 n s.1 s.2.1 s.2.2) (S := fun s e => (⟨[(2, .pointer (some (Addr.add ⟨b1658, 0, none⟩ 0))), (5, s1661), (6, str x1659.2), (9, .int .i64 (s.1 : Int))], [⟨b1658, [.int .i64 s.2.1, e.1], 24⟩], [⟨e.1, 59, 4, e.2.1, e.2.2⟩], [((Ty.int .i64).fact (s.1 : Int) [.int .i64 (s.1 : Int)]), ((Ty.int .i64).fact s.2.1 [.int .i64 s.2.1]), (ty59.row s.2.2 e.2.2), (pureF (s.2.2.length * ty59.bytes ≤ 140737488355328)), ((Ty.slice Ty.str).fact x1659.1 [s1661]), (Ty.str.fact x1659.2 [str x1659.2])]⟩ : St)) (x1689 + 1, x1690, x1691 ++ [(⟨x1709.1.Tag, x1709.1.Ind_0, x1709.1.Ind_1, x1709.1.Subs⟩ : D_api_Field)]) (s1718, n1693 + 1, i1694 ++ [str x1709.1.Tag, .int .u8 (x1709.1.Ind_0.toNat : Int), .int .u8 (x1709.1.Ind_1.toNat : Int), s1711]) hr ⟨⟨rfl, ⟨rfl, ⟨rfl, ⟨rfl, trivial⟩⟩⟩⟩, ⟨[false, true], rfl⟩, ⟨[false, true], rfl⟩, ⟨[1, 10, 2, 0, 13, 14], rfl⟩⟩
     replace hr := ineg h1714 hr
     refine at_off rfl rfl (nf (bf h1714)) rfl (at_off rfl rfl (nf (bf h1714)) rfl (at_lt (lt_pick true rfl (nf (bf h1714)) rfl) rfl (s_nt (at_true rfl rfl (s_sr (at_lt (lt_build (cs := [.int .i64 0, (.slice none 0 0)]) rfl ti24 pl24 rfl) rfl (s_mv rfl (at_hv rfl (hv_store_box 1 (cs' := [.int .i64 0, (.slice none 0 0)]) rfl rfl ti24 rfl rfl rfl rfl rfl ?_)))))))))
     refine s_as rfl (s_as rfl (s_nt (at_ret ?_)))
     have hq := oinj hr
     clear hr
     subst hq
     have hq := oinj hk1702
     clear hk1702
     subst hq
     refine at_then_ret (at_in_ret (at_then_ret (at_then_ret (at_in_ret (at_then_ret (at_then_ret (at_int .i64 0 (by simp only [lo, hi]; omega) (at_fnil ty59 none ?_))))))))
     refine at_derive [1, 0] (ty24.fact (⟨0, ([] : (List D_api_Field))⟩ : D_api_Record) [.int .i64 0, (.slice none 0 0)]) rfl (fun F w h => mk24 (x := (⟨0, ([] : (List D_api_Field))⟩ : D_api_Record)) h) ?_
     refine at_int .i64 7 (by simp only [lo, hi]; omega) ?_
     exact at_return (.tuple #[.agg #[.int .i64 0, (.slice none 0 0)], .int .i64 (x1689 : Int), .int .i64 7]) [1, 9, 0] hS Tryz.results16 (.cons (.cell 1 rfl ti24 rfl rfl rfl rfl) (.cons (.tmp rfl) (.cons (.tmp rfl) .nil))) rfl rfl ⟨((.slice none 0 0)), rfl, rfl⟩
    replace hr := ineg h1704 hr
    refine at_false rfl (decide_eq_false (by omega)) ?_
    refine at_exit (at_then_exit (at_then_exit (at_in_exit ?_)))
    have hq := oinj hr
    clear hr
    subst hq
    exact at_leafP ((x1690, x1691), (v1692, n1693, i1694)) rfl ⟨⟨rfl, ⟨rfl, ⟨rfl, trivial⟩⟩⟩, ⟨[true], rfl⟩, ⟨[true], rfl⟩, ⟨[1, 2, 3, 4, 5], rfl⟩⟩
   rintro ⟨⟨x1695, x1696⟩, ⟨v1697, n1698, i1699⟩⟩ hp
   replace hr := hk1702
   subst hp
   clear hl1701
   change At _ _ (⟨[(2, .pointer (some (Addr.add ⟨b1658, 0, none⟩ 0))), (5, s1661), (6, str x1659.2)], [⟨b1658, [.int .i64 x1695, v1697], 24⟩], [⟨v1697, 59, 4, n1698, i1699⟩], [((Ty.int .i64).fact x1695 [.int .i64 x1695]), (ty59.row x1696 i1699), (pureF (x1696.length * ty59.bytes ≤ 140737488355328)), ((Ty.slice Ty.str).fact x1659.1 [s1661]), (Ty.str.fact x1659.2 [str x1659.2])]⟩ : St) _
   refine at_inv 0 rfl (fun l1721 => ?_)
   replace l1721 : (-9223372036854775808) ≤ x1695 ∧ x1695 ≤ 9223372036854775807 := l1721
   refine at_then (at_seq (s_sr (s_mv rfl (at_lt (lt_sneq rfl rfl) rfl (s_mv rfl ?_)))))
   by_cases h1722 : x1659.2 = ([] : Str)
   ·replace hr := ipos h1722 hr
    refine at_on rfl rfl (nt (decide_eq_true h1722)) (at_lt (lt_fieldAddr 1 rfl fld24_1 rfl) rfl (at_on rfl rfl (nt (decide_eq_true h1722)) (at_lt (lt_load_box 0 rfl ti22 rfl rfl rfl rfl rfl) rfl ?_)))
    refine at_pure 2 rfl (fun hb1725 => ?_)
    simp only [ty59_bytes] at hb1725
    refine at_rown 0 1 rfl rfl rfl (fun hn1723 => ?_)
    refine at_rowv 0 rfl (fun hv1724 => ?_)
    refine at_on rfl rfl (nt (decide_eq_true h1722)) (at_lt (lt_rlen rfl hv1724 und22 hn1723) rfl (at_on rfl rfl (nt (decide_eq_true h1722)) (at_lt (lt_eql rfl rfl) rfl (at_lt (lt_pick false rfl (nt (decide_eq_true h1722)) rfl) rfl (s_nt ?_)))))
    by_cases h1726 : x1696.length = 0
    ·replace hr := ipos h1726 hr
     refine at_true rfl (decide_eq_true (by omega)) ?_
     refine s_sr (at_lt (lt_build (cs := [.int .i64 0, (.slice none 0 0)]) rfl ti24 pl24 rfl) rfl (s_mv rfl (at_lt (lt_flen 3 rfl rfl und34) rfl (at_hv rfl (hv_store_box 0 (cs' := [.int .i64 0, (.slice none 0 0)]) rfl rfl ti24 rfl rfl rfl rfl rfl (s_as rfl (s_as rfl (s_nt (at_ret ?_)))))))))
     have hq := oinj hr
     clear hr
     subst hq
     refine at_then_ret (at_int .i64 0 (by simp only [lo, hi]; omega) (at_fnil ty59 none ?_))
     refine at_derive [1, 0] (ty24.fact (⟨0, ([] : (List D_api_Field))⟩ : D_api_Record) [.int .i64 0, (.slice none 0 0)]) rfl (fun F w h => mk24 (x := (⟨0, ([] : (List D_api_Field))⟩ : D_api_Record)) h) ?_
     refine at_int .i64 (x1659.1.length : Int) (by simp only [lo, hi]; omega) (at_int .i64 7 (by simp only [lo, hi]; omega) ?_)
     exact at_return (.tuple #[.agg #[.int .i64 0, (.slice none 0 0)], .int .i64 (x1659.1.length : Int), .int .i64 7]) [2, 1, 0] hS Tryz.results16 (.cons (.cell 0 rfl ti24 rfl rfl rfl rfl) (.cons (.tmp rfl) (.cons (.tmp rfl) .nil))) rfl rfl ⟨((.slice none 0 0)), rfl, rfl⟩
    replace hr := ineg h1726 hr
    refine at_false rfl (decide_eq_false (by omega)) ?_
    refine at_skip (s_tsr (at_lt (lt_load_box 0 rfl ti24 rfl rfl rfl rfl rfl) rfl ?_))
    refine at_rowv 0 rfl (fun ho1727 => ?_)
    replace ho1727 := row_one (by obtain ⟨a, c, h⟩ := ho1727; exact ⟨a, _, c, h⟩)
    refine at_hv rfl (hv_store_box 0 (cs' := [.int .i64 x1695, v1697]) rfl rfl ti24 rfl rfl rfl rfl (allc rfl (allc ho1727 rfl)) (s_as rfl (s_as rfl (s_nt (at_ret ?_)))))
    have hq := oinj hr
    clear hr
    subst hq
    refine at_pure 2 rfl (fun hb1728 => ?_)
    refine at_release 0 1 rfl rfl rfl hb1728 ?_
    refine at_derive [1, 0] (ty24.fact (⟨x1695, x1696⟩ : D_api_Record) [.int .i64 x1695, v1697]) rfl (fun F w h => mk24 (x := (⟨x1695, x1696⟩ : D_api_Record)) h) ?_
    refine at_int .i64 0 (by simp only [lo, hi]; omega) ?_
    exact at_return (.tuple #[.agg #[.int .i64 x1695, v1697], .int .i64 0, .int .i64 0]) [1, 0, 0] hS Tryz.results16 (.cons (.cell 0 rfl ti24 rfl rfl rfl rfl) (.cons (.tmp rfl) (.cons (.tmp rfl) .nil))) rfl rfl ⟨v1697, rfl, rfl⟩
   replace hr := ineg h1722 hr
   refine at_off rfl rfl (nf (decide_eq_false h1722)) rfl (at_off rfl rfl (nf (decide_eq_false h1722)) rfl (at_off rfl rfl (nf (decide_eq_false h1722)) rfl (at_off rfl rfl (nf (decide_eq_false h1722)) rfl (at_lt (lt_pick true rfl (nf (decide_eq_false h1722)) rfl) rfl (s_nt (at_true rfl rfl (s_sr (at_lt (lt_build (cs := [.int .i64 0, (.slice none 0 0)]) rfl ti24 pl24 rfl) rfl (s_mv rfl ?_)))))))))
   refine at_lt (lt_flen 3 rfl rfl und34) rfl (at_hv rfl (hv_store_box 0 (cs' := [.int .i64 0, (.slice none 0 0)]) rfl rfl ti24 rfl rfl rfl rfl rfl (s_as rfl (s_as rfl (s_nt (at_ret ?_))))))
   have hq := oinj hr
   clear hr
   subst hq
   refine at_then_ret (at_int .i64 0 (by simp only [lo, hi]; omega) (at_fnil ty59 none ?_))
   refine at_derive [1, 0] (ty24.fact (⟨0, ([] : (List D_api_Field))⟩ : D_api_Record) [.int .i64 0, (.slice none 0 0)]) rfl (fun F w h => mk24 (x := (⟨0, ([] : (List D_api_Field))⟩ : D_api_Record)) h) ?_
   refine at_int .i64 (x1659.1.length : Int) (by simp only [lo, hi]; omega) (at_int .i64 7 (by simp only [lo, hi]; omega) ?_)
   exact at_return (.tuple #[.agg #[.int .i64 0, (.slice none 0 0)], .int .i64 (x1659.1.length : Int), .int .i64 7]) [2, 1, 0] hS Tryz.results16 (.cons (.cell 0 rfl ti24 rfl rfl rfl rfl) (.cons (.tmp rfl) (.cons (.tmp rfl) .nil))) rfl rfl ⟨((.slice none 0 0)), rfl, rfl⟩
  replace hr := ineg h1687 hr
  refine at_off rfl rfl (nf (bf h1687)) rfl (at_off rfl rfl (nf (bf h1687)) rfl (at_lt (lt_pick true rfl (nf (bf h1687)) rfl) rfl (s_nt (at_true rfl rfl (s_sr (at_lt (lt_build (cs := [.int .i64 0, (.slice none 0 0)]) rfl ti24 pl24 rfl) rfl (at_hv rfl (hv_store_box 0 (cs' := [.int .i64 0, (.slice none 0 0)]) rfl rfl ti24 rfl rfl rfl rfl rfl (s_as rfl ?_)))))))))
  refine s_as rfl (s_nt (at_ret ?_))
  have hq := oinj hr
  clear hr
  subst hq
  refine at_then_ret (at_int .i64 0 (by simp only [lo, hi]; omega) (at_fnil ty59 none ?_))
  refine at_derive [1, 0] (ty24.fact (⟨0, ([] : (List D_api_Field))⟩ : D_api_Record) [.int .i64 0, (.slice none 0 0)]) rfl (fun F w h => mk24 (x := (⟨0, ([] : (List D_api_Field))⟩ : D_api_Record)) h) ?_
  refine at_int .i64 7 (by simp only [lo, hi]; omega) ?_
  exact at_return (.tuple #[.agg #[.int .i64 0, (.slice none 0 0)], .int .i64 0, .int .i64 7]) [1, 3, 0] hS Tryz.results16 (.cons (.cell 0 rfl ti24 rfl rfl rfl rfl) (.cons (.tmp rfl) (.cons (.tmp rfl) .nil))) rfl rfl ⟨((.slice none 0 0)), rfl, rfl⟩
 replace hr := ineg h1677 hr
 refine at_true rfl (nf (decide_eq_false h1677)) (s_sr (at_lt (lt_build (cs := [.int .i64 0, (.slice none 0 0)]) rfl ti24 pl24 rfl) rfl (at_hv rfl (hv_store_box 0 (cs' := [.int .i64 0, (.slice none 0 0)]) rfl rfl ti24 rfl rfl rfl rfl rfl (s_as rfl (s_as rfl (s_nt (at_ret ?_))))))))
 have hq := oinj hr
 clear hr
 subst hq
 refine at_then_ret (at_int .i64 0 (by simp only [lo, hi]; omega) (at_fnil ty59 none ?_))
 refine at_derive [1, 0] (ty24.fact (⟨0, ([] : (List D_api_Field))⟩ : D_api_Record) [.int .i64 0, (.slice none 0 0)]) rfl (fun F w h => mk24 (x := (⟨0, ([] : (List D_api_Field))⟩ : D_api_Record)) h) ?_
 refine at_int .i64 7 (by simp only [lo, hi]; omega) ?_
 exact at_return (.tuple #[.agg #[.int .i64 0, (.slice none 0 0)], .int .i64 0, .int .i64 7]) [1, 3, 0] hS Tryz.results16 (.cons (.cell 0 rfl ti24 rfl rfl rfl rfl) (.cons (.tmp rfl) (.cons (.tmp rfl) .nil))) rfl rfl ⟨((.slice none 0 0)), rfl, rfl⟩
def m46_l1 (a0 : D_api_Field) (a1 : D_api_Field) : Nat → Nat → Option (Fl Bool Unit)
  | 0, _ => none
  | k + 1, x1741 =>
    if x1741 < a0.Subs.length then
     (a0.Subs[x1741]?).bind fun x1746 =>
     (a1.Subs[x1741]?).bind fun x1750 =>
     if (decide (((x1746.Code.toNat : Int) : Int) = (x1750.Code.toNat : Int)) && decide (x1746.Value = x1750.Value)) = true then
      m46_l1 a0 a1 k (x1741 + 1)
     else
      some (Fl.ret false)
    else
     some (Fl.go ())
def m46 (a0 : D_api_Field) (a1 : D_api_Field) : Option Bool :=
  if a0.Tag = a1.Tag then
   if (decide (((a0.Ind_0.toNat : Int) : Int) = (a1.Ind_0.toNat : Int)) && decide (((a0.Ind_1.toNat : Int) : Int) = (a1.Ind_1.toNat : Int))) = true then
    if a0.Subs.length = a1.Subs.length then
     (m46_l1 a0 a1 (a0.Subs.length + 1) 0).bind fun r => match r with
     | .ret x => some x
     | .go _ =>
      some true
    else
     some false
   else
    some false
  else
   some false
def post46 (r : Bool) (v : Value) (fs : List Fact) : Prop := v = .bool r ∧ fs = []
theorem en46 : Enters Tryz.prog 46 := ⟨_, Tryz.func46, by kernel_rfl, rfl⟩
theorem f46_spec {a0 : D_api_Field} {a1 : D_api_Field} {s1730 : Value} {s1731 : Value} {r : Bool} (hr : m46 a0 a1 = some r) : Spec Tryz.prog 46 [.agg #[str a0.Tag, .int .u8 (a0.Ind_0.toNat : Int), .int .u8 (a0.Ind_1.toNat : Int), s1730], .agg #[str a1.Tag, .int .u8 (a1.Ind_0.toNat : Int), .int .u8 (a1.Ind_1.toNat : Int), s1731]] [(ty59.fact a0 [str a0.Tag, .int .u8 (a0.Ind_0.toNat : Int), .int .u8 (a0.Ind_1.toNat : Int), s1730]), (ty59.fact a1 [str a1.Tag, .int .u8 (a1.Ind_0.toNat : Int), .int .u8 (a1.Ind_1.toNat : Int), s1731])] (post46 r) := by
 refine spec_start (N := 45) Tryz.func46 (by kernel_rfl) rfl rfl rfl ?_
 intro g hS
 unfold m46 at hr
 refine at_open (A := Unit) 0 rfl (fun _ => True) (fun _ => [(Ty.str.fact a0.Tag [str a0.Tag]), ((Ty.slice ty67).fact a0.Subs [s1730])]) (fun F w h => ⟨(), trivial, ex59 h⟩) (fun _ _ => ?_)
 refine at_open (A := Unit) 3 rfl (fun _ => True) (fun _ => [(Ty.str.fact a1.Tag [str a1.Tag]), ((Ty.slice ty67).fact a1.Subs [s1731])]) (fun F w h => ⟨(), trivial, ex59 h⟩) (fun _ _ => ?_)
 refine s_sr (at_hv rfl ?_)
 refine hv_box (cs := [str a0.Tag, .int .u8 (a0.Ind_0.toNat : Int), .int .u8 (a0.Ind_1.toNat : Int), s1730]) rfl rfl rfl (fun b1732 => ?_)
 refine at_hv rfl ?_
 refine hv_box (cs := [str a1.Tag, .int .u8 (a1.Ind_0.toNat : Int), .int .u8 (a1.Ind_1.toNat : Int), s1731]) rfl rfl rfl (fun b1733 => ?_)
 refine s_as rfl (s_nt (at_seq (s_sr (at_lt (lt_fieldAddr 0 rfl fld59_0 rfl) rfl (at_lt (lt_load_box 1 rfl ti9 rfl rfl rfl rfl rfl) rfl (at_lt (lt_fieldAddr 0 rfl fld59_0 rfl) rfl (at_lt (lt_load_box 0 rfl ti9 rfl rfl rfl rfl rfl) rfl (at_lt (lt_sneq rfl rfl) rfl (s_mv rfl ?_)))))))))
 by_cases h1734 : a0.Tag = a1.Tag
 ·replace hr := ipos h1734 hr
  refine at_on rfl rfl (nt (decide_eq_true h1734)) (at_lt (lt_fieldAddr 1 rfl fld59_1 rfl) rfl (at_on rfl rfl (nt (decide_eq_true h1734)) (at_lt (lt_load_box 1 rfl ti56 rfl rfl rfl rfl rfl) rfl (at_on rfl rfl (nt (decide_eq_true h1734)) (at_lt (lt_fieldAddr 1 rfl fld59_1 rfl) rfl (at_on rfl rfl (nt (decide_eq_true h1734)) (at_lt (lt_load_box 0 rfl ti56 rfl rfl rfl rfl rfl) rfl (at_on rfl rfl (nt (decide_eq_true h1734)) (at_lt (lt_stne rfl rfl eg56 eqt56) rfl ?_)))))))))
  refine at_lt (lt_pick false rfl (nt (decide_eq_true h1734)) rfl) rfl (s_mv rfl ?_)
  by_cases h1735 : (decide (((a0.Ind_0.toNat : Int) : Int) = (a1.Ind_0.toNat : Int)) && decide (((a0.Ind_1.toNat : Int) : Int) = (a1.Ind_1.toNat : Int))) = true
  ·replace hr := ipos h1735 hr
   refine at_on rfl rfl (nt h1735) (at_lt (lt_fieldAddr 3 rfl fld59_2 rfl) rfl (at_on rfl rfl (nt h1735) (at_lt (lt_load_box 1 rfl ti57 rfl rfl rfl rfl rfl) rfl ?_)))
   refine at_inv 3 rfl (fun i1736 => ?_)
   have l1737 := slice_len i1736
   refine at_on rfl rfl (nt h1735) (at_lt (lt_flen 3 rfl rfl und57) rfl (at_on rfl rfl (nt h1735) (at_lt (lt_fieldAddr 3 rfl fld59_2 rfl) rfl (at_on rfl rfl (nt h1735) (at_lt (lt_load_box 0 rfl ti57 rfl rfl rfl rfl rfl) rfl ?_)))))
   refine at_inv 1 rfl (fun i1738 => ?_)
   have l1739 := slice_len i1738
   refine at_on rfl rfl (nt h1735) (at_lt (lt_flen 1 rfl rfl und57) rfl (at_on rfl rfl (nt h1735) (at_lt (lt_neq rfl rfl) rfl (at_lt (lt_pick false rfl (nt h1735) rfl) rfl (s_nt ?_)))))
   by_cases h1740 : a0.Subs.length = a1.Subs.length
   ·replace hr := ipos h1740 hr
    refine at_false rfl (nt (decide_eq_true (by omega))) ?_
    refine at_skip (at_then (at_seq (s_sr (s_as rfl (s_nt (at_int .i64 0 (by simp only [lo, hi]; omega) ?_))))))
    replace hr := obind hr
    obtain ⟨r1742, hl1743, hk1744⟩ := hr
    refine at_cutP (V := (Unit) × (Unit)) (fun v => r1742 = Fl.go v.1) (fun v => (⟨[], [], [], []⟩ : St)) ?_ ?_
    ·refine at_block ?_
     refine at_loopW (σ := Nat) (V := Unit) (r := r1742) (fun n s => m46_l1 a0 a1 n s) (fun s e => (⟨[(2, .pointer (some (Addr.add ⟨b1732, 0, none⟩ 0))), (3, .pointer (some (Addr.add ⟨b1733, 0, none⟩ 0))), (5, .int .i64 (s : Int))], [⟨b1733, [str a1.Tag, .int .u8 (a1.Ind_0.toNat : Int), .int .u8 (a1.Ind_1.toNat : Int), s1731], 59⟩, ⟨b1732, [str a0.Tag, .int .u8 (a0.Ind_0.toNat : Int), .int .u8 (a0.Ind_1.toNat : Int), s1730], 59⟩], [], [((Ty.int .i64).fact (s : Int) [.int .i64 (s : Int)]), (Ty.str.fact a1.Tag [str a1.Tag]), ((Ty.slice ty67).fact a1.Subs [s1731]), (Ty.str.fact a0.Tag [str a0.Tag]), ((Ty.slice ty67).fact a0.Subs [s1730])]⟩ : St)) (fun _ => rfl) _ 0 () hl1743 ⟨⟨rfl, ⟨rfl, ⟨rfl, trivial⟩⟩⟩, ⟨[true, true], rfl⟩, ⟨[], rfl⟩, ⟨[0, 1, 2, 3, 4], rfl⟩⟩ ?_
     clear hl1743
     intro n x1741 hr e
     skip
     skip
     change m46_l1 a0 a1 (n + 1) x1741 = some r1742 at hr
     change At _ _ (⟨[(2, .pointer (some (Addr.add ⟨b1732, 0, none⟩ 0))), (3, .pointer (some (Addr.add ⟨b1733, 0, none⟩ 0))), (5, .int .i64 (x1741 : Int))], [⟨b1733, [str a1.Tag, .int .u8 (a1.Ind_0.toNat : Int), .int .u8 (a1.Ind_1.toNat : Int), s1731], 59⟩, ⟨b1732, [str a0.Tag, .int .u8 (a0.Ind_0.toNat : Int), .int .u8 (a0.Ind_1.toNat : Int), s1730], 59⟩], [], [((Ty.int .i64).fact (x1741 : Int) [.int .i64 (x1741 : Int)]), (Ty.str.fact a1.Tag [str a1.Tag]), ((Ty.slice ty67).fact a1.Subs [s1731]), (Ty.str.fact a0.Tag [str a0.Tag]), ((Ty.slice ty67).fact a0.Subs [s1730])]⟩ : St) _
     rw [m46_l1] at hr
     refine at_seq (s_sr (s_mv rfl (at_lt (lt_fieldAddr 3 rfl fld59_2 rfl) rfl (at_lt (lt_load_box 1 rfl ti57 rfl rfl rfl rfl rfl) rfl (at_lt (lt_flen 4 rfl rfl und57) rfl (at_lt (lt_lss rfl rfl) rfl (s_nt ?_)))))))
     by_cases h1745 : x1741 < a0.Subs.length
     ·replace hr := ipos h1745 hr
      refine at_true rfl (decide_eq_true (by omega)) ?_
      refine at_skip (at_then (at_seq (at_block (at_seq ?_))))
      replace hr := obind hr
      obtain ⟨x1746, h1747, hr⟩ := hr
      have := (List.getElem?_eq_some_iff.1 h1747).1
      refine at_elem 4 rfl (nat_at' h1747) (fun p1748 ec pa1749 => ?_)
      refine at_open (A := Unit) 0 rfl _ _ (fun F w h => op67 h) ?_
      rintro _ rfl
      replace hr := obind hr
      obtain ⟨x1750, h1751, hr⟩ := hr
      have := (List.getElem?_eq_some_iff.1 h1751).1
      refine at_elem 5 rfl (nat_at' h1751) (fun p1752 ec pa1753 => ?_)
      refine at_open (A := Unit) 0 rfl _ _ (fun F w h => op67 h) ?_
      rintro _ rfl
      refine aa_start 11 (by kernel_rfl) ?_
      refine aa_p 0 rfl (lt_fieldAddr 3 rfl fld59_2 rfl) (aa_l 1 rfl (lt_load_box 1 rfl ti57 rfl rfl rfl rfl rfl) (aa_p 2 rfl (lt_move rfl) (aa_p 3 rfl (lt_idx rfl rfl pa1749 und57 ti67) (aa_l 4 rfl (lt_load_peek 5 rfl ti67 rfl rfl rfl rfl rfl) (aa_p 5 rfl (lt_fieldAddr 3 rfl fld59_2 rfl) (aa_l 6 rfl (lt_load_box 0 rfl ti57 rfl rfl rfl rfl rfl) (aa_p 7 rfl (lt_move rfl) (aa_p 8 rfl (lt_idx rfl rfl pa1753 und57 ti67) (aa_l 9 rfl (lt_load_peek 2 rfl ti67 rfl rfl rfl rfl rfl) ?_)))))))))
      refine aa_p 10 rfl (lt_stne rfl rfl eg67 eqt67) ?_
      refine aa_done (by kernel_rfl) (ts_in 0 0 rfl rfl) ?_
      refine at_then ?_
      by_cases h1754 : (decide (((x1746.Code.toNat : Int) : Int) = (x1750.Code.toNat : Int)) && decide (x1746.Value = x1750.Value)) = true
      ·replace hr := ipos h1754 hr
       refine at_false rfl (nt h1754) (at_skip (at_in (s_tr (s_mv rfl (at_lt (lt_add rfl rfl (by simp only [lo, hi]; omega)) rfl (s_as rfl (at_nil (at_int .i64 (x1741 + 1 : Int) (by simp only [lo, hi]; omega) ?_))))))))
       exact at_again (σ := Nat) (V := Unit) (lp := fun n s => m46_l1 a0 a1 n s) (S := fun s e => (⟨[(2, .pointer (some (Addr.add ⟨b1732, 0, none⟩ 0))), (3, .pointer (some (Addr.add ⟨b1733, 0, none⟩ 0))), (5, .int .i64 (s : Int))], [⟨b1733, [str a1.Tag, .int .u8 (a1.Ind_0.toNat : Int), .int .u8 (a1.Ind_1.toNat : Int), s1731], 59⟩, ⟨b1732, [str a0.Tag, .int .u8 (a0.Ind_0.toNat : Int), .int .u8 (a0.Ind_1.toNat : Int), s1730], 59⟩], [], [((Ty.int .i64).fact (s : Int) [.int .i64 (s : Int)]), (Ty.str.fact a1.Tag [str a1.Tag]), ((Ty.slice ty67).fact a1.Subs [s1731]), (Ty.str.fact a0.Tag [str a0.Tag]), ((Ty.slice ty67).fact a0.Subs [s1730])]⟩ : St)) (x1741 + 1) () hr ⟨⟨rfl, ⟨rfl, ⟨rfl, trivial⟩⟩⟩, ⟨[true, true], rfl⟩, ⟨[], rfl⟩, ⟨[0, 8, 9, 10, 11], rfl⟩⟩
      replace hr := ineg h1754 hr
      refine at_true rfl (nf (bf h1754)) (s_sr (s_as rfl (s_nt (at_ret ?_))))
      have hq := oinj hr
      clear hr
      subst hq
      have hq := oinj hk1744
      clear hk1744
      subst hq
      refine at_in_ret (at_then_ret (at_then_ret (at_in_ret (at_then_ret (at_then_ret ?_)))))
      exact at_return (.bool false) [] hS Tryz.results46 (.cons (.tmp rfl) .nil) rfl rfl ⟨rfl, rfl⟩
     replace hr := ineg h1745 hr
     refine at_false rfl (decide_eq_false (by omega)) ?_
     refine at_exit (at_then_exit (at_then_exit (at_in_exit ?_)))
     have hq := oinj hr
     clear hr
     subst hq
     exact at_leafP ((), ()) rfl ⟨trivial, ⟨[false, false], rfl⟩, ⟨[], rfl⟩, ⟨[], rfl⟩⟩
    rintro ⟨_, _⟩ hp
    replace hr := hk1744
    subst hp
    clear hl1743
    change At _ _ (⟨[], [], [], []⟩ : St) _
    refine s_tsr (s_as rfl (s_nt (at_ret ?_)))
    have hq := oinj hr
    clear hr
    subst hq
    exact at_return (.bool true) [] hS Tryz.results46 (.cons (.tmp rfl) .nil) rfl rfl ⟨rfl, rfl⟩
   replace hr := ineg h1740 hr
   refine at_true rfl (nf (decide_eq_false (by omega))) ?_
   refine s_sr (s_as rfl (s_nt (at_ret ?_)))
   have hq := oinj hr
   clear hr
   subst hq
   refine at_then_ret ?_
   exact at_return (.bool false) [] hS Tryz.results46 (.cons (.tmp rfl) .nil) rfl rfl ⟨rfl, rfl⟩
  replace hr := ineg h1735 hr
  refine at_off rfl rfl (nf (bf h1735)) rfl (at_off rfl rfl (nf (bf h1735)) rfl (at_off rfl rfl (nf (bf h1735)) rfl (at_off rfl rfl (nf (bf h1735)) rfl (at_off rfl rfl (nf (bf h1735)) rfl (at_off rfl rfl (nf (bf h1735)) rfl (at_off rfl rfl (nf (bf h1735)) rfl (at_lt (lt_pick true rfl (nf (bf h1735)) rfl) rfl (s_nt (at_true rfl rfl ?_)))))))))
  refine s_sr (s_as rfl (s_nt (at_ret ?_)))
  have hq := oinj hr
  clear hr
  subst hq
  refine at_then_ret ?_
  exact at_return (.bool false) [] hS Tryz.results46 (.cons (.tmp rfl) .nil) rfl rfl ⟨rfl, rfl⟩
 replace hr := ineg h1734 hr
 refine at_off rfl rfl (nf (decide_eq_false h1734)) rfl (at_off rfl rfl (nf (decide_eq_false h1734)) rfl (at_off rfl rfl (nf (decide_eq_false h1734)) rfl (at_off rfl rfl (nf (decide_eq_false h1734)) rfl (at_off rfl rfl (nf (decide_eq_false h1734)) rfl (at_lt (lt_pick true rfl (nf (decide_eq_false h1734)) rfl) rfl (s_mv rfl (at_off rfl rfl rfl rfl (at_off rfl rfl rfl rfl (at_off rfl rfl rfl rfl ?_)))))))))
 refine at_off rfl rfl rfl rfl (at_off rfl rfl rfl rfl (at_off rfl rfl rfl rfl (at_off rfl rfl rfl rfl (at_lt (lt_pick true rfl rfl rfl) rfl (s_nt (at_true rfl rfl (s_sr (s_as rfl (s_nt ?_)))))))))
 refine at_ret ?_
 have hq := oinj hr
 clear hr
 subst hq
 refine at_then_ret ?_
 exact at_return (.bool false) [] hS Tryz.results46 (.cons (.tmp rfl) .nil) rfl rfl ⟨rfl, rfl⟩
def m21_l1 (a0 : (List D_api_Field)) (a1 : (List D_api_Field)) : Nat → Nat → Option (Fl Bool Unit)
  | 0, _ => none
  | k + 1, x1762 =>
    if x1762 < a0.length then
     (a0[x1762]?).bind fun x1767 =>
     (a1[x1762]?).bind fun x1772 =>
     (m46 x1767 x1772).bind fun x1777 =>
     if x1777 = true then
      m21_l1 a0 a1 k (x1762 + 1)
     else
      some (Fl.ret false)
    else
     some (Fl.go ())
def m21 (a0 : (List D_api_Field)) (a1 : (List D_api_Field)) : Option Bool :=
  if a0.length = a1.length then
   (m21_l1 a0 a1 (a0.length + 1) 0).bind fun r => match r with
   | .ret x => some x
   | .go _ =>
    some true
  else
   some false
def post21 (r : Bool) (v : Value) (fs : List Fact) : Prop := v = .bool r ∧ fs = []
theorem en21 : Enters Tryz.prog 21 := ⟨_, Tryz.func21, by kernel_rfl, rfl⟩
theorem f21_spec {a0 : (List D_api_Field)} {a1 : (List D_api_Field)} {w1755 : Value} {w1756 : Value} {r : Bool} (hr : m21 a0 a1 = some r) : Spec Tryz.prog 21 [w1755, w1756] [((Ty.slice ty59).fact a0 [w1755]), ((Ty.slice ty59).fact a1 [w1756])] (post21 r) := by
 refine spec_start (N := 27) Tryz.func21 (by kernel_rfl) rfl rfl rfl ?_
 intro g hS
 unfold m21 at hr
 refine s_sr (s_as rfl (s_nt (at_seq (s_sr (s_mv rfl ?_)))))
 refine at_inv 0 rfl (fun i1757 => ?_)
 have l1758 := slice_len i1757
 refine at_lt (lt_flen 0 rfl rfl und22) rfl (s_mv rfl ?_)
 refine at_inv 1 rfl (fun i1759 => ?_)
 have l1760 := slice_len i1759
 refine at_lt (lt_flen 1 rfl rfl und22) rfl (at_lt (lt_neq rfl rfl) rfl (s_nt ?_))
 by_cases h1761 : a0.length = a1.length
 ·replace hr := ipos h1761 hr
  refine at_false rfl (nt (decide_eq_true (by omega))) ?_
  refine at_skip (at_then (at_seq (s_sr (s_as rfl (s_nt (at_int .i64 0 (by simp only [lo, hi]; omega) ?_))))))
  replace hr := obind hr
  obtain ⟨r1763, hl1764, hk1765⟩ := hr
  refine at_cutP (V := (Unit) × (Unit)) (fun v => r1763 = Fl.go v.1) (fun v => (⟨[], [], [], []⟩ : St)) ?_ ?_
  ·refine at_block ?_
   refine at_loopW (σ := Nat) (V := Unit) (r := r1763) (fun n s => m21_l1 a0 a1 n s) (fun s e => (⟨[(0, w1755), (1, w1756), (5, .int .i64 (s : Int))], [], [], [((Ty.int .i64).fact (s : Int) [.int .i64 (s : Int)]), ((Ty.slice ty59).fact a0 [w1755]), ((Ty.slice ty59).fact a1 [w1756])]⟩ : St)) (fun _ => rfl) _ 0 () hl1764 ⟨⟨rfl, ⟨rfl, ⟨rfl, trivial⟩⟩⟩, ⟨[], rfl⟩, ⟨[], rfl⟩, ⟨[0, 1, 2], rfl⟩⟩ ?_
   clear hl1764
   intro n x1762 hr e
   skip
   skip
   change m21_l1 a0 a1 (n + 1) x1762 = some r1763 at hr
   change At _ _ (⟨[(0, w1755), (1, w1756), (5, .int .i64 (x1762 : Int))], [], [], [((Ty.int .i64).fact (x1762 : Int) [.int .i64 (x1762 : Int)]), ((Ty.slice ty59).fact a0 [w1755]), ((Ty.slice ty59).fact a1 [w1756])]⟩ : St) _
   rw [m21_l1] at hr
   refine at_seq (s_sr (s_mv rfl (s_mv rfl (at_lt (lt_flen 1 rfl rfl und22) rfl (at_lt (lt_lss rfl rfl) rfl (s_nt ?_))))))
   by_cases h1766 : x1762 < a0.length
   ·replace hr := ipos h1766 hr
    refine at_true rfl (decide_eq_true (by omega)) ?_
    refine at_skip (at_then (at_seq (at_block (at_seq ?_))))
    replace hr := obind hr
    obtain ⟨x1767, h1768, hr⟩ := hr
    have := (List.getElem?_eq_some_iff.1 h1768).1
    refine at_elem 1 rfl (nat_at' h1768) (fun p1770 ec pa1771 => ?_)
    refine at_open (A := Value) 0 rfl _ _ (fun F w h => op59 h) ?_
    rintro s1769 rfl
    replace hr := obind hr
    obtain ⟨x1772, h1773, hr⟩ := hr
    have := (List.getElem?_eq_some_iff.1 h1773).1
    refine at_elem 6 rfl (nat_at' h1773) (fun p1775 ec pa1776 => ?_)
    refine at_open (A := Value) 0 rfl _ _ (fun F w h => op59 h) ?_
    rintro s1774 rfl
    replace hr := obind hr
    obtain ⟨x1777, h1778, hr⟩ := hr
    refine aa_start 10 (by kernel_rfl) ?_
    refine aa_p 0 rfl (lt_move rfl) (aa_p 1 rfl (lt_move rfl) (aa_p 2 rfl (lt_idx rfl rfl pa1771 und22 ti59) (aa_l 3 rfl (lt_load_peek 7 rfl ti59 rfl rfl rfl rfl rfl) (aa_p 4 rfl (lt_move rfl) (aa_p 5 rfl (lt_move rfl) (aa_p 6 rfl (lt_idx rfl rfl pa1776 und22 ti59) (aa_l 7 rfl (lt_load_peek 3 rfl ti59 rfl rfl rfl rfl rfl) (aa_one 8 (aa_op rfl rfl ?_)))))))))
    refine hv_call0 [6, 2] (f46_spec h1778) rfl rfl rfl rfl ?_
    rintro _ _ ⟨rfl, rfl⟩
    refine aa_p 9 rfl (lt_not rfl) ?_
    refine aa_done (by kernel_rfl) (ts_in 0 0 rfl rfl) ?_
    refine at_then ?_
    by_cases h1779 : x1777 = true
    ·replace hr := ipos h1779 hr
     refine at_false rfl (nt h1779) (at_skip (at_in (s_tr (s_mv rfl (at_lt (lt_add rfl rfl (by simp only [lo, hi]; omega)) rfl (s_as rfl (at_nil (at_int .i64 (x1762 + 1 : Int) (by simp only [lo, hi]; omega) ?_))))))))
     exact at_again (σ := Nat) (V := Unit) (lp := fun n s => m21_l1 a0 a1 n s) (S := fun s e => (⟨[(0, w1755), (1, w1756), (5, .int .i64 (s : Int))], [], [], [((Ty.int .i64).fact (s : Int) [.int .i64 (s : Int)]), ((Ty.slice ty59).fact a0 [w1755]), ((Ty.slice ty59).fact a1 [w1756])]⟩ : St)) (x1762 + 1) () hr ⟨⟨rfl, ⟨rfl, ⟨rfl, trivial⟩⟩⟩, ⟨[], rfl⟩, ⟨[], rfl⟩, ⟨[0, 10, 11], rfl⟩⟩
    replace hr := ineg h1779 hr
    refine at_true rfl (nf (bf h1779)) (s_sr (s_as rfl (s_nt (at_ret ?_))))
    have hq := oinj hr
    clear hr
    subst hq
    have hq := oinj hk1765
    clear hk1765
    subst hq
    refine at_in_ret (at_then_ret (at_then_ret (at_in_ret (at_then_ret (at_then_ret ?_)))))
    exact at_return (.bool false) [] hS Tryz.results21 (.cons (.tmp rfl) .nil) rfl rfl ⟨rfl, rfl⟩
   replace hr := ineg h1766 hr
   refine at_false rfl (decide_eq_false (by omega)) ?_
   refine at_exit (at_then_exit (at_then_exit (at_in_exit ?_)))
   have hq := oinj hr
   clear hr
   subst hq
   exact at_leafP ((), ()) rfl ⟨trivial, ⟨[], rfl⟩, ⟨[], rfl⟩, ⟨[], rfl⟩⟩
  rintro ⟨_, _⟩ hp
  replace hr := hk1765
  subst hp
  clear hl1764
  change At _ _ (⟨[], [], [], []⟩ : St) _
  refine s_tsr (s_as rfl (s_nt (at_ret ?_)))
  have hq := oinj hr
  clear hr
  subst hq
  exact at_return (.bool true) [] hS Tryz.results21 (.cons (.tmp rfl) .nil) rfl rfl ⟨rfl, rfl⟩
 replace hr := ineg h1761 hr
 refine at_true rfl (nf (decide_eq_false (by omega))) ?_
 refine s_sr (s_as rfl (s_nt (at_ret ?_)))
 have hq := oinj hr
 clear hr
 subst hq
 refine at_then_ret ?_
 exact at_return (.bool false) [] hS Tryz.results21 (.cons (.tmp rfl) .nil) rfl rfl ⟨rfl, rfl⟩
def m17 (a0 : D_api_Record) (a1 : D_api_Record) : Option Bool :=
  if a0.ID = a1.ID then
   (m21 a0.Fields a1.Fields).bind fun x1787 =>
   some x1787
  else
   some false
def post17 (r : Bool) (v : Value) (fs : List Fact) : Prop := v = .bool r ∧ fs = []
theorem en17 : Enters Tryz.prog 17 := ⟨_, Tryz.func17, by kernel_rfl, rfl⟩
theorem f17_spec {a0 : D_api_Record} {a1 : D_api_Record} {s1780 : Value} {s1781 : Value} {r : Bool} (hr : m17 a0 a1 = some r) : Spec Tryz.prog 17 [.agg #[.int .i64 a0.ID, s1780], .agg #[.int .i64 a1.ID, s1781]] [(ty24.fact a0 [.int .i64 a0.ID, s1780]), (ty24.fact a1 [.int .i64 a1.ID, s1781])] (post17 r) := by
 refine spec_start (N := 17) Tryz.func17 (by kernel_rfl) rfl rfl rfl ?_
 intro g hS
 unfold m17 at hr
 refine at_open (A := Unit) 0 rfl (fun _ => True) (fun _ => [((Ty.int .i64).fact a0.ID [.int .i64 a0.ID]), ((Ty.slice ty59).fact a0.Fields [s1780])]) (fun F w h => ⟨(), trivial, ex24 h⟩) (fun _ _ => ?_)
 refine at_inv 0 rfl (fun l1782 => ?_)
 replace l1782 : (-9223372036854775808) ≤ a0.ID ∧ a0.ID ≤ 9223372036854775807 := l1782
 refine at_open (A := Unit) 3 rfl (fun _ => True) (fun _ => [((Ty.int .i64).fact a1.ID [.int .i64 a1.ID]), ((Ty.slice ty59).fact a1.Fields [s1781])]) (fun F w h => ⟨(), trivial, ex24 h⟩) (fun _ _ => ?_)
 refine at_inv 0 rfl (fun l1783 => ?_)
 replace l1783 : (-9223372036854775808) ≤ a1.ID ∧ a1.ID ≤ 9223372036854775807 := l1783
 refine s_sr (at_hv rfl ?_)
 refine hv_box (cs := [.int .i64 a0.ID, s1780]) rfl rfl rfl (fun b1784 => ?_)
 refine at_hv rfl ?_
 refine hv_box (cs := [.int .i64 a1.ID, s1781]) rfl rfl rfl (fun b1785 => ?_)
 refine s_as rfl (s_ntsr (at_lt (lt_fieldAddr 0 rfl fld24_0 rfl) rfl (at_lt (lt_load_box 1 rfl ti3 rfl rfl rfl rfl rfl) rfl (at_lt (lt_fieldAddr 0 rfl fld24_0 rfl) rfl (at_lt (lt_load_box 0 rfl ti3 rfl rfl rfl rfl rfl) rfl (at_lt (lt_eql rfl rfl) rfl (s_mv rfl ?_)))))))
 by_cases h1786 : a0.ID = a1.ID
 ·replace hr := ipos h1786 hr
  refine at_on rfl rfl (decide_eq_true (by first | exact h1786 | omega)) ?_
  refine at_lt (lt_fieldAddr 1 rfl fld24_1 rfl) rfl ?_
  refine at_on rfl rfl (decide_eq_true (by first | exact h1786 | omega)) ?_
  refine at_lt (lt_load_box 1 rfl ti22 rfl rfl rfl rfl rfl) rfl ?_
  refine at_on rfl rfl (decide_eq_true (by first | exact h1786 | omega)) ?_
  refine at_lt (lt_fieldAddr 1 rfl fld24_1 rfl) rfl ?_
  refine at_on rfl rfl (decide_eq_true (by first | exact h1786 | omega)) ?_
  refine at_lt (lt_load_box 0 rfl ti22 rfl rfl rfl rfl rfl) rfl ?_
  replace hr := obind hr
  obtain ⟨x1787, h1788, hr⟩ := hr
  refine at_on rfl rfl (decide_eq_true (by first | exact h1786 | omega)) ?_
  refine at_hv rfl (hv_call0 [3, 1] (f21_spec h1788) rfl rfl rfl rfl ?_)
  rintro _ _ ⟨rfl, rfl⟩
  refine at_lt (lt_pick true rfl (decide_eq_true (by first | exact h1786 | omega)) rfl) rfl ?_
  refine s_as rfl (s_nt (at_ret ?_))
  have hq := oinj hr
  clear hr
  subst hq
  exact at_return (.bool x1787) [] hS Tryz.results17 (.cons (.tmp rfl) .nil) rfl rfl ⟨rfl, rfl⟩
 replace hr := ineg h1786 hr
 refine at_off rfl rfl (decide_eq_false (by first | exact h1786 | omega)) rfl ?_
 refine at_off rfl rfl (decide_eq_false (by first | exact h1786 | omega)) rfl ?_
 refine at_off rfl rfl (decide_eq_false (by first | exact h1786 | omega)) rfl ?_
 refine at_off rfl rfl (decide_eq_false (by first | exact h1786 | omega)) rfl ?_
 refine at_off rfl rfl (decide_eq_false (by first | exact h1786 | omega)) rfl ?_
 refine at_lt (lt_pick false rfl (decide_eq_false (by first | exact h1786 | omega)) rfl) rfl ?_
 refine s_as rfl (s_nt (at_ret ?_))
 have hq := oinj hr
 clear hr
 subst hq
 exact at_return (.bool false) [] hS Tryz.results17 (.cons (.tmp rfl) .nil) rfl rfl ⟨rfl, rfl⟩
end Go.WK.S
