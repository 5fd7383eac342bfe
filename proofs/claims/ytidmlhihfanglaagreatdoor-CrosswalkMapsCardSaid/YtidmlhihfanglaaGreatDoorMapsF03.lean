
/- What functions of this program compute: a model of each, and the proof that it is kept. -/
import Derived.Test.YtidmlhihfanglaaGreatDoorMapsF02
import Derived.KernelRfl
set_option linter.unusedSimpArgs false
set_option linter.unusedVariables false
namespace Go.WK.S
open Go Go.Proofs Go.WK Go.RowKit
set_option linter.unusedVariables false
set_option maxRecDepth 100000
set_option maxHeartbeats 4000000
def m54_l1 (a0 : D_crosswalk_Entry) : Nat → Str → Nat → Option Str
  | 0, _, _ => none
  | k + 1, x1031, x1032 =>
    if x1032 < a0.Codes.length then
     (a0.Codes[x1032]?).bind fun x1037 =>
     if ([32] : Str).length + ([x1037.From, 62, x1037.To] : Str).length ≤ 9223372036854775807 then
      if x1031.length + (([32] : Str) ++ ([x1037.From, 62, x1037.To] : Str)).length ≤ 9223372036854775807 then
       m54_l1 a0 k (x1031 ++ (([32] : Str) ++ ([x1037.From, 62, x1037.To] : Str))) (x1032 + 1)
      else none
     else none
    else
     some x1031
def m54 (a0 : D_crosswalk_Entry) : Option Str :=
  if a0.From.length + ([32, 62, 32] : Str).length ≤ 9223372036854775807 then
   if (a0.From ++ ([32, 62, 32] : Str)).length + a0.To.length ≤ 9223372036854775807 then
    (m54_l1 a0 (a0.Codes.length + 1) (a0.From ++ ([32, 62, 32] : Str) ++ a0.To) 0).bind fun x1033 =>
    some x1033
   else none
  else none
def post54 (r : Str) (v : Value) (fs : List Fact) : Prop := v = str r ∧ fs = [(Ty.str.fact r [str r])]
theorem en54 : Enters Tryz.prog 54 := ⟨_, Tryz.func54, by kernel_rfl, rfl⟩
theorem f54_spec {a0 : D_crosswalk_Entry} {s1025 : Value} {r : Str} (hr : m54 a0 = some r) : Spec Tryz.prog 54 [.agg #[str a0.From, str a0.To, s1025]] [(ty76.fact a0 [str a0.From, str a0.To, s1025])] (post54 r) := by
 refine spec_start (N := 30) Tryz.func54 (by kernel_rfl) rfl rfl rfl ?_
 intro g hS
 unfold m54 at hr
 refine at_open (A := Unit) 0 rfl (fun _ => True) (fun _ => [(Ty.str.fact a0.From [str a0.From]), (Ty.str.fact a0.To [str a0.To]), ((Ty.slice ty82).fact a0.Codes [s1025])]) (fun F w h => ⟨(), trivial, ex76 h⟩) (fun _ _ => ?_)
 refine s_sr (at_hv rfl ?_)
 refine hv_box (cs := [str a0.From, str a0.To, s1025]) rfl rfl rfl (fun b1026 => ?_)
 refine s_as rfl (s_ntsr (at_lt (lt_fieldAddr 0 rfl fld76_0 rfl) rfl (at_lt (lt_load_box 0 rfl ti9 rfl rfl rfl rfl rfl) rfl ?_)))
 replace hr := imust hr
 obtain ⟨h1027, hr⟩ := hr
 refine at_lt (lt_sadd rfl rfl h1027) rfl (at_lt (lt_fieldAddr 1 rfl fld76_1 rfl) rfl (at_lt (lt_load_box 0 rfl ti9 rfl rfl rfl rfl rfl) rfl ?_))
 replace hr := imust hr
 obtain ⟨h1028, hr⟩ := hr
 refine at_lt (lt_sadd rfl rfl h1028) rfl (s_as rfl (s_nt (at_seq (s_sr (at_lt (lt_fieldAddr 2 rfl fld76_2 rfl) rfl (at_lt (lt_load_box 0 rfl ti74 rfl rfl rfl rfl rfl) rfl ?_))))))
 refine at_inv 2 rfl (fun i1029 => ?_)
 have l1030 := slice_len i1029
 refine at_lt (lt_flen 2 rfl rfl und74) rfl (s_mv rfl (s_nt ?_))
 refine at_str (a0.From ++ ([32, 62, 32] : Str) ++ a0.To) (by rw [List.length_append]; exact h1028) ?_
 refine at_int .i64 0 (by simp only [lo, hi]; omega) ?_
 replace hr := obind hr
 obtain ⟨x1033, hl1034, hr⟩ := hr
 refine at_cut (V := Unit) (fun e => (⟨[(3, str x1033)], [], [], [(Ty.str.fact x1033 [str x1033])]⟩ : St)) ?_ ?_
 ·refine at_block ?_
  refine at_loopW (σ := (Str × Nat)) (V := Unit) (r := x1033) (fun n s => m54_l1 a0 n s.1 s.2) (fun s e => (⟨[(3, str s.1), (13, s1025), (14, .int .i64 (a0.Codes.length : Int)), (15, .int .i64 (s.2 : Int))], [], [], [(Ty.str.fact s.1 [str s.1]), ((Ty.int .i64).fact (s.2 : Int) [.int .i64 (s.2 : Int)]), ((Ty.slice ty82).fact a0.Codes [s1025])]⟩ : St)) (fun _ => rfl) _ (a0.From ++ ([32, 62, 32] : Str) ++ a0.To, 0) () hl1034 ⟨⟨rfl, ⟨rfl, ⟨rfl, ⟨rfl, trivial⟩⟩⟩⟩, ⟨[false], rfl⟩, ⟨[], rfl⟩, ⟨[1, 0, 4], rfl⟩⟩ ?_
  clear hr hl1034
  intro n s hr e
  obtain ⟨x1031, x1032⟩ := s
  skip
  change m54_l1 a0 (n + 1) x1031 x1032 = some x1033 at hr
  change At _ _ (⟨[(3, str x1031), (13, s1025), (14, .int .i64 (a0.Codes.length : Int)), (15, .int .i64 (x1032 : Int))], [], [], [(Ty.str.fact x1031 [str x1031]), ((Ty.int .i64).fact (x1032 : Int) [.int .i64 (x1032 : Int)]), ((Ty.slice ty82).fact a0.Codes [s1025])]⟩ : St) _
  rw [m54_l1] at hr
  refine s_sr (at_lt (lt_lss rfl rfl) rfl (s_nt (at_seq ?_)))
  by_cases h1036 : x1032 < a0.Codes.length
  ·replace hr := ipos h1036 hr
   refine at_true rfl (decide_eq_true (by omega)) ?_
   refine at_skip (at_then (at_seq (at_block (s_sr ?_))))
   replace hr := obind hr
   obtain ⟨x1037, h1038, hr⟩ := hr
   have := (List.getElem?_eq_some_iff.1 h1038).1
   refine at_elem 2 rfl (nat_at' h1038) (fun p1039 ec pa1040 => ?_)
   refine at_open (A := Unit) 0 rfl _ _ (fun F w h => op82 h) ?_
   rintro _ rfl
   refine at_lt (lt_idx rfl rfl pa1040 und74 ti82) rfl (at_lt (lt_load_peek 1 rfl ti82 rfl rfl rfl rfl rfl) rfl (at_hv rfl ?_))
   refine hv_alloc (cs := [.int .u8 0, .int .u8 0]) ti82 rfl rfl (fun b1041 => ?_)
   refine at_hv rfl (hv_store_box 0 (cs' := [.int .u8 (x1037.From.toNat : Int), .int .u8 (x1037.To.toNat : Int)]) rfl rfl ti82 rfl rfl rfl rfl rfl (at_nil (s_tr (s_mv rfl (at_lt (lt_fieldAddr 0 rfl fld82_0 rfl) rfl (at_lt (lt_load_box 0 rfl ti5 rfl rfl rfl rfl rfl) rfl (at_lt (lt_fieldAddr 1 rfl fld82_1 rfl) rfl (at_lt (lt_load_box 0 rfl ti5 rfl rfl rfl rfl rfl) rfl (at_hv rfl ?_)))))))))
   refine hv_bslice (cs := [.int .u8 (x1037.From.toNat : Int), .int .u8 62, .int .u8 (x1037.To.toNat : Int)]) rfl und123 ti5 rfl rfl rfl rfl rfl (fun s1042 => ?_)
   refine at_hv rfl (lt_bstr 0 [x1037.From, 62, x1037.To] rfl rfl rfl und123 und5 und9 rfl ?_)
   replace hr := imust hr
   obtain ⟨h1043, hr⟩ := hr
   refine at_lt (lt_sadd rfl rfl h1043) rfl ?_
   replace hr := imust hr
   obtain ⟨h1044, hr⟩ := hr
   refine at_lt (lt_sadd rfl rfl h1044) rfl (s_as rfl (at_nil (at_in (s_tr ?_))))
   refine at_inv 2 rfl (fun l1045 => ?_)
   replace l1045 : x1031.length ≤ 9223372036854775807 := l1045
   refine at_lt (lt_add rfl rfl (by simp only [lo, hi]; omega)) rfl (s_mv rfl (at_nil ?_))
   refine at_str (x1031 ++ (([32] : Str) ++ ([x1037.From, 62, x1037.To] : Str))) (by rw [List.length_append]; exact h1044) ?_
   refine at_int .i64 (x1032 + 1 : Int) (by simp only [lo, hi]; omega) ?_
   exact at_again (σ := (Str × Nat)) (V := Unit) (lp := fun n s => m54_l1 a0 n s.1 s.2) (S := fun s e => (⟨[(3, str s.1), (13, s1025), (14, .int .i64 (a0.Codes.length : Int)), (15, .int .i64 (s.2 : Int))], [], [], [(Ty.str.fact s.1 [str s.1]), ((Ty.int .i64).fact (s.2 : Int) [.int .i64 (s.2 : Int)]), ((Ty.slice ty82).fact a0.Codes [s1025])]⟩ : St)) (x1031 ++ (([32] : Str) ++ ([x1037.From, 62, x1037.To] : Str)), x1032 + 1) () hr ⟨⟨rfl, ⟨rfl, ⟨rfl, ⟨rfl, trivial⟩⟩⟩⟩, ⟨[false], rfl⟩, ⟨[false], rfl⟩, ⟨[1, 0, 6], rfl⟩⟩
  replace hr := ineg h1036 hr
  refine at_false rfl (decide_eq_false (by omega)) ?_
  refine at_exit (at_then_exit (at_then_exit (at_in_exit ?_)))
  have hq := oinj hr
  clear hr
  subst hq
  exact at_leaf () ⟨⟨rfl, trivial⟩, ⟨[], rfl⟩, ⟨[], rfl⟩, ⟨[0], rfl⟩⟩
 clear hl1034
 intro e
 change At _ _ (⟨[(3, str x1033)], [], [], [(Ty.str.fact x1033 [str x1033])]⟩ : St) _
 refine s_tsr (s_mv rfl (s_as rfl (s_nt (at_ret ?_))))
 have hq := oinj hr
 clear hr
 subst hq
 exact at_return (str x1033) [0] hS Tryz.results54 (.cons (.tmp rfl) .nil) rfl rfl ⟨rfl, rfl⟩
def m151 (a0 : Str) (a1 : Str) : Option Int :=
  (m113 a0 a1).bind fun x1046 =>
  some x1046
def post151 (r : Int) (v : Value) (fs : List Fact) : Prop := v = .int .i64 r ∧ fs = [((Ty.int .i64).fact r [.int .i64 r])]
theorem en151 : Enters Tryz.prog 151 := ⟨_, Tryz.func151, by kernel_rfl, rfl⟩
theorem f151_spec {a0 : Str} {a1 : Str} {r : Int} (hr : m151 a0 a1 = some r) : Spec Tryz.prog 151 [str a0, str a1] [(Ty.str.fact a0 [str a0]), (Ty.str.fact a1 [str a1])] (post151 r) := by
 refine spec_start (N := 8) Tryz.func151 (by kernel_rfl) rfl rfl rfl ?_
 intro g hS
 unfold m151 at hr
 refine s_sr (s_as rfl (s_ntsr (s_mv rfl (s_mv rfl ?_))))
 replace hr := obind hr
 obtain ⟨x1046, h1047, hr⟩ := hr
 refine at_hv rfl (hv_call0 [0, 1] (f113_spec h1047) rfl rfl rfl rfl ?_)
 rintro _ _ ⟨rfl, rfl⟩
 refine at_inv 0 rfl (fun l1048 => ?_)
 replace l1048 : (-9223372036854775808) ≤ x1046 ∧ x1046 ≤ 9223372036854775807 := l1048
 refine s_as rfl (s_nt (at_ret ?_))
 have hq := oinj hr
 clear hr
 subst hq
 exact at_return (.int .i64 x1046) [0] hS Tryz.results151 (.cons (.tmp rfl) .nil) rfl rfl ⟨rfl, rfl⟩
def m172 (a0 : Str) (a1 : UInt8) : Option Int := if a0.length ≤ 9223372036854775807 then some (Lib.countByte a0 a1) else none
theorem f172_specX {a0 : Str} {a1 : UInt8} {r : Int} (hr : m172 a0 a1 = some r) : SpecX Tryz.prog 172 [str a0, .int .u8 (a1.toNat : Int)] (postInt r) := by
 unfold m172 at hr
 obtain ⟨hb, hr⟩ := imust hr
 obtain rfl := oinj hr
 exact ext_countByte Tryz.func172 (by kernel_rfl) (by kernel_rfl) rfl rfl hb

def m150_l1 (a1 : Str) : Nat → Str → Nat → Option (Fl Int Int)
  | 0, _, _ => none
  | k + 1, x1059, x1060 =>
    (m151 x1059 a1).bind fun x1065 =>
    if x1065 = (-1) then
     some (Fl.ret (x1060 : Int))
    else
     if x1060 + 1 ≤ 9223372036854775807 then
      if 0 ≤ IntKind.i64.wrap (x1065 + (a1.length : Int)) ∧ (IntKind.i64.wrap (x1065 + (a1.length : Int))).toNat ≤ x1059.length then
       m150_l1 a1 k (x1059.drop ((IntKind.i64.wrap (x1065 + (a1.length : Int))).toNat)) (x1060 + 1)
      else none
     else none
def m150 (a0 : Str) (a1 : Str) : Option Int :=
  if a1.length = 0 then
   none
  else
   if a1.length = 1 then
    (a1[0]?).bind fun c1054 =>
    (m172 a0 c1054).bind fun x1056 =>
    some x1056
   else
    (m150_l1 a1 9223372036854775808 a0 0).bind fun r => match r with
    | .ret x => some x
    | .go x1061 =>
     some x1061
def post150 (r : Int) (v : Value) (fs : List Fact) : Prop := v = .int .i64 r ∧ fs = [((Ty.int .i64).fact r [.int .i64 r])]
theorem en150 : Enters Tryz.prog 150 := ⟨_, Tryz.func150, by kernel_rfl, rfl⟩
theorem f150_spec {a0 : Str} {a1 : Str} {r : Int} (hr : m150 a0 a1 = some r) : Spec Tryz.prog 150 [str a0, str a1] [(Ty.str.fact a0 [str a0]), (Ty.str.fact a1 [str a1])] (post150 r) := by
 refine spec_start (N := 34) Tryz.func150 (by kernel_rfl) rfl rfl rfl ?_
 intro g hS
 unfold m150 at hr
 refine s_sr (s_as rfl (s_nt (at_seq (s_sr (s_mv rfl ?_)))))
 refine at_inv 1 rfl (fun l1049 => ?_)
 replace l1049 : a1.length ≤ 9223372036854775807 := l1049
 refine at_lt (lt_slen rfl und9) rfl (at_lt (lt_eql rfl rfl) rfl (s_nt ?_))
 by_cases h1050 : a1.length = 0
 ·replace hr := ipos h1050 hr
  cases hr
 replace hr := ineg h1050 hr
 refine at_false rfl (decide_eq_false (by omega)) ?_
 refine at_skip (at_then (at_seq (s_sr (s_mv rfl (at_lt (lt_slen rfl und9) rfl (at_lt (lt_eql rfl rfl) rfl (s_nt ?_)))))))
 by_cases h1053 : a1.length = 1
 ·replace hr := ipos h1053 hr
  refine at_true rfl (decide_eq_true (by omega)) ?_
  refine s_sr (s_mv rfl (s_mv rfl ?_))
  replace hr := obind hr
  obtain ⟨c1054, h1055, hr⟩ := hr
  have := (List.getElem?_eq_some_iff.1 h1055).1
  have := c1054.toNat_lt
  refine at_lt (lt_sidx rfl rfl und9 (by omega) h1055) rfl ?_
  replace hr := obind hr
  obtain ⟨x1056, h1057, hr⟩ := hr
  refine at_hv rfl (hv_callx (f172_specX h1057) rfl rfl rfl ?_)
  rintro _ _ ⟨rfl, rfl⟩
  refine at_inv 0 rfl (fun l1058 => ?_)
  replace l1058 : (-9223372036854775808) ≤ x1056 ∧ x1056 ≤ 9223372036854775807 := l1058
  refine s_as rfl (s_nt (at_ret ?_))
  have hq := oinj hr
  clear hr
  subst hq
  refine at_then_ret ?_
  exact at_return (.int .i64 x1056) [0] hS Tryz.results150 (.cons (.tmp rfl) .nil) rfl rfl ⟨rfl, rfl⟩
 replace hr := ineg h1053 hr
 refine at_false rfl (decide_eq_false (by omega)) ?_
 refine at_skip (s_tsr (s_as rfl (s_nt (at_int .i64 0 (by simp only [lo, hi]; omega) ?_))))
 replace hr := obind hr
 obtain ⟨r1062, hl1063, hk1064⟩ := hr
 refine at_cutP (V := (Int) × (Unit)) (fun v => r1062 = Fl.go v.1) (fun v => (⟨[(4, .int .i64 v.1)], [], [], [((Ty.int .i64).fact v.1 [.int .i64 v.1])]⟩ : St)) ?_ ?_
 ·refine at_block ?_
  refine at_loopW (σ := (Str × Nat)) (V := Unit) (r := r1062) (fun n s => m150_l1 a1 n s.1 s.2) (fun s e => (⟨[(0, str s.1), (1, str a1), (5, .int .i64 (s.2 : Int))], [], [], [(Ty.str.fact s.1 [str s.1]), ((Ty.int .i64).fact (s.2 : Int) [.int .i64 (s.2 : Int)]), (Ty.str.fact a1 [str a1])]⟩ : St)) (fun _ => rfl) _ (a0, 0) () hl1063 ⟨⟨rfl, ⟨rfl, ⟨rfl, trivial⟩⟩⟩, ⟨[], rfl⟩, ⟨[], rfl⟩, ⟨[1, 0, 2], rfl⟩⟩ ?_
  clear hl1063
  intro n s hr e
  obtain ⟨x1059, x1060⟩ := s
  skip
  change m150_l1 a1 (n + 1) x1059 x1060 = some r1062 at hr
  change At _ _ (⟨[(0, str x1059), (1, str a1), (5, .int .i64 (x1060 : Int))], [], [], [(Ty.str.fact x1059 [str x1059]), ((Ty.int .i64).fact (x1060 : Int) [.int .i64 (x1060 : Int)]), (Ty.str.fact a1 [str a1])]⟩ : St) _
  rw [m150_l1] at hr
  refine at_block (s_sr (s_mv rfl (s_mv rfl ?_)))
  replace hr := obind hr
  obtain ⟨x1065, h1066, hr⟩ := hr
  refine at_hv rfl (hv_call0 [0, 2] (f151_spec h1066) rfl rfl rfl rfl ?_)
  rintro _ _ ⟨rfl, rfl⟩
  refine at_inv 0 rfl (fun l1067 => ?_)
  replace l1067 : (-9223372036854775808) ≤ x1065 ∧ x1065 ≤ 9223372036854775807 := l1067
  refine s_as rfl (s_nt (at_seq (s_sr (s_mv rfl (at_lt (lt_eql rfl rfl) rfl (s_nt ?_))))))
  by_cases h1068 : x1065 = (-1)
  ·replace hr := ipos h1068 hr
   refine at_true rfl (decide_eq_true (by first | exact h1068 | omega)) ?_
   refine s_sr (s_mv rfl (s_as rfl (s_nt (at_ret ?_))))
   have hq := oinj hr
   clear hr
   subst hq
   have hq := oinj hk1064
   clear hk1064
   subst hq
   refine at_then_ret (at_in_ret (at_then_ret (at_in_ret (at_then_ret ?_))))
   exact at_return (.int .i64 (x1060 : Int)) [2] hS Tryz.results150 (.cons (.tmp rfl) .nil) rfl rfl ⟨rfl, rfl⟩
  replace hr := ineg h1068 hr
  refine at_false rfl (decide_eq_false (by first | exact h1068 | omega)) ?_
  refine at_skip (s_tsr (s_mv rfl ?_))
  replace hr := imust hr
  obtain ⟨h1069, hr⟩ := hr
  refine at_lt (lt_add rfl rfl (by simp only [lo, hi]; omega)) rfl (s_as rfl (at_nil (s_tr (s_mv rfl (s_mv rfl (s_mv rfl (at_lt (lt_slen rfl und9) rfl (at_lt (lt_addw rfl rfl) rfl ?_))))))))
  replace hr := imust hr
  obtain ⟨h1070, hr⟩ := hr
  refine at_inv 1 rfl (fun l1071 => ?_)
  replace l1071 : x1059.length ≤ 9223372036854775807 := l1071
  refine at_lt (lt_scut_l ((IntKind.i64.wrap (x1065 + (a1.length : Int))).toNat) rfl rfl (by omega) und9 (by omega)) rfl ?_
  refine s_as rfl (at_nil (at_in ?_))
  refine at_str (x1059.drop ((IntKind.i64.wrap (x1065 + (a1.length : Int))).toNat)) (by simp only [List.length_take, List.length_drop]; omega) ?_
  refine at_int .i64 (x1060 + 1 : Int) (by simp only [lo, hi]; omega) ?_
  exact at_again (σ := (Str × Nat)) (V := Unit) (lp := fun n s => m150_l1 a1 n s.1 s.2) (S := fun s e => (⟨[(0, str s.1), (1, str a1), (5, .int .i64 (s.2 : Int))], [], [], [(Ty.str.fact s.1 [str s.1]), ((Ty.int .i64).fact (s.2 : Int) [.int .i64 (s.2 : Int)]), (Ty.str.fact a1 [str a1])]⟩ : St)) (x1059.drop ((IntKind.i64.wrap (x1065 + (a1.length : Int))).toNat), x1060 + 1) () hr ⟨⟨rfl, ⟨rfl, ⟨rfl, trivial⟩⟩⟩, ⟨[], rfl⟩, ⟨[], rfl⟩, ⟨[1, 0, 5], rfl⟩⟩
 rintro ⟨x1061, _⟩ hp
 replace hr := hk1064
 subst hp
 clear hl1063
 change At _ _ (⟨[(4, .int .i64 x1061)], [], [], [((Ty.int .i64).fact x1061 [.int .i64 x1061])]⟩ : St) _
 refine at_inv 0 rfl (fun l1072 => ?_)
 replace l1072 : (-9223372036854775808) ≤ x1061 ∧ x1061 ≤ 9223372036854775807 := l1072
 have hq := oinj hr
 clear hr
 subst hq
 exact at_return (.int .i64 x1061) [0] hS Tryz.results150 (.cons (.tmp rfl) .nil) rfl rfl ⟨rfl, rfl⟩
def m114_l1 (a0 : Str) (a1 : Str) (a2 : Int) (x1079 : Int) : Nat → Str → (List Str) → Nat → Option (Str × (List Str) × Nat)
  | 0, _, _, _ => none
  | k + 1, x1091, x1092, x1093 =>
    if (x1093 : Int) < IntKind.i64.wrap (min x1079 ((a0.length : Int) + 1) - 1) then
     (m151 x1091 a1).bind fun x1107 =>
     if x1107 < 0 then
      some (x1091, x1092, x1093)
     else
      if 0 ≤ IntKind.i64.wrap (x1107 + a2) ∧ (IntKind.i64.wrap (x1107 + a2)).toNat ≤ x1091.length then
       if x1093 < x1092.length then
        if 0 ≤ IntKind.i64.wrap (x1107 + (a1.length : Int)) ∧ (IntKind.i64.wrap (x1107 + (a1.length : Int))).toNat ≤ x1091.length then
         if x1093 + 1 ≤ 9223372036854775807 then
          m114_l1 a0 a1 a2 x1079 k (x1091.drop ((IntKind.i64.wrap (x1107 + (a1.length : Int))).toNat)) (x1092.set x1093 (x1091.take ((IntKind.i64.wrap (x1107 + a2)).toNat))) (x1093 + 1)
         else none
        else none
       else none
      else none
    else
     some (x1091, x1092, x1093)
def m114 (a0 : Str) (a1 : Str) (a2 : Int) (a3 : Int) : Option (List Str) :=
  if a3 = 0 then
   some ([] : (List Str))
  else
   if a1 = ([] : Str) then
    none
   else
    Option.bind (α := Int) (
     if a3 < 0 then
      (m150 a0 a1).bind fun x1082 =>
      some (IntKind.i64.wrap (x1082 + 1))
     else
      some a3
    ) fun x1079 =>
    if a0.length + 1 ≤ 9223372036854775807 then
     if 0 ≤ min x1079 ((a0.length : Int) + 1) ∧ (min x1079 ((a0.length : Int) + 1)).toNat ≤ 8796093022208 then
      (m114_l1 a0 a1 a2 x1079 9223372036854775808 a0 (List.replicate ((min x1079 ((a0.length : Int) + 1)).toNat) ([] : Str)) 0).bind fun (x1097, x1098, x1099) =>
      if x1099 < x1098.length then
       if x1099 + 1 ≤ 9223372036854775807 then
        if x1099 + 1 ≤ (x1098.set x1099 x1097).length then
         some ((x1098.set x1099 x1097).take (x1099 + 1))
        else none
       else none
      else none
     else none
    else none
def post114 (r : (List Str)) (v : Value) (fs : List Fact) : Prop := ∃ s1132 : Value, v = s1132 ∧ fs = [((Ty.slice Ty.str).fact r [s1132])]
theorem en114 : Enters Tryz.prog 114 := ⟨_, Tryz.func114, by kernel_rfl, rfl⟩
theorem f114_spec {a0 : Str} {a1 : Str} {a2 : Int} {a3 : Int} {r : (List Str)} (hr : m114 a0 a1 a2 a3 = some r) : Spec Tryz.prog 114 [str a0, str a1, .int .i64 a2, .int .i64 a3] [(Ty.str.fact a0 [str a0]), (Ty.str.fact a1 [str a1]), ((Ty.int .i64).fact a2 [.int .i64 a2]), ((Ty.int .i64).fact a3 [.int .i64 a3]), (utf8F 1 2)] (post114 r) := by
 refine spec_start (N := 66) Tryz.func114 (by kernel_rfl) rfl rfl rfl ?_
 intro g hS
 unfold m114 at hr
 refine at_inv 2 rfl (fun l1073 => ?_)
 replace l1073 : (-9223372036854775808) ≤ a2 ∧ a2 ≤ 9223372036854775807 := l1073
 refine at_inv 3 rfl (fun l1074 => ?_)
 replace l1074 : (-9223372036854775808) ≤ a3 ∧ a3 ≤ 9223372036854775807 := l1074
 refine s_sr (s_as rfl (s_nt (at_seq (s_sr (s_mv rfl (at_lt (lt_eql rfl rfl) rfl (s_nt ?_)))))))
 by_cases h1075 : a3 = 0
 ·replace hr := ipos h1075 hr
  refine at_true rfl (decide_eq_true (by first | exact h1075 | omega)) ?_
  refine s_sr (s_as rfl (s_nt (at_ret ?_)))
  have hq := oinj hr
  clear hr
  subst hq
  refine at_then_ret (at_fnil Ty.str none ?_)
  exact at_return ((.slice none 0 0)) [0] hS Tryz.results114 (.cons (.tmp rfl) .nil) rfl rfl ⟨((.slice none 0 0)), rfl, rfl⟩
 replace hr := ineg h1075 hr
 refine at_false rfl (decide_eq_false (by first | exact h1075 | omega)) ?_
 refine at_skip (at_then (at_seq (s_sr (s_mv rfl (at_lt (lt_seql rfl rfl) rfl (s_nt ?_))))))
 by_cases h1076 : a1 = ([] : Str)
 ·replace hr := ipos h1076 hr
  cases hr
 replace hr := ineg h1076 hr
 refine at_false rfl (decide_eq_false h1076) (at_skip (at_then (at_seq (s_sr (s_mv rfl (at_lt (lt_lss rfl rfl) rfl (s_nt ?_)))))))
 replace hr := obind hr
 obtain ⟨x1079, hc1080, hr⟩ := hr
 refine at_cut (V := Unit) (fun e => (⟨[(0, str a0), (1, str a1), (2, .int .i64 a2), (3, .int .i64 x1079)], [], [], [((Ty.int .i64).fact x1079 [.int .i64 x1079]), (Ty.str.fact a0 [str a0]), (Ty.str.fact a1 [str a1]), ((Ty.int .i64).fact a2 [.int .i64 a2]), (utf8F 1 2)]⟩ : St)) ?_ ?_
 ·clear hr
  have hr := hc1080
  clear hc1080
  by_cases h1081 : a3 < 0
  ·replace hr := ipos h1081 hr
   refine at_true rfl (decide_eq_true (by first | exact h1081 | omega)) ?_
   refine at_region (s_mv rfl (s_mv rfl ?_))
   replace hr := obind hr
   obtain ⟨x1082, h1083, hr⟩ := hr
   refine at_hv rfl (hv_call0 [0, 1] (f150_spec h1083) rfl rfl rfl rfl ?_)
   rintro _ _ ⟨rfl, rfl⟩
   refine at_inv 0 rfl (fun l1084 => ?_)
   replace l1084 : (-9223372036854775808) ≤ x1082 ∧ x1082 ≤ 9223372036854775807 := l1084
   refine at_lt (lt_addw rfl rfl) rfl (s_as rfl (at_nil ?_))
   have hq := oinj hr
   clear hr
   subst hq
   refine at_int .i64 (IntKind.i64.wrap (x1082 + 1)) (wrap_bd .i64 _) ?_
   exact at_leaf () ⟨⟨rfl, ⟨rfl, ⟨rfl, ⟨rfl, trivial⟩⟩⟩⟩, ⟨[], rfl⟩, ⟨[], rfl⟩, ⟨[0, 2, 3, 4, 6], rfl⟩⟩
  replace hr := ineg h1081 hr
  refine at_false rfl (decide_eq_false (by first | exact h1081 | omega)) ?_
  refine at_skip ?_
  have hq := oinj hr
  clear hr
  subst hq
  exact at_leaf () ⟨⟨rfl, ⟨rfl, ⟨rfl, ⟨rfl, trivial⟩⟩⟩⟩, ⟨[], rfl⟩, ⟨[], rfl⟩, ⟨[3, 0, 1, 2, 4], rfl⟩⟩
 clear hc1080
 intro _
 change At _ _ (⟨[(0, str a0), (1, str a1), (2, .int .i64 a2), (3, .int .i64 x1079)], [], [], [((Ty.int .i64).fact x1079 [.int .i64 x1079]), (Ty.str.fact a0 [str a0]), (Ty.str.fact a1 [str a1]), ((Ty.int .i64).fact a2 [.int .i64 a2]), (utf8F 1 2)]⟩ : St) _
 refine at_inv 0 rfl (fun l1085 => ?_)
 replace l1085 : (-9223372036854775808) ≤ x1079 ∧ x1079 ≤ 9223372036854775807 := l1085
 refine s_tsr (s_mv rfl (s_mv rfl ?_))
 refine at_inv 1 rfl (fun l1086 => ?_)
 replace l1086 : a0.length ≤ 9223372036854775807 := l1086
 refine at_lt (lt_slen rfl und9) rfl ?_
 replace hr := imust hr
 obtain ⟨h1087, hr⟩ := hr
 refine at_lt (lt_add rfl rfl (by simp only [lo, hi]; omega)) rfl (at_lt (lt_min rfl rfl) rfl (s_as rfl (s_ntsr (s_mv rfl ?_))))
 replace hr := imust hr
 obtain ⟨h1088, hr⟩ := hr
 refine at_hv rfl ?_
 refine hv_make1 (E := Ty.str) ([] : Str) ((min x1079 ((a0.length : Int) + 1)).toNat) rfl rfl rfl (by omega) (by omega) und89 ti9 rfl (fun F w => ⟨rfl, by decide⟩) (by omega) (by omega) rfl (fun s1089 i1090 => ?_)
 refine s_as rfl (s_ntsr (s_mv rfl (at_lt (lt_subw rfl rfl) rfl (s_as rfl (s_ntsr (s_as rfl (s_nt (at_seq ?_))))))))
 refine at_mkpure (q := ((List.replicate ((min x1079 ((a0.length : Int) + 1)).toNat) ([] : Str)).length * Ty.str.bytes ≤ 140737488355328)) (by simp only [List.length_replicate, Ty.int_bytes, Ty.u8_bytes, Ty.str_bytes, Ty.slice_bytes, Ty.bool_bytes, nb] <;> omega) ?_
 refine at_int .i64 0 (by simp only [lo, hi]; omega) ?_
 replace hr := obind hr
 obtain ⟨r1103, hl1104, hr⟩ := hr
 refine at_cut (V := Value × Nat × (List Value)) (fun e => (⟨[(0, str r1103.1), (9, e.1), (10, .int .i64 (r1103.2.2 : Int))], [], [⟨e.1, 9, 1, e.2.1, e.2.2⟩], [(Ty.str.fact r1103.1 [str r1103.1]), (Ty.str.row r1103.2.1 e.2.2), (pureF (r1103.2.1.length * Ty.str.bytes ≤ 140737488355328)), ((Ty.int .i64).fact (r1103.2.2 : Int) [.int .i64 (r1103.2.2 : Int)]), (utf8F 1 2)]⟩ : St)) ?_ ?_
 ·refine at_block ?_
  refine at_loopW (σ := (Str × (List Str) × Nat)) (V := Value × Nat × (List Value)) (r := r1103) (fun n s => m114_l1 a0 a1 a2 x1079 n s.1 s.2.1 s.2.2) (fun s e => (⟨[(0, str s.1), (1, str a1), (2, .int .i64 a2), (3, .int .i64 (IntKind.i64.wrap (min x1079 ((a0.length : Int) + 1) - 1))), (9, e.1), (10, .int .i64 (s.2.2 : Int))], [], [⟨e.1, 9, 1, e.2.1, e.2.2⟩], [(Ty.str.fact s.1 [str s.1]), (Ty.str.row s.2.1 e.2.2), (pureF (s.2.1.length * Ty.str.bytes ≤ 140737488355328)), ((Ty.int .i64).fact (s.2.2 : Int) [.int .i64 (s.2.2 : Int)]), (Ty.str.fact a1 [str a1]), ((Ty.int .i64).fact a2 [.int .i64 a2]), (utf8F 1 2)]⟩ : St)) (fun _ => rfl) _ (a0, List.replicate ((min x1079 ((a0.length : Int) + 1)).toNat) ([] : Str), 0) (s1089, (min x1079 ((a0.length : Int) + 1)).toNat, i1090) hl1104 ⟨⟨rfl, ⟨rfl, ⟨rfl, ⟨rfl, ⟨rfl, ⟨rfl, trivial⟩⟩⟩⟩⟩⟩, ⟨[], rfl⟩, ⟨[true], rfl⟩, ⟨[4, 2, 1, 0, 5, 6, 7], rfl⟩⟩ ?_
  clear hr hl1104
  intro n s hr e
  obtain ⟨x1091, x1092, x1093⟩ := s
  obtain ⟨v1094, n1095, i1096⟩ := e
  change m114_l1 a0 a1 a2 x1079 (n + 1) x1091 x1092 x1093 = some r1103 at hr
  change At _ _ (⟨[(0, str x1091), (1, str a1), (2, .int .i64 a2), (3, .int .i64 (IntKind.i64.wrap (min x1079 ((a0.length : Int) + 1) - 1))), (9, v1094), (10, .int .i64 (x1093 : Int))], [], [⟨v1094, 9, 1, n1095, i1096⟩], [(Ty.str.fact x1091 [str x1091]), (Ty.str.row x1092 i1096), (pureF (x1092.length * Ty.str.bytes ≤ 140737488355328)), ((Ty.int .i64).fact (x1093 : Int) [.int .i64 (x1093 : Int)]), (Ty.str.fact a1 [str a1]), ((Ty.int .i64).fact a2 [.int .i64 a2]), (utf8F 1 2)]⟩ : St) _
  rw [m114_l1] at hr
  refine at_seq (s_sr (s_mv rfl (s_mv rfl (at_lt (lt_lss rfl rfl) rfl (s_nt ?_)))))
  by_cases h1106 : (x1093 : Int) < IntKind.i64.wrap (min x1079 ((a0.length : Int) + 1) - 1)
  ·replace hr := ipos h1106 hr
   refine at_true rfl (decide_eq_true (by first | exact h1106 | omega)) ?_
   refine at_skip (at_then (at_block (s_sr (s_mv rfl (s_mv rfl ?_)))))
   replace hr := obind hr
   obtain ⟨x1107, h1108, hr⟩ := hr
   refine at_hv rfl (hv_call0 [0, 4] (f151_spec h1108) rfl rfl rfl rfl ?_)
   rintro _ _ ⟨rfl, rfl⟩
   refine at_inv 0 rfl (fun l1109 => ?_)
   replace l1109 : (-9223372036854775808) ≤ x1107 ∧ x1107 ≤ 9223372036854775807 := l1109
   refine s_as rfl (s_nt (at_seq (s_sr (s_mv rfl (at_lt (lt_lss rfl rfl) rfl (s_nt ?_))))))
   by_cases h1110 : x1107 < 0
   ·replace hr := ipos h1110 hr
    refine at_true rfl (decide_eq_true (by first | exact h1110 | omega)) ?_
    refine at_exit (at_then_exit (at_in_other rfl (at_then_exit (at_in_exit ?_))))
    have hq := oinj hr
    clear hr
    subst hq
    exact at_leaf (v1094, n1095, i1096) ⟨⟨rfl, ⟨rfl, ⟨rfl, trivial⟩⟩⟩, ⟨[], rfl⟩, ⟨[true], rfl⟩, ⟨[1, 2, 3, 4, 7], rfl⟩⟩
   replace hr := ineg h1110 hr
   refine at_false rfl (decide_eq_false (by first | exact h1110 | omega)) ?_
   refine at_skip (s_tsr (s_mv rfl (s_mv rfl (s_mv rfl (s_mv rfl (s_mv rfl (at_lt (lt_addw rfl rfl) rfl ?_)))))))
   replace hr := imust hr
   obtain ⟨h1111, hr⟩ := hr
   refine at_inv 1 rfl (fun l1112 => ?_)
   replace l1112 : x1091.length ≤ 9223372036854775807 := l1112
   refine at_lt (lt_scut_h ((IntKind.i64.wrap (x1107 + a2)).toNat) rfl rfl (by omega) und9 (by omega)) rfl ?_
   replace hr := imust hr
   obtain ⟨h1115, hr⟩ := hr
   refine at_rown 0 2 rfl rfl rfl (fun hn1116 => ?_)
   refine at_rowv 0 rfl (fun hv1117 => ?_)
   refine at_rowat (ix := (x1093 : Int)) 0 rfl (by omega) (by omega) (fun p1113 pa1114 => ?_)
   refine at_lt (lt_idx rfl rfl pa1114 und89 ti9) rfl ?_
   refine at_str (x1091.take ((IntKind.i64.wrap (x1107 + a2)).toNat)) (by simp only [List.length_take, List.length_drop]; omega) ?_
   refine at_pure 4 rfl (fun hb1118 => ?_)
   refine at_hv rfl ?_
   refine hv_store_row 0 x1093 (cs := [str (x1091.take ((IntKind.i64.wrap (x1107 + a2)).toNat))]) (inner' := (i1096.take (x1093 * 1) ++ [str (x1091.take ((IntKind.i64.wrap (x1107 + a2)).toNat))] ++ i1096.drop (x1093 * 1 + 1))) rfl rfl ti9 rfl pa1114 (by omega) rfl rfl rfl rfl ?_
   refine at_rowset (inner' := (i1096.take (x1093 * 1) ++ [str (x1091.take ((IntKind.i64.wrap (x1107 + a2)).toNat))] ++ i1096.drop (x1093 * 1 + 1))) 3 0 x1093 rfl rfl (by omega) rfl ?_
   refine s_ntsr (s_mv rfl (s_mv rfl (s_mv rfl ?_)))
   refine at_inv 7 rfl (fun l1119 => ?_)
   replace l1119 : a1.length ≤ 9223372036854775807 := l1119
   refine at_lt (lt_slen rfl und9) rfl (at_lt (lt_addw rfl rfl) rfl ?_)
   replace hr := imust hr
   obtain ⟨h1120, hr⟩ := hr
   refine at_lt (lt_scut_l ((IntKind.i64.wrap (x1107 + (a1.length : Int))).toNat) rfl rfl (by omega) und9 (by omega)) rfl ?_
   refine s_as rfl (at_nil (s_tr (s_mv rfl ?_)))
   replace hr := imust hr
   obtain ⟨h1121, hr⟩ := hr
   refine at_lt (lt_add rfl rfl (by simp only [lo, hi]; omega)) rfl (s_as rfl (at_nil (at_in ?_)))
   refine at_str (x1091.drop ((IntKind.i64.wrap (x1107 + (a1.length : Int))).toNat)) (by simp only [List.length_take, List.length_drop]; omega) ?_
   refine at_mkpure (q := ((x1092.set x1093 (x1091.take ((IntKind.i64.wrap (x1107 + a2)).toNat))).length * Ty.str.bytes ≤ 140737488355328)) (by rw [List.length_set]; exact hb1118) ?_
   refine at_int .i64 (x1093 + 1 : Int) (by simp only [lo, hi]; omega) ?_
   exact at_again (σ := (Str × (List Str) × Nat)) (V := Value × Nat × (List Value)) (lp := fun n s => m114_l1 a0 a1 a2 x1079 n s.1 s.2.1 s.2.2) (S := fun s e => (⟨[(0, str s.1), (1, str a1), (2, .int .i64 a2), (3, .int .i64 (IntKind.i64.wrap (min x1079 ((a0.length : Int) + 1) - 1))), (9, e.1), (10, .int .i64 (s.2.2 : Int))], [], [⟨e.1, 9, 1, e.2.1, e.2.2⟩], [(Ty.str.fact s.1 [str s.1]), (Ty.str.row s.2.1 e.2.2), (pureF (s.2.1.length * Ty.str.bytes ≤ 140737488355328)), ((Ty.int .i64).fact (s.2.2 : Int) [.int .i64 (s.2.2 : Int)]), (Ty.str.fact a1 [str a1]), ((Ty.int .i64).fact a2 [.int .i64 a2]), (utf8F 1 2)]⟩ : St)) (x1091.drop ((IntKind.i64.wrap (x1107 + (a1.length : Int))).toNat), x1092.set x1093 (x1091.take ((IntKind.i64.wrap (x1107 + a2)).toNat)), x1093 + 1) (v1094, n1095, (i1096.take (x1093 * 1) ++ [str (x1091.take ((IntKind.i64.wrap (x1107 + a2)).toNat))] ++ i1096.drop (x1093 * 1 + 1))) hr ⟨⟨rfl, ⟨rfl, ⟨rfl, ⟨rfl, ⟨rfl, ⟨rfl, trivial⟩⟩⟩⟩⟩⟩, ⟨[], rfl⟩, ⟨[true], rfl⟩, ⟨[2, 3, 1, 0, 10, 11, 12], rfl⟩⟩
  replace hr := ineg h1106 hr
  refine at_false rfl (decide_eq_false (by first | exact h1106 | omega)) ?_
  refine at_exit (at_then_exit (at_then_exit (at_in_exit ?_)))
  have hq := oinj hr
  clear hr
  subst hq
  exact at_leaf (v1094, n1095, i1096) ⟨⟨rfl, ⟨rfl, ⟨rfl, trivial⟩⟩⟩, ⟨[], rfl⟩, ⟨[true], rfl⟩, ⟨[0, 1, 2, 3, 6], rfl⟩⟩
 clear hl1104
 obtain ⟨x1097, x1098, x1099⟩ := r1103
 intro e
 obtain ⟨v1100, n1101, i1102⟩ := e
 change At _ _ (⟨[(0, str x1097), (9, v1100), (10, .int .i64 (x1099 : Int))], [], [⟨v1100, 9, 1, n1101, i1102⟩], [(Ty.str.fact x1097 [str x1097]), (Ty.str.row x1098 i1102), (pureF (x1098.length * Ty.str.bytes ≤ 140737488355328)), ((Ty.int .i64).fact (x1099 : Int) [.int .i64 (x1099 : Int)]), (utf8F 1 2)]⟩ : St) _
 refine s_tsr (s_mv rfl (s_mv rfl (s_mv rfl ?_)))
 replace hr := imust hr
 obtain ⟨h1124, hr⟩ := hr
 refine at_rown 0 1 rfl rfl rfl (fun hn1125 => ?_)
 refine at_rowv 0 rfl (fun hv1126 => ?_)
 refine at_rowat (ix := (x1099 : Int)) 0 rfl (by omega) (by omega) (fun p1122 pa1123 => ?_)
 refine at_lt (lt_idx rfl rfl pa1123 und89 ti9) rfl ?_
 refine at_pure 2 rfl (fun hb1127 => ?_)
 refine at_hv rfl ?_
 refine hv_store_row 0 x1099 (cs := [str x1097]) (inner' := (i1102.take (x1099 * 1) ++ [str x1097] ++ i1102.drop (x1099 * 1 + 1))) rfl rfl ti9 rfl pa1123 (by omega) rfl rfl rfl rfl ?_
 refine at_rowset (inner' := (i1102.take (x1099 * 1) ++ [str x1097] ++ i1102.drop (x1099 * 1 + 1))) 1 0 x1099 rfl rfl (by omega) rfl ?_
 refine s_ntsr (s_mv rfl (s_mv rfl ?_))
 replace hr := imust hr
 obtain ⟨h1128, hr⟩ := hr
 refine at_lt (lt_add rfl rfl (by simp only [lo, hi]; omega)) rfl ?_
 replace hr := imust hr
 obtain ⟨h1129, hr⟩ := hr
 refine at_release 0 0 rfl rfl rfl (by rw [List.length_set]; exact hb1127) ?_
 refine at_cutf_h 0 (x1099 + 1) rfl (by omega) (fun s1130 hc1131 => ?_)
 refine at_lt (lt_cut_h (x1099 + 1) rfl rfl (by omega) und89 ti9 hc1131) rfl ?_
 refine s_as rfl (s_nt (at_ret ?_))
 have hq := oinj hr
 clear hr
 subst hq
 exact at_return (s1130) [0] hS Tryz.results114 (.cons (.tmp rfl) .nil) rfl rfl ⟨s1130, rfl, rfl⟩
def m86 (a0 : Str) (a1 : Str) : Option (List Str) :=
  (m114 a0 a1 0 (-1)).bind fun x1133 =>
  some x1133
def post86 (r : (List Str)) (v : Value) (fs : List Fact) : Prop := ∃ s1136 : Value, v = s1136 ∧ fs = [((Ty.slice Ty.str).fact r [s1136])]
theorem en86 : Enters Tryz.prog 86 := ⟨_, Tryz.func86, by kernel_rfl, rfl⟩
theorem f86_spec {a0 : Str} {a1 : Str} {r : (List Str)} (hr : m86 a0 a1 = some r) : Spec Tryz.prog 86 [str a0, str a1] [(Ty.str.fact a0 [str a0]), (Ty.str.fact a1 [str a1]), (utf8F 1 2)] (post86 r) := by
 refine spec_start (N := 8) Tryz.func86 (by kernel_rfl) rfl rfl rfl ?_
 intro g hS
 unfold m86 at hr
 refine s_sr (s_as rfl (s_ntsr (s_mv rfl (s_mv rfl ?_))))
 replace hr := obind hr
 obtain ⟨x1133, h1134, hr⟩ := hr
 refine at_int .i64 0 (by simp only [lo, hi]; omega) (at_int .i64 (-1) (by simp only [lo, hi]; omega) (at_hv rfl (hv_call0 [2, 3, 1, 0, 4] (f114_spec h1134) rfl rfl rfl rfl ?_)))
 rintro s1135 _ ⟨_, rfl, rfl⟩
 refine s_as rfl (s_nt (at_ret ?_))
 have hq := oinj hr
 clear hr
 subst hq
 exact at_return (s1135) [0] hS Tryz.results86 (.cons (.tmp rfl) .nil) rfl rfl ⟨s1135, rfl, rfl⟩
def m50_l1 (x1138 : (List Str)) : Nat → Nat → (List D_crosswalk_Pair) → Str → Str → (List D_crosswalk_Pair) → Option (Fl (D_crosswalk_Entry × Bool) ((List D_crosswalk_Pair) × Str × Str × (List D_crosswalk_Pair)))
  | 0, _, _, _, _, _ => none
  | k + 1, x1159, x1160, x1161, x1162, x1163 =>
    if x1159 < (x1138.drop 3).length then
     ((x1138.drop 3)[x1159]?).bind fun x1180 =>
     if x1180.length = 3 then
      (x1180[0]?).bind fun c1186 =>
      (x1180[2]?).bind fun c1188 =>
      if x1160.length + 1 ≤ 70368744177664 then
       m50_l1 x1138 k (x1159 + 1) (x1160 ++ [(⟨c1186, c1188⟩ : D_crosswalk_Pair)]) x1161 x1162 x1163
      else none
     else
      some (Fl.ret ((⟨([] : Str), ([] : Str), ([] : (List D_crosswalk_Pair))⟩ : D_crosswalk_Entry), false))
    else
     some (Fl.go (x1160, x1161, x1162, x1163))
def m50 (a0 : Str) : Option (D_crosswalk_Entry × Bool) :=
  (m86 a0 ([32] : Str)).bind fun x1138 =>
  if x1138.length < 4 then
   some ((⟨([] : Str), ([] : Str), ([] : (List D_crosswalk_Pair))⟩ : D_crosswalk_Entry), false)
  else
   (x1138[0]?).bind fun x1144 =>
   (x1138[2]?).bind fun x1148 =>
   if 3 ≤ x1138.length then
    (m50_l1 x1138 ((x1138.drop 3).length + 1) 0 ([] : (List D_crosswalk_Pair)) ([] : Str) ([] : Str) ([] : (List D_crosswalk_Pair))).bind fun r => match r with
    | .ret x => some x
    | .go (x1168, x1169, x1170, x1171) =>
     (m57 (⟨x1144, x1148, x1168⟩ : D_crosswalk_Entry)).bind fun x1199 =>
     if x1199 = true then
      (m54 (⟨x1144, x1148, x1168⟩ : D_crosswalk_Entry)).bind fun x1203 =>
      some ((⟨x1144, x1148, x1168⟩ : D_crosswalk_Entry), decide (x1203 = a0))
     else
      some ((⟨x1144, x1148, x1168⟩ : D_crosswalk_Entry), false)
   else none
def post50 (r : (D_crosswalk_Entry × Bool)) (v : Value) (fs : List Fact) : Prop := ∃ s1211 : Value, v = .tuple #[.agg #[str r.1.From, str r.1.To, s1211], .bool r.2] ∧ fs = [(ty76.fact r.1 [str r.1.From, str r.1.To, s1211])]
theorem en50 : Enters Tryz.prog 50 := ⟨_, Tryz.func50, by kernel_rfl, rfl⟩
theorem f50_spec {a0 : Str} {r : (D_crosswalk_Entry × Bool)} (hr : m50 a0 = some r) : Spec Tryz.prog 50 [str a0] [(Ty.str.fact a0 [str a0]), (utf8F 1 2)] (post50 r) := by
 refine spec_start (N := 52) Tryz.func50 (by kernel_rfl) rfl rfl rfl ?_
 intro g hS
 unfold m50 at hr
 refine s_sr (at_hv rfl ?_)
 refine hv_alloc (cs := [str ([] : Str), str ([] : Str), (.slice none 0 0)]) ti76 rfl rfl (fun b1137 => ?_)
 refine s_as rfl (s_ntsr (s_mv rfl ?_))
 replace hr := obind hr
 obtain ⟨x1138, h1139, hr⟩ := hr
 refine at_str ([32] : Str) (by decide) ?_
 refine at_hv rfl (hv_call0 [1, 0, 2] (f86_spec h1139) rfl rfl rfl rfl ?_)
 rintro s1140 _ ⟨_, rfl, rfl⟩
 refine s_as rfl (s_nt (at_seq (s_sr (s_mv rfl ?_))))
 refine at_inv 0 rfl (fun i1141 => ?_)
 have l1142 := slice_len i1141
 refine at_lt (lt_flen 0 rfl rfl und89) rfl (at_lt (lt_lss rfl rfl) rfl (s_nt ?_))
 by_cases h1143 : x1138.length < 4
 ·replace hr := ipos h1143 hr
  refine at_true rfl (decide_eq_true (by omega)) ?_
  refine s_sr (at_lt (lt_build (cs := [str ([] : Str), str ([] : Str), (.slice none 0 0)]) rfl ti76 pl76 rfl) rfl (at_hv rfl (hv_store_box 0 (cs' := [str ([] : Str), str ([] : Str), (.slice none 0 0)]) rfl rfl ti76 rfl rfl rfl rfl rfl (s_as rfl (s_nt (at_ret ?_))))))
  have hq := oinj hr
  clear hr
  subst hq
  refine at_then_ret ?_
  refine at_str ([] : Str) (by decide) ?_
  refine at_fnil ty82 none ?_
  refine at_derive [1, 1, 0] (ty76.fact (⟨([] : Str), ([] : Str), ([] : (List D_crosswalk_Pair))⟩ : D_crosswalk_Entry) [str ([] : Str), str ([] : Str), (.slice none 0 0)]) rfl (fun F w h => mk76 (x := (⟨([] : Str), ([] : Str), ([] : (List D_crosswalk_Pair))⟩ : D_crosswalk_Entry)) h) ?_
  exact at_return (.tuple #[.agg #[str ([] : Str), str ([] : Str), (.slice none 0 0)], .bool false]) [0] hS Tryz.results50 (.cons (.cell 0 rfl ti76 rfl rfl rfl rfl) (.cons (.tmp rfl) .nil)) rfl rfl ⟨((.slice none 0 0)), rfl, rfl⟩
 replace hr := ineg h1143 hr
 refine at_false rfl (decide_eq_false (by omega)) ?_
 refine at_skip (at_then (at_seq ?_))
 replace hr := obind hr
 obtain ⟨x1144, h1145, hr⟩ := hr
 have := (List.getElem?_eq_some_iff.1 h1145).1
 refine at_elem 0 rfl (nat_at' (i := 0) h1145) (fun p1146 ec pa1147 => ?_)
 refine at_open (A := Unit) 0 rfl (fun _ => ec = [str x1144]) (fun _ => []) (fun F w h => ⟨(), h.1, by simp⟩) ?_
 rintro _ rfl
 replace hr := obind hr
 obtain ⟨x1148, h1149, hr⟩ := hr
 have := (List.getElem?_eq_some_iff.1 h1149).1
 refine at_elem 2 rfl (nat_at' (i := 2) h1149) (fun p1150 ec pa1151 => ?_)
 refine at_open (A := Unit) 0 rfl (fun _ => ec = [str x1148]) (fun _ => []) (fun F w h => ⟨(), h.1, by simp⟩) ?_
 rintro _ rfl
 refine aa_start 9 (by kernel_rfl) ?_
 refine aa_p 0 rfl (lt_move rfl) (aa_p 1 rfl (lt_idx rfl rfl pa1147 und89 ti9) (aa_l 2 rfl (lt_load_peek 3 rfl ti9 rfl rfl rfl rfl rfl) (aa_p 3 rfl (lt_move rfl) (aa_p 4 rfl (lt_idx rfl rfl pa1151 und89 ti9) (aa_l 5 rfl (lt_load_peek 1 rfl ti9 rfl rfl rfl rfl rfl) (aa_p 6 rfl (lt_build (cs := [str x1144, str x1148, (.slice none 0 0)]) rfl ti76 pl76 rfl) (aa_one 7 (aa_op rfl rfl ?_))))))))
 refine hv_alloc (cs := [str ([] : Str), str ([] : Str), (.slice none 0 0)]) ti76 rfl rfl (fun b1153 => ?_)
 refine aa_all (rs := [8]) (by kernel_rfl) rfl (ts_in 1 0 rfl rfl) (List.forall_mem_singleton.2 ?_)
 refine aa_op rfl rfl (hv_store_box 0 (cs' := [str x1144, str x1148, (.slice none 0 0)]) rfl rfl ti76 rfl rfl rfl rfl rfl ?_)
 refine aa_done (by kernel_rfl) (ts_in 1 0 rfl rfl) ?_
 refine at_then (at_seq (s_sr (s_mv rfl ?_)))
 replace hr := imust hr
 obtain ⟨h1154, hr⟩ := hr
 refine at_cutf_l 4 3 rfl (by omega) (fun s1155 hc1156 => ?_)
 refine at_lt (lt_cut_l 3 rfl rfl (by omega) und89 ti9 (by omega) hc1156) rfl ?_
 refine at_inv 0 rfl (fun i1157 => ?_)
 have l1158 := slice_len i1157
 refine at_lt (lt_flen 0 rfl rfl und89) rfl (s_mv rfl (s_nt (at_int .i64 0 (by simp only [lo, hi]; omega) (at_rownew none 82 2 (at_rownil ty82 ?_)))))
 refine at_mkpure (q := (([] : (List D_crosswalk_Pair)).length * ty82.bytes ≤ 140737488355328)) (by simp only [List.nil_append, List.cons_append, List.length_cons, List.length_nil, ty82_bytes] <;> omega) ?_
 refine at_str ([] : Str) (by decide) ?_
 refine at_fnil ty82 none ?_
 replace hr := obind hr
 obtain ⟨r1176, hl1177, hk1178⟩ := hr
 refine at_cutP (V := (((List D_crosswalk_Pair) × Str × Str × (List D_crosswalk_Pair))) × (Value × Nat × (List Value) × Value)) (fun v => r1176 = Fl.go v.1) (fun v => (⟨[(0, str a0), (2, .pointer (some (Addr.add ⟨b1137, 0, none⟩ 0))), (5, .pointer (some (Addr.add ⟨b1153, 0, none⟩ 0)))], [⟨b1153, [str x1144, str x1148, v.2.1], 76⟩, ⟨b1137, [str v.1.2.1, str v.1.2.2.1, v.2.2.2.2], 76⟩], [⟨v.2.1, 82, 2, v.2.2.1, v.2.2.2.1⟩], [(ty82.row v.1.1 v.2.2.2.1), (pureF (v.1.1.length * ty82.bytes ≤ 140737488355328)), (Ty.str.fact v.1.2.1 [str v.1.2.1]), (Ty.str.fact v.1.2.2.1 [str v.1.2.2.1]), ((Ty.slice ty82).fact v.1.2.2.2 [v.2.2.2.2]), (Ty.str.fact a0 [str a0]), (Ty.str.fact x1144 [str x1144]), (Ty.str.fact x1148 [str x1148]), (utf8F 1 2)]⟩ : St)) ?_ ?_
 ·refine at_block ?_
  refine at_loopW (σ := (Nat × (List D_crosswalk_Pair) × Str × Str × (List D_crosswalk_Pair))) (V := Value × Nat × (List Value) × Value) (r := r1176) (fun n s => m50_l1 x1138 n s.1 s.2.1 s.2.2.1 s.2.2.2.1 s.2.2.2.2) (fun s e => (⟨[(0, str a0), (2, .pointer (some (Addr.add ⟨b1137, 0, none⟩ 0))), (5, .pointer (some (Addr.add ⟨b1153, 0, none⟩ 0))), (22, s1155), (23, .int .i64 ((x1138.drop 3).length : Int)), (24, .int .i64 (s.1 : Int))], [⟨b1153, [str x1144, str x1148, e.1], 76⟩, ⟨b1137, [str s.2.2.1, str s.2.2.2.1, e.2.2.2], 76⟩], [⟨e.1, 82, 2, e.2.1, e.2.2.1⟩], [((Ty.int .i64).fact (s.1 : Int) [.int .i64 (s.1 : Int)]), (ty82.row s.2.1 e.2.2.1), (pureF (s.2.1.length * ty82.bytes ≤ 140737488355328)), (Ty.str.fact s.2.2.1 [str s.2.2.1]), (Ty.str.fact s.2.2.2.1 [str s.2.2.2.1]), ((Ty.slice ty82).fact s.2.2.2.2 [e.2.2.2]), (Ty.str.fact a0 [str a0]), ((Ty.slice Ty.str).fact (x1138.drop 3) [s1155]), (Ty.str.fact x1144 [str x1144]), (Ty.str.fact x1148 [str x1148]), (utf8F 1 2)]⟩ : St)) (fun _ => rfl) _ (0, ([] : (List D_crosswalk_Pair)), ([] : Str), ([] : Str), ([] : (List D_crosswalk_Pair))) ((.slice none 0 0), 0, [], (.slice none 0 0)) hl1177 ⟨⟨rfl, ⟨rfl, ⟨rfl, ⟨rfl, ⟨rfl, ⟨rfl, trivial⟩⟩⟩⟩⟩⟩, ⟨[true, true], rfl⟩, ⟨[true], rfl⟩, ⟨[4, 3, 2, 1, 1, 0, 12, 5, 8, 6, 13], rfl⟩⟩ ?_
  clear hl1177
  intro n s hr e
  obtain ⟨x1159, x1160, x1161, x1162, x1163⟩ := s
  obtain ⟨v1164, n1165, i1166, v1167⟩ := e
  change m50_l1 x1138 (n + 1) x1159 x1160 x1161 x1162 x1163 = some r1176 at hr
  change At _ _ (⟨[(0, str a0), (2, .pointer (some (Addr.add ⟨b1137, 0, none⟩ 0))), (5, .pointer (some (Addr.add ⟨b1153, 0, none⟩ 0))), (22, s1155), (23, .int .i64 ((x1138.drop 3).length : Int)), (24, .int .i64 (x1159 : Int))], [⟨b1153, [str x1144, str x1148, v1164], 76⟩, ⟨b1137, [str x1161, str x1162, v1167], 76⟩], [⟨v1164, 82, 2, n1165, i1166⟩], [((Ty.int .i64).fact (x1159 : Int) [.int .i64 (x1159 : Int)]), (ty82.row x1160 i1166), (pureF (x1160.length * ty82.bytes ≤ 140737488355328)), (Ty.str.fact x1161 [str x1161]), (Ty.str.fact x1162 [str x1162]), ((Ty.slice ty82).fact x1163 [v1167]), (Ty.str.fact a0 [str a0]), ((Ty.slice Ty.str).fact (x1138.drop 3) [s1155]), (Ty.str.fact x1144 [str x1144]), (Ty.str.fact x1148 [str x1148]), (utf8F 1 2)]⟩ : St) _
  rw [m50_l1] at hr
  refine s_sr (at_lt (lt_lss rfl rfl) rfl (s_nt (at_seq ?_)))
  by_cases h1179 : x1159 < (x1138.drop 3).length
  ·replace hr := ipos h1179 hr
   refine at_true rfl (decide_eq_true (by omega)) ?_
   refine at_skip (at_then (at_seq (at_block (s_sr ?_))))
   replace hr := obind hr
   obtain ⟨x1180, h1181, hr⟩ := hr
   have := (List.getElem?_eq_some_iff.1 h1181).1
   refine at_elem 7 rfl (nat_at' h1181) (fun p1182 ec pa1183 => ?_)
   refine at_open (A := Unit) 0 rfl (fun _ => ec = [str x1180]) (fun _ => []) (fun F w h => ⟨(), h.1, by simp⟩) ?_
   rintro _ rfl
   refine at_lt (lt_idx rfl rfl pa1183 und89 ti9) rfl (at_lt (lt_load_peek 1 rfl ti9 rfl rfl rfl rfl rfl) rfl (s_as rfl (s_nt (at_seq (s_sr (s_mv rfl ?_))))))
   refine at_inv 0 rfl (fun l1184 => ?_)
   replace l1184 : x1180.length ≤ 9223372036854775807 := l1184
   refine at_lt (lt_slen rfl und9) rfl (at_lt (lt_neq rfl rfl) rfl (s_nt ?_))
   by_cases h1185 : x1180.length = 3
   ·replace hr := ipos h1185 hr
    refine at_false rfl (nt (decide_eq_true (by omega))) ?_
    refine at_skip (at_then ?_)
    replace hr := obind hr
    obtain ⟨c1186, h1187, hr⟩ := hr
    have := (List.getElem?_eq_some_iff.1 h1187).1
    have := c1186.toNat_lt
    replace hr := obind hr
    obtain ⟨c1188, h1189, hr⟩ := hr
    have := (List.getElem?_eq_some_iff.1 h1189).1
    have := c1188.toNat_lt
    replace hr := imust hr
    obtain ⟨h1191, hr⟩ := hr
    refine aa_start 10 (by kernel_rfl) ?_
    refine aa_p 0 rfl (lt_fieldAddr 2 rfl fld76_2 rfl) (aa_l 1 rfl (lt_load_box 0 rfl ti74 rfl rfl rfl rfl rfl) (aa_p 2 rfl (lt_move rfl) ?_))
    refine aa_p 3 rfl (lt_sidx rfl rfl und9 (by omega) h1187) ?_
    refine aa_p 4 rfl (lt_move rfl) ?_
    refine aa_p 5 rfl (lt_sidx rfl rfl und9 (by omega) h1189) ?_
    refine aa_p 6 rfl (lt_build (cs := [.int .u8 (c1186.toNat : Int), .int .u8 (c1188.toNat : Int)]) rfl ti82 pl82 rfl) (aa_one 7 (aa_op rfl rfl ?_))
    refine hv_bslice (cs := [.int .u8 (c1186.toNat : Int), .int .u8 (c1188.toNat : Int)]) rfl und74 ti82 rfl rfl rfl rfl rfl (fun s1195 => ?_)
    refine aa_one 8 ?_
    refine at_derive [] (ty82.fact (⟨c1186, c1188⟩ : D_crosswalk_Pair) [.int .u8 (c1186.toNat : Int), .int .u8 (c1188.toNat : Int)]) rfl (fun F w h => mk82 (x := (⟨c1186, c1188⟩ : D_crosswalk_Pair)) h) ?_
    refine at_rown 1 4 rfl rfl rfl (fun hn1197 => ?_)
    refine aa_op rfl rfl ?_
    refine hv_append 1 0 rfl rfl rfl rfl und74 ti82 rfl rfl rfl (by omega) (by omega) rfl (fun s1196 => ?_)
    refine at_rowsnoc 4 0 rfl rfl ?_
    refine aa_pure 9 rfl (by kernel_rfl) rfl rfl (lt_fieldAddr 2 rfl fld76_2 rfl) rfl (ts_in 0 2 rfl rfl) ?_
    refine aa_all (rs := [10]) (by kernel_rfl) rfl (ts_in 0 2 rfl rfl) (List.forall_mem_singleton.2 ?_)
    refine at_rowv 1 rfl (fun ho1198 => ?_)
    replace ho1198 := row_one (by obtain ⟨a, c, h⟩ := ho1198; exact ⟨a, _, c, h⟩)
    refine aa_op rfl rfl (hv_store1 0 (cs' := [str x1144, str x1148, s1196]) rfl rfl ti74 rfl rfl rfl rfl ho1198 ?_)
    refine aa_done (by kernel_rfl) (ts_out rfl) ?_
    refine at_in (s_tr (at_lt (lt_add rfl rfl (by simp only [lo, hi]; omega)) rfl (s_mv rfl (at_nil (at_int .i64 (x1159 + 1 : Int) (by simp only [lo, hi]; omega) ?_)))))
    refine at_mkpure (q := ((x1160 ++ [(⟨c1186, c1188⟩ : D_crosswalk_Pair)]).length * ty82.bytes ≤ 140737488355328)) (by simp only [List.length_append, List.length_cons, List.length_nil, ty82_bytes] <;> omega) ?_
    exact at_again (σ := (Nat × (List D_crosswalk_Pair) × Str × Str × (List D_crosswalk_Pair))) (V := Value × Nat × (List Value) × Value) (lp := fun n s => m50_l1 x1138 n s.1 s.2.1 s.2.2.1 s.2.2.2.1 s.2.2.2.2) (S := fun s e => (⟨[(0, str a0), (2, .pointer (some (Addr.add ⟨b1137, 0, none⟩ 0))), (5, .pointer (some (Addr.add ⟨b1153, 0, none⟩ 0))), (22, s1155), (23, .int .i64 ((x1138.drop 3).length : Int)), (24, .int .i64 (s.1 : Int))], [⟨b1153, [str x1144, str x1148, e.1], 76⟩, ⟨b1137, [str s.2.2.1, str s.2.2.2.1, e.2.2.2], 76⟩], [⟨e.1, 82, 2, e.2.1, e.2.2.1⟩], [((Ty.int .i64).fact (s.1 : Int) [.int .i64 (s.1 : Int)]), (ty82.row s.2.1 e.2.2.1), (pureF (s.2.1.length * ty82.bytes ≤ 140737488355328)), (Ty.str.fact s.2.2.1 [str s.2.2.1]), (Ty.str.fact s.2.2.2.1 [str s.2.2.2.1]), ((Ty.slice ty82).fact s.2.2.2.2 [e.2.2.2]), (Ty.str.fact a0 [str a0]), ((Ty.slice Ty.str).fact (x1138.drop 3) [s1155]), (Ty.str.fact x1144 [str x1144]), (Ty.str.fact x1148 [str x1148]), (utf8F 1 2)]⟩ : St)) (x1159 + 1, x1160 ++ [(⟨c1186, c1188⟩ : D_crosswalk_Pair)], x1161, x1162, x1163) (s1196, n1165 + 1, i1166 ++ [.int .u8 (c1186.toNat : Int), .int .u8 (c1188.toNat : Int)], v1167) hr ⟨⟨rfl, ⟨rfl, ⟨rfl, ⟨rfl, ⟨rfl, ⟨rfl, trivial⟩⟩⟩⟩⟩⟩, ⟨[true, true], rfl⟩, ⟨[false, true], rfl⟩, ⟨[1, 2, 0, 9, 10, 11, 12, 13, 14, 15, 16], rfl⟩⟩
   replace hr := ineg h1185 hr
   refine at_true rfl (nf (decide_eq_false (by omega))) ?_
   refine s_sr (at_lt (lt_build (cs := [str ([] : Str), str ([] : Str), (.slice none 0 0)]) rfl ti76 pl76 rfl) rfl (at_hv rfl (hv_store_box 1 (cs' := [str ([] : Str), str ([] : Str), (.slice none 0 0)]) rfl rfl ti76 rfl rfl rfl rfl rfl (s_as rfl (s_nt (at_ret ?_))))))
   have hq := oinj hr
   clear hr
   subst hq
   have hq := oinj hk1178
   clear hk1178
   subst hq
   refine at_then_ret (at_in_ret (at_then_ret (at_then_ret (at_in_ret (at_then_ret (at_then_ret ?_))))))
   refine at_str ([] : Str) (by decide) ?_
   refine at_fnil ty82 none ?_
   refine at_derive [1, 1, 0] (ty76.fact (⟨([] : Str), ([] : Str), ([] : (List D_crosswalk_Pair))⟩ : D_crosswalk_Entry) [str ([] : Str), str ([] : Str), (.slice none 0 0)]) rfl (fun F w h => mk76 (x := (⟨([] : Str), ([] : Str), ([] : (List D_crosswalk_Pair))⟩ : D_crosswalk_Entry)) h) ?_
   exact at_return (.tuple #[.agg #[str ([] : Str), str ([] : Str), (.slice none 0 0)], .bool false]) [0] hS Tryz.results50 (.cons (.cell 1 rfl ti76 rfl rfl rfl rfl) (.cons (.tmp rfl) .nil)) rfl rfl ⟨((.slice none 0 0)), rfl, rfl⟩
  replace hr := ineg h1179 hr
  refine at_false rfl (decide_eq_false (by omega)) ?_
  refine at_exit (at_then_exit (at_then_exit (at_in_exit ?_)))
  have hq := oinj hr
  clear hr
  subst hq
  exact at_leafP ((x1160, x1161, x1162, x1163), (v1164, n1165, i1166, v1167)) rfl ⟨⟨rfl, ⟨rfl, ⟨rfl, trivial⟩⟩⟩, ⟨[true, true], rfl⟩, ⟨[true], rfl⟩, ⟨[1, 2, 3, 4, 5, 6, 8, 9, 10], rfl⟩⟩
 rintro ⟨⟨x1168, x1169, x1170, x1171⟩, ⟨v1172, n1173, i1174, v1175⟩⟩ hp
 replace hr := hk1178
 subst hp
 clear hl1177
 change At _ _ (⟨[(0, str a0), (2, .pointer (some (Addr.add ⟨b1137, 0, none⟩ 0))), (5, .pointer (some (Addr.add ⟨b1153, 0, none⟩ 0)))], [⟨b1153, [str x1144, str x1148, v1172], 76⟩, ⟨b1137, [str x1169, str x1170, v1175], 76⟩], [⟨v1172, 82, 2, n1173, i1174⟩], [(ty82.row x1168 i1174), (pureF (x1168.length * ty82.bytes ≤ 140737488355328)), (Ty.str.fact x1169 [str x1169]), (Ty.str.fact x1170 [str x1170]), ((Ty.slice ty82).fact x1171 [v1175]), (Ty.str.fact a0 [str a0]), (Ty.str.fact x1144 [str x1144]), (Ty.str.fact x1148 [str x1148]), (utf8F 1 2)]⟩ : St) _
 refine at_then (at_seq ?_)
 replace hr := obind hr
 obtain ⟨x1199, h1200, hr⟩ := hr
 by_cases h1202 : x1199 = true
 ·replace hr := ipos h1202 hr
  replace hr := obind hr
  obtain ⟨x1203, h1204, hr⟩ := hr
  refine aa_start 9 (by kernel_rfl) ?_
  refine aa_l 0 rfl (lt_load_box 0 rfl ti76 rfl rfl rfl rfl rfl) (aa_one 1 (aa_op rfl rfl (hv_lt (lt_load_box 0 rfl ti76 rfl rfl rfl rfl rfl) rfl (aa_one 2 ?_))))
  refine at_pure 1 rfl (fun hb1206 => ?_)
  refine at_release 0 0 rfl rfl rfl hb1206 ?_
  refine at_derive [7, 8, 0] (ty76.fact (⟨x1144, x1148, x1168⟩ : D_crosswalk_Entry) [str x1144, str x1148, v1172]) rfl (fun F w h => mk76 (x := (⟨x1144, x1148, x1168⟩ : D_crosswalk_Entry)) h) ?_
  refine aa_op rfl rfl (hv_call0 [0] (f57_spec h1200) rfl rfl rfl rfl ?_)
  rintro _ _ ⟨rfl, rfl⟩
  refine aa_pure 3 rfl (by kernel_rfl) rfl rfl (lt_move rfl) rfl (ts_in 0 2 rfl rfl) ?_
  refine aa_pure 6 rfl (by kernel_rfl) rfl ⟨46, rfl, .inl ⟨_, rfl, gdq (v := true) h1202 rfl⟩⟩ (lt_move rfl) rfl (ts_in 0 2 rfl rfl) ?_
  refine aa_all (rs := [4]) (by kernel_rfl) rfl (ts_in 0 2 rfl rfl) (List.forall_mem_singleton.2 ?_)
  refine aa_op rfl ⟨46, rfl, .inl ⟨_, rfl, gdq (v := true) h1202 rfl⟩⟩ ?_
  refine hv_lt (lt_load_box 0 rfl ti76 rfl rfl rfl rfl rfl) rfl ?_
  refine aa_all (rs := [5]) (by kernel_rfl) rfl (ts_in 0 2 rfl rfl) (List.forall_mem_singleton.2 ?_)
  refine aa_op rfl ⟨46, rfl, .inl ⟨_, rfl, gdq (v := true) h1202 rfl⟩⟩ ?_
  refine hv_call0 [0] (f54_spec h1204) rfl rfl rfl rfl ?_
  rintro _ _ ⟨rfl, rfl⟩
  refine aa_pure 7 rfl (by kernel_rfl) rfl ⟨46, rfl, .inl ⟨_, rfl, gdq (v := true) h1202 rfl⟩⟩ (lt_seql rfl rfl) rfl (ts_in 0 3 rfl rfl) ?_
  refine aa_pure 8 rfl (by kernel_rfl) rfl rfl (lt_pick true rfl h1202 rfl) rfl (ts_in 0 3 rfl rfl) ?_
  refine aa_all (rs := [9]) (by kernel_rfl) rfl (ts_in 0 3 rfl rfl) (List.forall_mem_singleton.2 ?_)
  refine at_one 2 rfl (fun ho1207 => ?_)
  refine aa_op rfl rfl (hv_store_box 1 (cs' := [str x1144, str x1148, v1172]) rfl rfl ti76 rfl rfl rfl rfl (allc rfl (allc rfl (allc ho1207 rfl))) ?_)
  refine aa_all (rs := [10]) (by kernel_rfl) rfl (ts_out rfl) (List.forall_mem_singleton.2 ?_)
  refine aa_op rfl rfl (hv_lt (lt_assign rfl) rfl ?_)
  refine aa_done (by kernel_rfl) (ts_out rfl) ?_
  refine at_then (at_ret ?_)
  have hq := oinj hr
  clear hr
  subst hq
  exact at_return (.tuple #[.agg #[str x1144, str x1148, v1172], .bool (decide (x1203 = a0))]) [1] hS Tryz.results50 (.cons (.cell 1 rfl ti76 rfl rfl rfl rfl) (.cons (.tmp rfl) .nil)) rfl rfl ⟨v1172, rfl, rfl⟩
 replace hr := ineg h1202 hr
 refine aa_start 9 (by kernel_rfl) ?_
 refine aa_l 0 rfl (lt_load_box 0 rfl ti76 rfl rfl rfl rfl rfl) (aa_one 1 (aa_op rfl rfl (hv_lt (lt_load_box 0 rfl ti76 rfl rfl rfl rfl rfl) rfl (aa_one 2 ?_))))
 refine at_pure 1 rfl (fun hb1209 => ?_)
 refine at_release 0 0 rfl rfl rfl hb1209 ?_
 refine at_derive [7, 8, 0] (ty76.fact (⟨x1144, x1148, x1168⟩ : D_crosswalk_Entry) [str x1144, str x1148, v1172]) rfl (fun F w h => mk76 (x := (⟨x1144, x1148, x1168⟩ : D_crosswalk_Entry)) h) ?_
 refine aa_op rfl rfl (hv_call0 [0] (f57_spec h1200) rfl rfl rfl rfl ?_)
 rintro _ _ ⟨rfl, rfl⟩
 refine aa_pure 3 rfl (by kernel_rfl) rfl rfl (lt_move rfl) rfl (ts_in 0 2 rfl rfl) ?_
 refine aa_off 4 rfl (by kernel_rfl) rfl ⟨46, rfl, .inl ⟨_, rfl, gdq (v := false) (bf h1202) rfl⟩⟩ rfl (ts_in 0 2 rfl rfl) ?_
 refine aa_off 5 rfl (by kernel_rfl) rfl ⟨46, rfl, .inl ⟨_, rfl, gdq (v := false) (bf h1202) rfl⟩⟩ rfl (ts_in 0 2 rfl rfl) ?_
 refine aa_off 6 rfl (by kernel_rfl) rfl ⟨46, rfl, .inl ⟨_, rfl, gdq (v := false) (bf h1202) rfl⟩⟩ rfl (ts_in 0 2 rfl rfl) ?_
 refine aa_off 7 rfl (by kernel_rfl) rfl ⟨46, rfl, .inl ⟨_, rfl, gdq (v := false) (bf h1202) rfl⟩⟩ rfl (ts_in 0 2 rfl rfl) ?_
 refine aa_pure 8 rfl (by kernel_rfl) rfl rfl (lt_pick false rfl (bf h1202) rfl) rfl (ts_in 0 2 rfl rfl) ?_
 refine aa_all (rs := [9]) (by kernel_rfl) rfl (ts_in 0 2 rfl rfl) (List.forall_mem_singleton.2 ?_)
 refine at_one 1 rfl (fun ho1210 => ?_)
 refine aa_op rfl rfl (hv_store_box 1 (cs' := [str x1144, str x1148, v1172]) rfl rfl ti76 rfl rfl rfl rfl (allc rfl (allc rfl (allc ho1210 rfl))) ?_)
 refine aa_all (rs := [10]) (by kernel_rfl) rfl (ts_out rfl) (List.forall_mem_singleton.2 ?_)
 refine aa_op rfl rfl (hv_lt (lt_assign rfl) rfl ?_)
 refine aa_done (by kernel_rfl) (ts_out rfl) ?_
 refine at_then (at_ret ?_)
 have hq := oinj hr
 clear hr
 subst hq
 exact at_return (.tuple #[.agg #[str x1144, str x1148, v1172], .bool false]) [0] hS Tryz.results50 (.cons (.cell 1 rfl ti76 rfl rfl rfl rfl) (.cons (.tmp rfl) .nil)) rfl rfl ⟨v1172, rfl, rfl⟩
def m51 (a0 : List D_crosswalk_Entry) : Option (List D_crosswalk_Entry) := if a0.length ≤ 2513169434916 then some a0 else none
theorem m51_len {a0 r : List D_crosswalk_Entry} (h : m51 a0 = some r) : r.length ≤ 2513169434916 := by
 unfold m51 at h
 obtain ⟨hb, h⟩ := imust h
 have hq := oinj h
 subst hq
 exact hb
theorem f51_specL {a0 r : List D_crosswalk_Entry} {v : Value} {n : Nat} {inner : List Value} (hr : m51 a0 = some r) : SpecG Tryz.prog 51 [v] [⟨v, 76, 3, n, inner⟩] [ty76.row a0 inner] (postCloneL ty76 76 v n inner r) := by
 unfold m51 at hr
 obtain ⟨hb, hr⟩ := imust hr
 obtain rfl := oinj hr
 refine specG_start (N := 8) Tryz.func51 (by kernel_rfl) rfl rfl rfl ?_
 intro g hS
 refine at_rowq 0 rfl (fun A c hv hn => ?_)
 refine at_rown 0 0 rfl rfl rfl (fun hl => ?_)
 simp only at hv hn
 refine s_sr (at_lt (lt_assign rfl) rfl (s_nt (at_seq (s_sr (at_lt (lt_move rfl) rfl ?_)))))
 refine at_lt (lt_nilq (A := A) (n := n) (c := c) (by rw [hv]; rfl) und34) rfl ?_
 refine s_nt ?_
 cases A with
 | none =>
  obtain rfl := hn rfl
  refine at_row0 0 rfl rfl (fun hi => ?_)
  obtain rfl := List.eq_nil_of_length_eq_zero hl.symm
  refine at_true rfl rfl (s_sr (at_lt (lt_assign rfl) rfl (s_nt (at_ret (at_then_ret (at_rownew none 76 3 (at_rownil ty76 ?_)))))))
  exact at_returnG (.slice none 0 0) [true, true] [0] hS Tryz.results51 (.cons (.tmp rfl) .nil) rfl rfl rfl ⟨0, [], rfl, rfl⟩
 | some ad =>
  refine at_false rfl rfl (at_skip (s_tsr (at_hv rfl ?_)))
  refine hv_bslice (cs := []) rfl und34 ti76 rfl rfl rfl rfl rfl (fun s1 => ?_)
  refine at_lt (lt_move rfl) rfl ?_
  refine at_rowone 0 rfl rfl (fun h1 => ?_)
  refine at_hv rfl ?_
  refine hv_append 0 1 rfl rfl rfl rfl und34 ti76 rfl rfl h1 (by omega) (by omega) rfl (fun s2 => ?_)
  refine at_lt (lt_assign rfl) rfl (s_nt (at_ret ?_))
  exact at_returnG s2 [true, true] [0] hS Tryz.results51 (.cons (.tmp rfl) .nil) rfl rfl rfl ⟨0 + n, [] ++ inner, rfl, rfl⟩
theorem f51_specR {a0 r : List D_crosswalk_Entry} {v : Value} (hr : m51 a0 = some r) : SpecG Tryz.prog 51 [v] [] [ty76.slice.fact a0 [v]] (postCloneR ty76 76 r) := by
 unfold m51 at hr
 obtain ⟨hb, hr⟩ := imust hr
 obtain rfl := oinj hr
 refine specG_start (N := 8) Tryz.func51 (by kernel_rfl) rfl rfl rfl ?_
 intro g hS
 refine at_slq 0 rfl (fun A c hv hn => ?_)
 refine s_sr (at_lt (lt_assign rfl) rfl (s_nt (at_seq (s_sr (at_lt (lt_move rfl) rfl ?_)))))
 refine at_lt (lt_nilq (A := A) (n := a0.length) (c := c) (by rw [hv]; rfl) und34) rfl ?_
 refine s_nt ?_
 cases A with
 | none =>
  obtain rfl := hn rfl
  refine at_true rfl rfl (s_sr (at_lt (lt_assign rfl) rfl (s_nt (at_ret (at_then_ret (at_rownew none 76 3 (at_rownil ty76 ?_)))))))
  exact at_returnG (.slice none 0 0) [true] [0] hS Tryz.results51 (.cons (.tmp rfl) .nil) rfl rfl rfl ⟨0, [], rfl, rfl⟩
 | some ad =>
  refine at_false rfl rfl (at_skip (s_tsr (at_hv rfl ?_)))
  refine hv_bslice (cs := []) rfl und34 ti76 rfl rfl rfl rfl rfl (fun s1 => ?_)
  refine at_lt (lt_move rfl) rfl (at_hv rfl ?_)
  refine hv_append_f 0 0 rfl rfl rfl rfl und34 ti76 rfl rfl (by omega) (by omega) rfl (fun s2 u => ?_)
  refine at_lt (lt_assign rfl) rfl (s_nt (at_ret ?_))
  exact at_returnG s2 [true] [0] hS Tryz.results51 (.cons (.tmp rfl) .nil) rfl rfl rfl ⟨0 + a0.length, [] ++ u, rfl, rfl⟩

def m19_l1 : Nat → Str → (List D_crosswalk_Entry) → Nat → Option (Fl ((List D_crosswalk_Entry) × Int × Int) (List D_crosswalk_Entry))
  | 0, _, _, _ => none
  | k + 1, x1212, x1213, x1214 =>
    if x1212 = ([] : Str) then
     some (Fl.go x1213)
    else
     (m49 x1212 ([10] : Str)).bind fun x1226 =>
     (m50 x1226.1).bind fun x1228 =>
     Option.bind (α := Bool) (
      if x1226.2.2 = true then
       if x1228.2 = true then
        (m51 x1213).bind fun x1251 =>
        if x1251.length + 1 ≤ 2513169434916 then
         (m27 (x1251 ++ [(⟨x1228.1.From, x1228.1.To, x1228.1.Codes⟩ : D_crosswalk_Entry)])).bind fun x1261 =>
         some (!x1261)
        else none
       else
        some true
      else
       some true
     ) fun x1247 =>
     if x1247 = true then
      some (Fl.ret (([] : (List D_crosswalk_Entry)), (x1214 : Int), 7))
     else
      if x1213.length + 1 ≤ 2513169434916 then
       if x1214 + 1 ≤ 9223372036854775807 then
        m19_l1 k x1226.2.1 (x1213 ++ [(⟨x1228.1.From, x1228.1.To, x1228.1.Codes⟩ : D_crosswalk_Entry)]) (x1214 + 1)
       else none
      else none
def m19 (a0 : Str) : Option ((List D_crosswalk_Entry) × Int × Int) :=
  (m19_l1 9223372036854775808 a0 ([] : (List D_crosswalk_Entry)) 0).bind fun r => match r with
  | .ret x => some x
  | .go x1218 =>
   some (x1218, 0, 0)
def post19 (r : ((List D_crosswalk_Entry) × Int × Int)) (v : Value) (fs : List Fact) : Prop := ∃ s1282 : Value, v = .tuple #[s1282, .int .i64 r.2.1, .int .i64 r.2.2] ∧ fs = [((Ty.slice ty76).fact r.1 [s1282]), ((Ty.int .i64).fact r.2.1 [.int .i64 r.2.1]), ((Ty.int .i64).fact r.2.2 [.int .i64 r.2.2])]
theorem en19 : Enters Tryz.prog 19 := ⟨_, Tryz.func19, by kernel_rfl, rfl⟩
theorem f19_spec {a0 : Str} {r : ((List D_crosswalk_Entry) × Int × Int)} (hr : m19 a0 = some r) : Spec Tryz.prog 19 [str a0] [(Ty.str.fact a0 [str a0]), (utf8F 1 2)] (post19 r) := by
 refine spec_start (N := 47) Tryz.func19 (by kernel_rfl) rfl rfl rfl ?_
 intro g hS
 unfold m19 at hr
 refine s_sr (s_as rfl (s_as rfl (s_as rfl (s_nt (at_seq (at_rownew none 76 3 (at_rownil ty76 ?_)))))))
 refine at_mkpure (q := (([] : (List D_crosswalk_Entry)).length * ty76.bytes ≤ 140737488355328)) (by simp only [List.nil_append, List.cons_append, List.length_cons, List.length_nil, ty76_bytes] <;> omega) ?_
 refine at_int .i64 0 (by simp only [lo, hi]; omega) ?_
 replace hr := obind hr
 obtain ⟨r1222, hl1223, hk1224⟩ := hr
 refine at_cutP (V := ((List D_crosswalk_Entry)) × (Value × Nat × (List Value))) (fun v => r1222 = Fl.go v.1) (fun v => (⟨[(2, v.2.1)], [], [⟨v.2.1, 76, 3, v.2.2.1, v.2.2.2⟩], [(ty76.row v.1 v.2.2.2), (pureF (v.1.length * ty76.bytes ≤ 140737488355328)), (utf8F 1 2)]⟩ : St)) ?_ ?_
 ·refine at_block ?_
  refine at_loopW (σ := (Str × (List D_crosswalk_Entry) × Nat)) (V := Value × Nat × (List Value)) (r := r1222) (fun n s => m19_l1 n s.1 s.2.1 s.2.2) (fun s e => (⟨[(0, str s.1), (2, e.1), (3, .int .i64 (s.2.2 : Int))], [], [⟨e.1, 76, 3, e.2.1, e.2.2⟩], [(Ty.str.fact s.1 [str s.1]), (ty76.row s.2.1 e.2.2), (pureF (s.2.1.length * ty76.bytes ≤ 140737488355328)), ((Ty.int .i64).fact (s.2.2 : Int) [.int .i64 (s.2.2 : Int)]), (utf8F 1 2)]⟩ : St)) (fun _ => rfl) _ (a0, ([] : (List D_crosswalk_Entry)), 0) ((.slice none 0 0), 0, []) hl1223 ⟨⟨rfl, ⟨rfl, ⟨rfl, trivial⟩⟩⟩, ⟨[], rfl⟩, ⟨[true], rfl⟩, ⟨[3, 2, 1, 0, 4], rfl⟩⟩ ?_
  clear hl1223
  intro n s hr e
  obtain ⟨x1212, x1213, x1214⟩ := s
  obtain ⟨v1215, n1216, i1217⟩ := e
  change m19_l1 (n + 1) x1212 x1213 x1214 = some r1222 at hr
  change At _ _ (⟨[(0, str x1212), (2, v1215), (3, .int .i64 (x1214 : Int))], [], [⟨v1215, 76, 3, n1216, i1217⟩], [(Ty.str.fact x1212 [str x1212]), (ty76.row x1213 i1217), (pureF (x1213.length * ty76.bytes ≤ 140737488355328)), ((Ty.int .i64).fact (x1214 : Int) [.int .i64 (x1214 : Int)]), (utf8F 1 2)]⟩ : St) _
  rw [m19_l1] at hr
  refine at_seq (s_sr (s_mv rfl (at_lt (lt_sneq rfl rfl) rfl (s_nt ?_))))
  by_cases h1225 : x1212 = ([] : Str)
  ·replace hr := ipos h1225 hr
   refine at_false rfl (nt (decide_eq_true h1225)) (at_exit (at_then_exit (at_then_exit (at_in_exit ?_))))
   have hq := oinj hr
   clear hr
   subst hq
   exact at_leafP (x1213, (v1215, n1216, i1217)) rfl ⟨⟨rfl, trivial⟩, ⟨[], rfl⟩, ⟨[true], rfl⟩, ⟨[1, 2, 4], rfl⟩⟩
  replace hr := ineg h1225 hr
  refine at_true rfl (nf (decide_eq_false h1225)) (at_skip (at_then (at_seq (at_block (s_sr (s_mv rfl ?_))))))
  replace hr := obind hr
  obtain ⟨x1226, h1227, hr⟩ := hr
  refine at_str ([10] : Str) (by decide) ?_
  refine at_hv rfl (hv_call0 [1, 0] (f49_spec h1227) rfl rfl rfl rfl ?_)
  rintro _ _ ⟨rfl, rfl⟩
  refine s_mv rfl (at_lt (lt_extract rfl rfl) rfl (at_lt (lt_extract rfl rfl) rfl (at_lt (lt_extract rfl rfl) rfl (s_as rfl (s_as rfl (s_as rfl (s_ntsr (s_mv rfl ?_))))))))
  replace hr := obind hr
  obtain ⟨x1228, h1229, hr⟩ := hr
  refine at_hv rfl (hv_call0 [0, 7] (f50_spec h1229) rfl rfl rfl rfl ?_)
  rintro _ _ ⟨s1230, rfl, rfl⟩
  refine at_open (A := Unit) 0 rfl (fun _ => True) (fun _ => [(Ty.str.fact x1228.1.From [str x1228.1.From]), (Ty.str.fact x1228.1.To [str x1228.1.To]), ((Ty.slice ty82).fact x1228.1.Codes [s1230])]) (fun F w h => ⟨(), trivial, ex76 h⟩) (fun _ _ => ?_)
  refine s_mv rfl (at_lt (lt_extract rfl rfl) rfl (at_lt (lt_extract rfl rfl) rfl (at_hv rfl ?_)))
  refine hv_alloc (cs := [str ([] : Str), str ([] : Str), (.slice none 0 0)]) ti76 rfl rfl (fun b1231 => ?_)
  refine at_one 2 rfl (fun ho1232 => ?_)
  refine at_hv rfl (hv_store_box 0 (cs' := [str x1228.1.From, str x1228.1.To, s1230]) rfl rfl ti76 rfl rfl rfl rfl (allc rfl (allc rfl (allc ho1232 rfl))) (s_as rfl (s_nt (at_seq (at_seq ?_)))))
  replace hr := obind hr
  obtain ⟨x1247, hc1248, hr⟩ := hr
  refine at_cut (V := Unit) (fun e => (⟨[(2, v1215), (3, .int .i64 (x1214 : Int)), (6, str x1226.2.1), (8, .pointer (some (Addr.add ⟨b1231, 0, none⟩ 0))), (39, .bool x1247)], [⟨b1231, [str x1228.1.From, str x1228.1.To, s1230], 76⟩], [⟨v1215, 76, 3, n1216, i1217⟩], [(ty76.row x1213 i1217), (pureF (x1213.length * ty76.bytes ≤ 140737488355328)), ((Ty.int .i64).fact (x1214 : Int) [.int .i64 (x1214 : Int)]), (Ty.str.fact x1226.2.1 [str x1226.2.1]), (Ty.str.fact x1228.1.From [str x1228.1.From]), (Ty.str.fact x1228.1.To [str x1228.1.To]), ((Ty.slice ty82).fact x1228.1.Codes [s1230]), (utf8F 1 2)]⟩ : St)) ?_ ?_
  ·clear hr
   have hr := hc1248
   clear hc1248
   by_cases h1249 : x1226.2.2 = true
   ·replace hr := ipos h1249 hr
    by_cases h1250 : x1228.2 = true
    ·replace hr := ipos h1250 hr
     replace hr := obind hr
     obtain ⟨x1251, h1252, hr⟩ := hr
     replace hr := imust hr
     obtain ⟨h1258, hr⟩ := hr
     replace hr := obind hr
     obtain ⟨x1261, h1262, hr⟩ := hr
     refine aa_start 15 (by kernel_rfl) ?_
     refine aa_p 0 rfl (lt_move rfl) (aa_p 1 rfl (lt_not rfl) (aa_p 2 rfl (lt_move rfl) ?_))
     refine aa_pg 3 rfl ⟨27, rfl, .inl ⟨_, rfl, gdq (v := false) (nt h1249) rfl⟩⟩ (lt_move rfl) ?_
     refine aa_pg 4 rfl ⟨27, rfl, .inl ⟨_, rfl, gdq (v := false) (nt h1249) rfl⟩⟩ (lt_not rfl) ?_
     refine aa_p 5 rfl (lt_pick false rfl (nt h1249) rfl) (aa_p 6 rfl (lt_move rfl) ?_)
     refine aa_pg 7 rfl ⟨31, rfl, .inl ⟨_, rfl, gdq (v := false) (nt h1250) rfl⟩⟩ (lt_move rfl) ?_
     refine aa_lg 9 rfl ⟨31, rfl, .inl ⟨_, rfl, gdq (v := false) (nt h1250) rfl⟩⟩ (lt_load_box 0 rfl ti76 rfl rfl rfl rfl rfl) ?_
     refine aa_all (rs := [8, 10]) (by kernel_rfl) rfl (ts_in 0 0 rfl rfl) (List.forall_mem_cons.2 ⟨?_, (List.forall_mem_singleton.2 ?_)⟩)
     ·refine aa_op rfl ⟨31, rfl, .inl ⟨_, rfl, gdq (v := false) (nt h1250) rfl⟩⟩ ?_
      refine hv_callG0 [true] [8] (f51_specL h1252) rfl rfl rfl rfl rfl rfl ?_
      rintro s1263 _ _ ⟨n1264, i1265, rfl, rfl⟩
      refine aa_all (rs := [10]) (by kernel_rfl) rfl (ts_in 0 1 rfl rfl) (List.forall_mem_singleton.2 ?_)
      refine aa_op rfl ⟨31, rfl, .inl ⟨_, rfl, gdq (v := false) (nt h1250) rfl⟩⟩ ?_
      refine hv_bslice (cs := [str x1228.1.From, str x1228.1.To, s1230]) rfl und34 ti76 rfl rfl rfl rfl rfl (fun s1266 => ?_)
      refine aa_all (rs := [11]) (by kernel_rfl) rfl (ts_in 0 1 rfl rfl) (List.forall_mem_singleton.2 ?_)
      refine at_derive [1, 2, 3] (ty76.fact (⟨x1228.1.From, x1228.1.To, x1228.1.Codes⟩ : D_crosswalk_Entry) [str x1228.1.From, str x1228.1.To, s1230]) rfl (fun F w h => mk76 (x := (⟨x1228.1.From, x1228.1.To, x1228.1.Codes⟩ : D_crosswalk_Entry)) h) ?_
      refine at_rown 1 1 rfl rfl rfl (fun hn1268 => ?_)
      refine aa_op rfl ⟨31, rfl, .inl ⟨_, rfl, gdq (v := false) (nt h1250) rfl⟩⟩ ?_
      refine hv_append 1 0 rfl rfl rfl rfl und34 ti76 rfl rfl (allc rfl (allc rfl (allc ho1232 rfl))) (by omega) (by omega) rfl (fun s1267 => ?_)
      refine at_rowsnoc 1 0 rfl rfl ?_
      refine aa_all (rs := [12]) (by kernel_rfl) rfl (ts_in 0 3 rfl rfl) (List.forall_mem_singleton.2 ?_)
      refine at_release 1 0 rfl rfl rfl (by simp only [List.length_append, List.length_cons, List.length_nil, ty76_bytes] <;> omega) ?_
      refine aa_op rfl ⟨31, rfl, .inl ⟨_, rfl, gdq (v := false) (nt h1250) rfl⟩⟩ ?_
      refine hv_call0 [0] (f27_spec h1262) rfl rfl rfl rfl ?_
      rintro _ _ ⟨rfl, rfl⟩
      refine aa_pure 13 rfl (by kernel_rfl) rfl ⟨31, rfl, .inl ⟨_, rfl, gdq (v := false) (nt h1250) rfl⟩⟩ (lt_not rfl) rfl (ts_in 0 4 rfl rfl) ?_
      refine aa_pure 14 rfl (by kernel_rfl) rfl rfl (lt_pick false rfl (nt h1250) rfl) rfl (ts_in 0 4 rfl rfl) ?_
      refine aa_done (by kernel_rfl) (ts_in 0 4 rfl rfl) ?_
      have hq := oinj hr
      clear hr
      subst hq
      exact at_leaf () ⟨⟨rfl, ⟨rfl, ⟨rfl, ⟨rfl, ⟨rfl, trivial⟩⟩⟩⟩⟩, ⟨[true], rfl⟩, ⟨[false, true], rfl⟩, ⟨[12, 13, 14, 9, 4, 5, 6, 15], rfl⟩⟩
     ·refine aa_op rfl ⟨31, rfl, .inl ⟨_, rfl, gdq (v := false) (nt h1250) rfl⟩⟩ ?_
      refine hv_bslice (cs := [str x1228.1.From, str x1228.1.To, s1230]) rfl und34 ti76 rfl rfl rfl rfl rfl (fun s1269 => ?_)
      refine aa_one 8 ?_
      refine aa_op rfl ⟨31, rfl, .inl ⟨_, rfl, gdq (v := false) (nt h1250) rfl⟩⟩ ?_
      refine hv_callG0 [false, true] [8] (f51_specL h1252) rfl rfl rfl rfl rfl rfl ?_
      rintro s1270 _ _ ⟨n1271, i1272, rfl, rfl⟩
      refine aa_all (rs := [11]) (by kernel_rfl) rfl (ts_in 0 1 rfl rfl) (List.forall_mem_singleton.2 ?_)
      refine at_derive [1, 2, 3] (ty76.fact (⟨x1228.1.From, x1228.1.To, x1228.1.Codes⟩ : D_crosswalk_Entry) [str x1228.1.From, str x1228.1.To, s1230]) rfl (fun F w h => mk76 (x := (⟨x1228.1.From, x1228.1.To, x1228.1.Codes⟩ : D_crosswalk_Entry)) h) ?_
      refine at_rown 0 1 rfl rfl rfl (fun hn1274 => ?_)
      refine aa_op rfl ⟨31, rfl, .inl ⟨_, rfl, gdq (v := false) (nt h1250) rfl⟩⟩ ?_
      refine hv_append 0 2 rfl rfl rfl rfl und34 ti76 rfl rfl (allc rfl (allc rfl (allc ho1232 rfl))) (by omega) (by omega) rfl (fun s1273 => ?_)
      refine at_rowsnoc 1 0 rfl rfl ?_
      refine aa_all (rs := [12]) (by kernel_rfl) rfl (ts_in 0 3 rfl rfl) (List.forall_mem_singleton.2 ?_)
      refine at_release 0 0 rfl rfl rfl (by simp only [List.length_append, List.length_cons, List.length_nil, ty76_bytes] <;> omega) ?_
      refine aa_op rfl ⟨31, rfl, .inl ⟨_, rfl, gdq (v := false) (nt h1250) rfl⟩⟩ ?_
      refine hv_call0 [0] (f27_spec h1262) rfl rfl rfl rfl ?_
      rintro _ _ ⟨rfl, rfl⟩
      refine aa_pure 13 rfl (by kernel_rfl) rfl ⟨31, rfl, .inl ⟨_, rfl, gdq (v := false) (nt h1250) rfl⟩⟩ (lt_not rfl) rfl (ts_in 0 4 rfl rfl) ?_
      refine aa_pure 14 rfl (by kernel_rfl) rfl rfl (lt_pick false rfl (nt h1250) rfl) rfl (ts_in 0 4 rfl rfl) ?_
      refine aa_done (by kernel_rfl) (ts_in 0 4 rfl rfl) ?_
      have hq := oinj hr
      clear hr
      subst hq
      exact at_leaf () ⟨⟨rfl, ⟨rfl, ⟨rfl, ⟨rfl, ⟨rfl, trivial⟩⟩⟩⟩⟩, ⟨[true], rfl⟩, ⟨[true, false], rfl⟩, ⟨[12, 13, 14, 9, 4, 5, 6, 15], rfl⟩⟩
    replace hr := ineg h1250 hr
    refine aa_start 15 (by kernel_rfl) ?_
    refine aa_p 0 rfl (lt_move rfl) (aa_p 1 rfl (lt_not rfl) (aa_p 2 rfl (lt_move rfl) ?_))
    refine aa_pg 3 rfl ⟨27, rfl, .inl ⟨_, rfl, gdq (v := false) (nt h1249) rfl⟩⟩ (lt_move rfl) ?_
    refine aa_pg 4 rfl ⟨27, rfl, .inl ⟨_, rfl, gdq (v := false) (nt h1249) rfl⟩⟩ (lt_not rfl) ?_
    refine aa_p 5 rfl (lt_pick false rfl (nt h1249) rfl) (aa_p 6 rfl (lt_move rfl) ?_)
    refine aa_o 7 rfl ⟨31, rfl, .inl ⟨_, rfl, gdq (v := true) (nf (bf h1250)) rfl⟩⟩ ?_
    refine aa_o 8 rfl ⟨31, rfl, .inl ⟨_, rfl, gdq (v := true) (nf (bf h1250)) rfl⟩⟩ ?_
    refine aa_o 9 rfl ⟨31, rfl, .inl ⟨_, rfl, gdq (v := true) (nf (bf h1250)) rfl⟩⟩ ?_
    refine aa_o 10 rfl ⟨31, rfl, .inl ⟨_, rfl, gdq (v := true) (nf (bf h1250)) rfl⟩⟩ ?_
    refine aa_o 11 rfl ⟨31, rfl, .inl ⟨_, rfl, gdq (v := true) (nf (bf h1250)) rfl⟩⟩ ?_
    refine aa_o 12 rfl ⟨31, rfl, .inl ⟨_, rfl, gdq (v := true) (nf (bf h1250)) rfl⟩⟩ ?_
    refine aa_o 13 rfl ⟨31, rfl, .inl ⟨_, rfl, gdq (v := true) (nf (bf h1250)) rfl⟩⟩ ?_
    refine aa_p 14 rfl (lt_pick true rfl (nf (bf h1250)) rfl) ?_
    refine aa_done (by kernel_rfl) (ts_in 0 0 rfl rfl) ?_
    have hq := oinj hr
    clear hr
    subst hq
    exact at_leaf () ⟨⟨rfl, ⟨rfl, ⟨rfl, ⟨rfl, ⟨rfl, trivial⟩⟩⟩⟩⟩, ⟨[true], rfl⟩, ⟨[true], rfl⟩, ⟨[8, 9, 10, 5, 0, 1, 2, 11], rfl⟩⟩
   replace hr := ineg h1249 hr
   refine aa_start 15 (by kernel_rfl) ?_
   refine aa_p 0 rfl (lt_move rfl) (aa_p 1 rfl (lt_not rfl) (aa_p 2 rfl (lt_move rfl) ?_))
   refine aa_o 3 rfl ⟨27, rfl, .inl ⟨_, rfl, gdq (v := true) (nf (bf h1249)) rfl⟩⟩ ?_
   refine aa_o 4 rfl ⟨27, rfl, .inl ⟨_, rfl, gdq (v := true) (nf (bf h1249)) rfl⟩⟩ ?_
   refine aa_p 5 rfl (lt_pick true rfl (nf (bf h1249)) rfl) (aa_p 6 rfl (lt_move rfl) ?_)
   refine aa_o 7 rfl ⟨31, rfl, .inl ⟨_, rfl, gdq (v := true) rfl rfl⟩⟩ ?_
   refine aa_o 8 rfl ⟨31, rfl, .inl ⟨_, rfl, gdq (v := true) rfl rfl⟩⟩ ?_
   refine aa_o 9 rfl ⟨31, rfl, .inl ⟨_, rfl, gdq (v := true) rfl rfl⟩⟩ ?_
   refine aa_o 10 rfl ⟨31, rfl, .inl ⟨_, rfl, gdq (v := true) rfl rfl⟩⟩ ?_
   refine aa_o 11 rfl ⟨31, rfl, .inl ⟨_, rfl, gdq (v := true) rfl rfl⟩⟩ ?_
   refine aa_o 12 rfl ⟨31, rfl, .inl ⟨_, rfl, gdq (v := true) rfl rfl⟩⟩ ?_
   refine aa_o 13 rfl ⟨31, rfl, .inl ⟨_, rfl, gdq (v := true) rfl rfl⟩⟩ ?_
   refine aa_p 14 rfl (lt_pick true rfl rfl rfl) ?_
   refine aa_done (by kernel_rfl) (ts_in 0 0 rfl rfl) ?_
   have hq := oinj hr
   clear hr
   subst hq
   exact at_leaf () ⟨⟨rfl, ⟨rfl, ⟨rfl, ⟨rfl, ⟨rfl, trivial⟩⟩⟩⟩⟩, ⟨[true], rfl⟩, ⟨[true], rfl⟩, ⟨[8, 9, 10, 5, 0, 1, 2, 11], rfl⟩⟩
  clear hc1248
  intro _
  change At _ _ (⟨[(2, v1215), (3, .int .i64 (x1214 : Int)), (6, str x1226.2.1), (8, .pointer (some (Addr.add ⟨b1231, 0, none⟩ 0))), (39, .bool x1247)], [⟨b1231, [str x1228.1.From, str x1228.1.To, s1230], 76⟩], [⟨v1215, 76, 3, n1216, i1217⟩], [(ty76.row x1213 i1217), (pureF (x1213.length * ty76.bytes ≤ 140737488355328)), ((Ty.int .i64).fact (x1214 : Int) [.int .i64 (x1214 : Int)]), (Ty.str.fact x1226.2.1 [str x1226.2.1]), (Ty.str.fact x1228.1.From [str x1228.1.From]), (Ty.str.fact x1228.1.To [str x1228.1.To]), ((Ty.slice ty82).fact x1228.1.Codes [s1230]), (utf8F 1 2)]⟩ : St) _
  refine at_then ?_
  by_cases h1275 : x1247 = true
  ·replace hr := ipos h1275 hr
   refine at_true rfl h1275 (s_sr (s_mv rfl (s_as rfl (s_as rfl (s_as rfl (s_nt (at_ret ?_)))))))
   have hq := oinj hr
   clear hr
   subst hq
   have hq := oinj hk1224
   clear hk1224
   subst hq
   refine at_then_ret (at_in_ret (at_then_ret (at_then_ret (at_in_ret (at_then_ret (at_then_ret (at_fnil ty76 none (at_int .i64 7 (by simp only [lo, hi]; omega) ?_))))))))
   exact at_return (.tuple #[(.slice none 0 0), .int .i64 (x1214 : Int), .int .i64 7]) [1, 4, 0] hS Tryz.results19 (.cons (.tmp rfl) (.cons (.tmp rfl) (.cons (.tmp rfl) .nil))) rfl rfl ⟨((.slice none 0 0)), rfl, rfl⟩
  replace hr := ineg h1275 hr
  refine at_false rfl (bf h1275) (at_skip (s_tsr (s_mv rfl (at_lt (lt_load_box 0 rfl ti76 rfl rfl rfl rfl rfl) rfl (at_hv rfl ?_)))))
  refine hv_bslice (cs := [str x1228.1.From, str x1228.1.To, s1230]) rfl und34 ti76 rfl rfl rfl rfl rfl (fun s1276 => ?_)
  replace hr := imust hr
  obtain ⟨h1277, hr⟩ := hr
  refine at_derive [4, 5, 6] (ty76.fact (⟨x1228.1.From, x1228.1.To, x1228.1.Codes⟩ : D_crosswalk_Entry) [str x1228.1.From, str x1228.1.To, s1230]) rfl (fun F w h => mk76 (x := (⟨x1228.1.From, x1228.1.To, x1228.1.Codes⟩ : D_crosswalk_Entry)) h) ?_
  refine at_rown 1 1 rfl rfl rfl (fun hn1279 => ?_)
  refine at_hv rfl ?_
  refine hv_append 1 0 rfl rfl rfl rfl und34 ti76 rfl rfl (allc rfl (allc rfl (allc ho1232 rfl))) (by omega) (by omega) rfl (fun s1278 => ?_)
  refine at_rowsnoc 1 0 rfl rfl (s_as rfl (at_nil (s_tr (s_mv rfl (s_as rfl (at_nil (at_in (s_tr (s_mv rfl ?_)))))))))
  replace hr := imust hr
  obtain ⟨h1280, hr⟩ := hr
  refine at_lt (lt_add rfl rfl (by simp only [lo, hi]; omega)) rfl (s_as rfl (at_nil ?_))
  refine at_mkpure (q := ((x1213 ++ [(⟨x1228.1.From, x1228.1.To, x1228.1.Codes⟩ : D_crosswalk_Entry)]).length * ty76.bytes ≤ 140737488355328)) (by simp only [List.length_append, List.length_cons, List.length_nil, ty76_bytes] <;> omega) ?_
  refine at_int .i64 (x1214 + 1 : Int) (by simp only [lo, hi]; omega) ?_
  exact at_again (σ := (Str × (List D_crosswalk_Entry) × Nat)) (V := Value × Nat × (List Value)) (lp := fun n s => m19_l1 n s.1 s.2.1 s.2.2) (S := fun s e => (⟨[(0, str s.1), (2, e.1), (3, .int .i64 (s.2.2 : Int))], [], [⟨e.1, 76, 3, e.2.1, e.2.2⟩], [(Ty.str.fact s.1 [str s.1]), (ty76.row s.2.1 e.2.2), (pureF (s.2.1.length * ty76.bytes ≤ 140737488355328)), ((Ty.int .i64).fact (s.2.2 : Int) [.int .i64 (s.2.2 : Int)]), (utf8F 1 2)]⟩ : St)) (x1226.2.1, x1213 ++ [(⟨x1228.1.From, x1228.1.To, x1228.1.Codes⟩ : D_crosswalk_Entry)], x1214 + 1) (s1278, n1216 + 1, i1217 ++ [str x1228.1.From, str x1228.1.To, s1230]) hr ⟨⟨rfl, ⟨rfl, ⟨rfl, trivial⟩⟩⟩, ⟨[false], rfl⟩, ⟨[false, true], rfl⟩, ⟨[7, 2, 1, 0, 11], rfl⟩⟩
 rintro ⟨x1218, ⟨v1219, n1220, i1221⟩⟩ hp
 replace hr := hk1224
 subst hp
 clear hl1223
 change At _ _ (⟨[(2, v1219)], [], [⟨v1219, 76, 3, n1220, i1221⟩], [(ty76.row x1218 i1221), (pureF (x1218.length * ty76.bytes ≤ 140737488355328)), (utf8F 1 2)]⟩ : St) _
 refine s_tsr (s_mv rfl (s_as rfl (s_as rfl (s_as rfl (s_nt (at_ret ?_))))))
 have hq := oinj hr
 clear hr
 subst hq
 refine at_pure 1 rfl (fun hb1281 => ?_)
 refine at_release 0 0 rfl rfl rfl hb1281 (at_int .i64 0 (by simp only [lo, hi]; omega) ?_)
 exact at_return (.tuple #[v1219, .int .i64 0, .int .i64 0]) [1, 0, 0] hS Tryz.results19 (.cons (.tmp rfl) (.cons (.tmp rfl) (.cons (.tmp rfl) .nil))) rfl rfl ⟨v1219, rfl, rfl⟩
def m10  : Option Bool :=
  (m19 ([50, 52, 53, 32, 62, 32, 50, 48, 48, 32, 97, 62, 97, 32, 98, 62, 101, 10] : Str)).bind fun x1283 =>
  (m14 x1283.1 (⟨3, [(⟨([50, 52, 53] : Str), 49, 32, [(⟨98, ([114, 101, 115, 116] : Str)⟩ : D_api_Sub), (⟨99, ([120] : Str)⟩ : D_api_Sub)]⟩ : D_api_Field)]⟩ : D_api_Record)).bind fun x1293 =>
  (m19 ([49, 48, 48, 32, 62, 32, 55, 48, 48, 32, 97, 62, 97, 10, 55, 48, 48, 32, 62, 32, 55, 48, 48, 32, 97, 62, 97, 10] : Str)).bind fun x1300 =>
  if x1283.2.2 = 0 then
   if x1283.2.1 = 0 then
    if x1293.2 = 0 then
     if x1300.2.2 = 0 then
      if x1293.1.Fields.length = 1 then
       (x1293.1.Fields[0]?).bind fun x1312 =>
       if x1312.Tag = ([50, 48, 48] : Str) then
        (x1293.1.Fields[0]?).bind fun x1318 =>
        if x1318.Subs.length = 1 then
         (x1293.1.Fields[0]?).bind fun x1326 =>
         (x1326.Subs[0]?).bind fun x1331 =>
         if (decide (((x1331.Code.toNat : Int) : Int) = 101) && decide (x1331.Value = ([114, 101, 115, 116] : Str))) = true then
          (m17 x1283.1).bind fun x1336 =>
          if x1336 = true then
           (m17 x1300.1).bind fun x1339 =>
           some (!x1339)
          else
           some false
         else
          some false
        else
         some false
       else
        some false
      else
       some false
     else
      some false
    else
     some false
   else
    some false
  else
   some false
def post10 (r : Bool) (v : Value) (fs : List Fact) : Prop := v = .bool r ∧ fs = []
theorem en10 : Enters Tryz.prog 10 := ⟨_, Tryz.func10, by kernel_rfl, rfl⟩
theorem f10_spec {r : Bool} (hr : m10  = some r) : Spec Tryz.prog 10 [] [(utf8F 1 2)] (post10 r) := by
 refine spec_start (N := 90) Tryz.func10 (by kernel_rfl) rfl rfl rfl ?_
 intro g hS
 unfold m10 at hr
 refine s_sr (s_as rfl (s_ntsr ?_))
 replace hr := obind hr
 obtain ⟨x1283, h1284, hr⟩ := hr
 refine at_str ([50, 52, 53, 32, 62, 32, 50, 48, 48, 32, 97, 62, 97, 32, 98, 62, 101, 10] : Str) (by decide) ?_
 refine at_hv rfl (hv_call0 [0, 1] (f19_spec h1284) rfl rfl rfl rfl ?_)
 rintro _ _ ⟨s1285, rfl, rfl⟩
 refine at_inv 1 rfl (fun l1286 => ?_)
 replace l1286 : (-9223372036854775808) ≤ x1283.2.1 ∧ x1283.2.1 ≤ 9223372036854775807 := l1286
 refine at_inv 2 rfl (fun l1287 => ?_)
 replace l1287 : (-9223372036854775808) ≤ x1283.2.2 ∧ x1283.2.2 ≤ 9223372036854775807 := l1287
 refine s_mv rfl (at_lt (lt_extract rfl rfl) rfl (at_lt (lt_extract rfl rfl) rfl (at_lt (lt_extract rfl rfl) rfl (s_as rfl (s_as rfl (s_as rfl (s_ntsr (at_lt (lt_abuild (cs := [.int .u8 49, .int .u8 32]) rfl ti64 und64 ti5 rfl) rfl (at_lt (lt_build (cs := [.int .u8 98, str ([114, 101, 115, 116] : Str)]) rfl ti66 pl66 rfl) rfl ?_)))))))))
 refine at_lt (lt_build (cs := [.int .u8 99, str ([120] : Str)]) rfl ti66 pl66 rfl) rfl (at_hv rfl ?_)
 refine hv_bslice (cs := [.int .u8 98, str ([114, 101, 115, 116] : Str), .int .u8 99, str ([120] : Str)]) rfl und67 ti66 rfl rfl rfl rfl rfl (fun s1288 => ?_)
 refine at_rowv 0 rfl (fun ho1289 => ?_)
 replace ho1289 := row_one (by obtain ⟨a, c, h⟩ := ho1289; exact ⟨a, _, c, h⟩)
 refine at_lt (lt_buildc (cs := [str ([50, 52, 53] : Str), .int .u8 49, .int .u8 32, s1288]) [(0, [str ([50, 52, 53] : Str)]), (1, [.int .u8 49, .int .u8 32]), (2, [s1288])] rfl ti69 pl69 ⟨rfl, rfl, ⟨rfl, rfl, ⟨rfl, cells_one ho1289, trivial⟩⟩⟩ rfl) rfl ?_
 refine at_hv rfl ?_
 refine hv_bslice (cs := [str ([50, 52, 53] : Str), .int .u8 49, .int .u8 32, s1288]) rfl und23 ti69 rfl rfl rfl rfl rfl (fun s1290 => ?_)
 refine at_rowv 0 rfl (fun ho1291 => ?_)
 replace ho1291 := row_one (by obtain ⟨a, c, h⟩ := ho1291; exact ⟨a, _, c, h⟩)
 refine at_lt (lt_buildc (cs := [.int .i64 3, s1290]) [(0, [.int .i64 3]), (1, [s1290])] rfl ti25 pl25 ⟨rfl, rfl, ⟨rfl, cells_one ho1291, trivial⟩⟩ rfl) rfl ?_
 refine at_hv rfl ?_
 refine hv_alloc (cs := [.int .i64 0, (.slice none 0 0)]) ti25 rfl rfl (fun b1292 => ?_)
 refine at_hv rfl (hv_store_box 0 (cs' := [.int .i64 3, s1290]) rfl rfl ti25 rfl rfl rfl rfl (allc rfl (allc ho1291 rfl)) (s_ntsr (s_mv rfl (at_lt (lt_load_box 0 rfl ti25 rfl rfl rfl rfl rfl) rfl ?_))))
 replace hr := obind hr
 obtain ⟨x1293, h1294, hr⟩ := hr
 refine at_int .i64 3 (by simp only [lo, hi]; omega) (at_rownil ty69 ?_)
 refine at_str ([50, 52, 53] : Str) (by decide) ?_
 refine at_rownil ty66 ?_
 refine at_str ([114, 101, 115, 116] : Str) (by decide) ?_
 refine at_derive [0] (ty66.fact (⟨98, ([114, 101, 115, 116] : Str)⟩ : D_api_Sub) [.int .u8 98, str ([114, 101, 115, 116] : Str)]) rfl (fun F w h => mk66 (x := (⟨98, ([114, 101, 115, 116] : Str)⟩ : D_api_Sub)) h) ?_
 refine at_rowsnoc 2 0 rfl rfl ?_
 refine at_str ([120] : Str) (by decide) ?_
 refine at_derive [0] (ty66.fact (⟨99, ([120] : Str)⟩ : D_api_Sub) [.int .u8 99, str ([120] : Str)]) rfl (fun F w h => mk66 (x := (⟨99, ([120] : Str)⟩ : D_api_Sub)) h) ?_
 refine at_rowsnoc 2 0 rfl rfl ?_
 refine at_release 1 0 rfl rfl rfl (by simp only [List.nil_append, List.cons_append, List.length_cons, List.length_nil, ty66_bytes] <;> omega) ?_
 refine at_derive [8, 0] (ty69.fact (⟨([50, 52, 53] : Str), 49, 32, [(⟨98, ([114, 101, 115, 116] : Str)⟩ : D_api_Sub), (⟨99, ([120] : Str)⟩ : D_api_Sub)]⟩ : D_api_Field) [str ([50, 52, 53] : Str), .int .u8 49, .int .u8 32, s1288]) rfl (fun F w h => mk69 (x := (⟨([50, 52, 53] : Str), 49, 32, [(⟨98, ([114, 101, 115, 116] : Str)⟩ : D_api_Sub), (⟨99, ([120] : Str)⟩ : D_api_Sub)]⟩ : D_api_Field)) h) ?_
 refine at_rowsnoc 10 0 rfl rfl ?_
 refine at_release 0 0 rfl rfl rfl (by simp only [List.nil_append, List.cons_append, List.length_cons, List.length_nil, ty69_bytes] <;> omega) ?_
 refine at_derive [13, 0] (ty25.fact (⟨3, [(⟨([50, 52, 53] : Str), 49, 32, [(⟨98, ([114, 101, 115, 116] : Str)⟩ : D_api_Sub), (⟨99, ([120] : Str)⟩ : D_api_Sub)]⟩ : D_api_Field)]⟩ : D_api_Record) [.int .i64 3, s1290]) rfl (fun F w h => mk25 (x := (⟨3, [(⟨([50, 52, 53] : Str), 49, 32, [(⟨98, ([114, 101, 115, 116] : Str)⟩ : D_api_Sub), (⟨99, ([120] : Str)⟩ : D_api_Sub)]⟩ : D_api_Field)]⟩ : D_api_Record)) h) ?_
 refine at_hv rfl (hv_call0 [15, 0, 19] (f14_spec h1294) rfl rfl rfl rfl ?_)
 rintro _ _ ⟨s1295, rfl, rfl⟩
 refine at_open (A := Unit) 0 rfl (fun _ => True) (fun _ => [((Ty.int .i64).fact x1293.1.ID [.int .i64 x1293.1.ID]), ((Ty.slice ty69).fact x1293.1.Fields [s1295])]) (fun F w h => ⟨(), trivial, ex25 h⟩) (fun _ _ => ?_)
 refine at_inv 0 rfl (fun l1296 => ?_)
 replace l1296 : (-9223372036854775808) ≤ x1293.1.ID ∧ x1293.1.ID ≤ 9223372036854775807 := l1296
 refine at_inv 3 rfl (fun l1297 => ?_)
 replace l1297 : (-9223372036854775808) ≤ x1293.2 ∧ x1293.2 ≤ 9223372036854775807 := l1297
 refine s_mv rfl (at_lt (lt_extract rfl rfl) rfl (at_lt (lt_extract rfl rfl) rfl (at_hv rfl ?_)))
 refine hv_alloc (cs := [.int .i64 0, (.slice none 0 0)]) ti25 rfl rfl (fun b1298 => ?_)
 refine at_one 1 rfl (fun ho1299 => ?_)
 refine at_hv rfl (hv_store_box 0 (cs' := [.int .i64 x1293.1.ID, s1295]) rfl rfl ti25 rfl rfl rfl rfl (allc rfl (allc ho1299 rfl)) (s_as rfl (s_ntsr ?_)))
 replace hr := obind hr
 obtain ⟨x1300, h1301, hr⟩ := hr
 refine at_str ([49, 48, 48, 32, 62, 32, 55, 48, 48, 32, 97, 62, 97, 10, 55, 48, 48, 32, 62, 32, 55, 48, 48, 32, 97, 62, 97, 10] : Str) (by decide) ?_
 refine at_hv rfl (hv_call0 [0, 24] (f19_spec h1301) rfl rfl rfl rfl ?_)
 rintro _ _ ⟨s1302, rfl, rfl⟩
 refine at_inv 1 rfl (fun l1303 => ?_)
 replace l1303 : (-9223372036854775808) ≤ x1300.2.1 ∧ x1300.2.1 ≤ 9223372036854775807 := l1303
 refine at_inv 2 rfl (fun l1304 => ?_)
 replace l1304 : (-9223372036854775808) ≤ x1300.2.2 ∧ x1300.2.2 ≤ 9223372036854775807 := l1304
 refine s_mv rfl (at_lt (lt_extract rfl rfl) rfl (at_lt (lt_extract rfl rfl) rfl (at_lt (lt_extract rfl rfl) rfl (s_as rfl (s_as rfl (s_as rfl (s_ntsr (s_mv rfl (at_lt (lt_eql rfl rfl) rfl ?_)))))))))
 refine s_mv rfl ?_
 by_cases h1305 : x1283.2.2 = 0
 ·replace hr := ipos h1305 hr
  refine at_on rfl rfl (decide_eq_true (by first | exact h1305 | omega)) ?_
  refine s_mv rfl ?_
  refine at_on rfl rfl (decide_eq_true (by first | exact h1305 | omega)) ?_
  refine at_lt (lt_eql rfl rfl) rfl ?_
  refine at_lt (lt_pick true rfl (decide_eq_true (by first | exact h1305 | omega)) rfl) rfl ?_
  refine s_mv rfl ?_
  by_cases h1306 : x1283.2.1 = 0
  ·replace hr := ipos h1306 hr
   refine at_on rfl rfl (decide_eq_true (by first | exact h1306 | omega)) ?_
   refine s_mv rfl ?_
   refine at_on rfl rfl (decide_eq_true (by first | exact h1306 | omega)) ?_
   refine at_lt (lt_eql rfl rfl) rfl ?_
   refine at_lt (lt_pick true rfl (decide_eq_true (by first | exact h1306 | omega)) rfl) rfl ?_
   refine s_mv rfl ?_
   by_cases h1307 : x1293.2 = 0
   ·replace hr := ipos h1307 hr
    refine at_on rfl rfl (decide_eq_true (by first | exact h1307 | omega)) ?_
    refine s_mv rfl ?_
    refine at_on rfl rfl (decide_eq_true (by first | exact h1307 | omega)) ?_
    refine at_lt (lt_eql rfl rfl) rfl ?_
    refine at_lt (lt_pick true rfl (decide_eq_true (by first | exact h1307 | omega)) rfl) rfl ?_
    refine s_mv rfl ?_
    by_cases h1308 : x1300.2.2 = 0
    ·replace hr := ipos h1308 hr
     refine at_on rfl rfl (decide_eq_true (by first | exact h1308 | omega)) ?_
     refine at_lt (lt_fieldAddr 1 rfl fld25_1 rfl) rfl ?_
     refine at_on rfl rfl (decide_eq_true (by first | exact h1308 | omega)) ?_
     refine at_lt (lt_load_box 0 rfl ti23 rfl rfl rfl rfl rfl) rfl ?_
     refine at_inv 5 rfl (fun i1309 => ?_)
     have l1310 := slice_len i1309
     refine at_on rfl rfl (decide_eq_true (by first | exact h1308 | omega)) ?_
     refine at_lt (lt_flen 5 rfl rfl und23) rfl ?_
     refine at_on rfl rfl (decide_eq_true (by first | exact h1308 | omega)) ?_
     refine at_lt (lt_eql rfl rfl) rfl ?_
     refine at_lt (lt_pick true rfl (decide_eq_true (by first | exact h1308 | omega)) rfl) rfl ?_
     refine s_mv rfl ?_
     by_cases h1311 : x1293.1.Fields.length = 1
     ·replace hr := ipos h1311 hr
      refine at_on rfl rfl (decide_eq_true (by omega)) ?_
      refine at_lt (lt_fieldAddr 1 rfl fld25_1 rfl) rfl ?_
      refine at_on rfl rfl (decide_eq_true (by omega)) ?_
      refine at_lt (lt_load_box 0 rfl ti23 rfl rfl rfl rfl rfl) rfl ?_
      replace hr := obind hr
      obtain ⟨x1312, h1313, hr⟩ := hr
      have := (List.getElem?_eq_some_iff.1 h1313).1
      refine at_elem 5 rfl (nat_at' (i := 0) h1313) (fun p1315 ec pa1316 => ?_)
      refine at_open (A := Value) 0 rfl _ _ (fun F w h => op69 h) ?_
      rintro s1314 rfl
      refine at_on rfl rfl (decide_eq_true (by omega)) ?_
      refine at_lt (lt_idx rfl rfl pa1316 und23 ti69) rfl ?_
      refine at_on rfl rfl (decide_eq_true (by omega)) ?_
      refine at_lt (lt_fieldAddr 0 rfl fld69_0 rfl) rfl ?_
      refine at_on rfl rfl (decide_eq_true (by omega)) ?_
      refine at_lt (lt_load_peek 3 rfl ti9 rfl rfl rfl rfl rfl) rfl ?_
      refine at_on rfl rfl (decide_eq_true (by omega)) ?_
      refine at_lt (lt_seql rfl rfl) rfl ?_
      refine at_lt (lt_pick true rfl (decide_eq_true (by omega)) rfl) rfl ?_
      refine s_mv rfl ?_
      by_cases h1317 : x1312.Tag = ([50, 48, 48] : Str)
      ·replace hr := ipos h1317 hr
       refine at_on rfl rfl (decide_eq_true h1317) (at_lt (lt_fieldAddr 1 rfl fld25_1 rfl) rfl (at_on rfl rfl (decide_eq_true h1317) (at_lt (lt_load_box 0 rfl ti23 rfl rfl rfl rfl rfl) rfl ?_)))
       replace hr := obind hr
       obtain ⟨x1318, h1319, hr⟩ := hr
       have := (List.getElem?_eq_some_iff.1 h1319).1
       refine at_elem 9 rfl (nat_at' (i := 0) h1319) (fun p1321 ec pa1322 => ?_)
       refine at_open (A := Value) 0 rfl _ _ (fun F w h => op69 h) ?_
       rintro s1320 rfl
       refine at_on rfl rfl (decide_eq_true h1317) (at_lt (lt_idx rfl rfl pa1322 und23 ti69) rfl (at_on rfl rfl (decide_eq_true h1317) (at_lt (lt_fieldAddr 3 rfl fld69_2 rfl) rfl (at_on rfl rfl (decide_eq_true h1317) (at_lt (lt_load_peek 3 rfl ti67 rfl rfl rfl rfl rfl) rfl ?_)))))
       refine at_inv 1 rfl (fun i1323 => ?_)
       have l1324 := slice_len i1323
       refine at_on rfl rfl (decide_eq_true h1317) (at_lt (lt_flen 1 rfl rfl und67) rfl (at_on rfl rfl (decide_eq_true h1317) (at_lt (lt_eql rfl rfl) rfl (at_lt (lt_pick true rfl (decide_eq_true h1317) rfl) rfl (s_mv rfl ?_)))))
       by_cases h1325 : x1318.Subs.length = 1
       ·replace hr := ipos h1325 hr
        refine at_on rfl rfl (decide_eq_true (by omega)) ?_
        refine at_lt (lt_fieldAddr 1 rfl fld25_1 rfl) rfl ?_
        refine at_on rfl rfl (decide_eq_true (by omega)) ?_
        refine at_lt (lt_load_box 0 rfl ti23 rfl rfl rfl rfl rfl) rfl ?_
        replace hr := obind hr
        obtain ⟨x1326, h1327, hr⟩ := hr
        have := (List.getElem?_eq_some_iff.1 h1327).1
        refine at_elem 13 rfl (nat_at' (i := 0) h1327) (fun p1329 ec pa1330 => ?_)
        refine at_open (A := Value) 0 rfl _ _ (fun F w h => op69 h) ?_
        rintro s1328 rfl
        refine at_on rfl rfl (decide_eq_true (by omega)) ?_
        refine at_lt (lt_idx rfl rfl pa1330 und23 ti69) rfl ?_
        refine at_on rfl rfl (decide_eq_true (by omega)) ?_
        refine at_lt (lt_fieldAddr 3 rfl fld69_2 rfl) rfl ?_
        refine at_on rfl rfl (decide_eq_true (by omega)) ?_
        refine at_lt (lt_load_peek 3 rfl ti67 rfl rfl rfl rfl rfl) rfl ?_
        replace hr := obind hr
        obtain ⟨x1331, h1332, hr⟩ := hr
        have := (List.getElem?_eq_some_iff.1 h1332).1
        refine at_elem 1 rfl (nat_at' (i := 0) h1332) (fun p1333 ec pa1334 => ?_)
        refine at_open (A := Unit) 0 rfl _ _ (fun F w h => op66 h) ?_
        rintro _ rfl
        refine at_on rfl rfl (decide_eq_true (by omega)) ?_
        refine at_lt (lt_idx rfl rfl pa1334 und67 ti66) rfl ?_
        refine at_on rfl rfl (decide_eq_true (by omega)) ?_
        refine at_lt (lt_load_peek 2 rfl ti66 rfl rfl rfl rfl rfl) rfl ?_
        refine at_on rfl rfl (decide_eq_true (by omega)) ?_
        refine at_lt (lt_build (cs := [.int .u8 101, str ([114, 101, 115, 116] : Str)]) rfl ti66 pl66 rfl) rfl ?_
        refine at_on rfl rfl (decide_eq_true (by omega)) ?_
        refine at_lt (lt_steq rfl rfl eg66 eqt66) rfl ?_
        refine at_lt (lt_pick true rfl (decide_eq_true (by omega)) rfl) rfl ?_
        refine s_mv rfl ?_
        by_cases h1335 : (decide (((x1331.Code.toNat : Int) : Int) = 101) && decide (x1331.Value = ([114, 101, 115, 116] : Str))) = true
        ·replace hr := ipos h1335 hr
         refine at_on rfl rfl h1335 (s_mv rfl ?_)
         replace hr := obind hr
         obtain ⟨x1336, h1337, hr⟩ := hr
         refine at_on rfl rfl h1335 (at_hv rfl (hv_call0 [38] (f17_spec h1337) rfl rfl rfl rfl ?_))
         rintro _ _ ⟨rfl, rfl⟩
         refine at_lt (lt_pick true rfl h1335 rfl) rfl (s_mv rfl ?_)
         by_cases h1338 : x1336 = true
         ·replace hr := ipos h1338 hr
          refine at_on rfl rfl h1338 (s_mv rfl ?_)
          replace hr := obind hr
          obtain ⟨x1339, h1340, hr⟩ := hr
          refine at_on rfl rfl h1338 (at_hv rfl (hv_call0 [15] (f17_spec h1340) rfl rfl rfl rfl ?_))
          rintro _ _ ⟨rfl, rfl⟩
          refine at_on rfl rfl h1338 (at_lt (lt_not rfl) rfl (at_lt (lt_pick true rfl h1338 rfl) rfl (s_as rfl (s_nt (at_ret ?_)))))
          have hq := oinj hr
          clear hr
          subst hq
          exact at_return (.bool (!x1339)) [] hS Tryz.results10 (.cons (.tmp rfl) .nil) rfl rfl ⟨rfl, rfl⟩
         replace hr := ineg h1338 hr
         refine at_off rfl rfl (bf h1338) rfl (at_off rfl rfl (bf h1338) rfl (at_off rfl rfl (bf h1338) rfl (at_lt (lt_pick false rfl (bf h1338) rfl) rfl (s_as rfl (s_nt (at_ret ?_))))))
         have hq := oinj hr
         clear hr
         subst hq
         exact at_return (.bool false) [] hS Tryz.results10 (.cons (.tmp rfl) .nil) rfl rfl ⟨rfl, rfl⟩
        replace hr := ineg h1335 hr
        refine at_off rfl rfl (bf h1335) rfl (at_off rfl rfl (bf h1335) rfl (at_lt (lt_pick false rfl (bf h1335) rfl) rfl (s_mv rfl (at_off rfl rfl rfl rfl (at_off rfl rfl rfl rfl (at_off rfl rfl rfl rfl (at_lt (lt_pick false rfl rfl rfl) rfl (s_as rfl (s_nt ?_)))))))))
        refine at_ret ?_
        have hq := oinj hr
        clear hr
        subst hq
        exact at_return (.bool false) [] hS Tryz.results10 (.cons (.tmp rfl) .nil) rfl rfl ⟨rfl, rfl⟩
       replace hr := ineg h1325 hr
       refine at_off rfl rfl (decide_eq_false (by omega)) rfl ?_
       refine at_off rfl rfl (decide_eq_false (by omega)) rfl ?_
       refine at_off rfl rfl (decide_eq_false (by omega)) rfl ?_
       refine at_off rfl rfl (decide_eq_false (by omega)) rfl ?_
       refine at_off rfl rfl (decide_eq_false (by omega)) rfl ?_
       refine at_off rfl rfl (decide_eq_false (by omega)) rfl ?_
       refine at_off rfl rfl (decide_eq_false (by omega)) rfl ?_
       refine at_off rfl rfl (decide_eq_false (by omega)) rfl ?_
       refine at_off rfl rfl (decide_eq_false (by omega)) rfl ?_
       refine at_lt (lt_pick false rfl (decide_eq_false (by omega)) rfl) rfl ?_
       refine s_mv rfl (at_off rfl rfl rfl rfl (at_off rfl rfl rfl rfl (at_lt (lt_pick false rfl rfl rfl) rfl (s_mv rfl (at_off rfl rfl rfl rfl (at_off rfl rfl rfl rfl (at_off rfl rfl rfl rfl (at_lt (lt_pick false rfl rfl rfl) rfl (s_as rfl ?_)))))))))
       refine s_nt (at_ret ?_)
       have hq := oinj hr
       clear hr
       subst hq
       exact at_return (.bool false) [] hS Tryz.results10 (.cons (.tmp rfl) .nil) rfl rfl ⟨rfl, rfl⟩
      replace hr := ineg h1317 hr
      refine at_off rfl rfl (decide_eq_false h1317) rfl (at_off rfl rfl (decide_eq_false h1317) rfl (at_off rfl rfl (decide_eq_false h1317) rfl (at_off rfl rfl (decide_eq_false h1317) rfl (at_off rfl rfl (decide_eq_false h1317) rfl (at_off rfl rfl (decide_eq_false h1317) rfl (at_off rfl rfl (decide_eq_false h1317) rfl (at_lt (lt_pick false rfl (decide_eq_false h1317) rfl) rfl (s_mv rfl (at_off rfl rfl rfl rfl ?_)))))))))
      refine at_off rfl rfl rfl rfl (at_off rfl rfl rfl rfl (at_off rfl rfl rfl rfl (at_off rfl rfl rfl rfl (at_off rfl rfl rfl rfl (at_off rfl rfl rfl rfl (at_off rfl rfl rfl rfl (at_off rfl rfl rfl rfl (at_lt (lt_pick false rfl rfl rfl) rfl (s_mv rfl ?_)))))))))
      refine at_off rfl rfl rfl rfl (at_off rfl rfl rfl rfl (at_lt (lt_pick false rfl rfl rfl) rfl (s_mv rfl (at_off rfl rfl rfl rfl (at_off rfl rfl rfl rfl (at_off rfl rfl rfl rfl (at_lt (lt_pick false rfl rfl rfl) rfl (s_as rfl (s_nt ?_)))))))))
      refine at_ret ?_
      have hq := oinj hr
      clear hr
      subst hq
      exact at_return (.bool false) [] hS Tryz.results10 (.cons (.tmp rfl) .nil) rfl rfl ⟨rfl, rfl⟩
     replace hr := ineg h1311 hr
     refine at_off rfl rfl (decide_eq_false (by omega)) rfl ?_
     refine at_off rfl rfl (decide_eq_false (by omega)) rfl ?_
     refine at_off rfl rfl (decide_eq_false (by omega)) rfl ?_
     refine at_off rfl rfl (decide_eq_false (by omega)) rfl ?_
     refine at_off rfl rfl (decide_eq_false (by omega)) rfl ?_
     refine at_off rfl rfl (decide_eq_false (by omega)) rfl ?_
     refine at_lt (lt_pick false rfl (decide_eq_false (by omega)) rfl) rfl ?_
     refine s_mv rfl (at_off rfl rfl rfl rfl (at_off rfl rfl rfl rfl (at_off rfl rfl rfl rfl (at_off rfl rfl rfl rfl (at_off rfl rfl rfl rfl (at_off rfl rfl rfl rfl (at_off rfl rfl rfl rfl (at_lt (lt_pick false rfl rfl rfl) rfl (s_mv rfl ?_)))))))))
     refine at_off rfl rfl rfl rfl (at_off rfl rfl rfl rfl (at_off rfl rfl rfl rfl (at_off rfl rfl rfl rfl (at_off rfl rfl rfl rfl (at_off rfl rfl rfl rfl (at_off rfl rfl rfl rfl (at_off rfl rfl rfl rfl (at_off rfl rfl rfl rfl (at_lt (lt_pick false rfl rfl rfl) rfl ?_)))))))))
     refine s_mv rfl (at_off rfl rfl rfl rfl (at_off rfl rfl rfl rfl (at_lt (lt_pick false rfl rfl rfl) rfl (s_mv rfl (at_off rfl rfl rfl rfl (at_off rfl rfl rfl rfl (at_off rfl rfl rfl rfl (at_lt (lt_pick false rfl rfl rfl) rfl (s_as rfl ?_)))))))))
     refine s_nt (at_ret ?_)
     have hq := oinj hr
     clear hr
     subst hq
     exact at_return (.bool false) [] hS Tryz.results10 (.cons (.tmp rfl) .nil) rfl rfl ⟨rfl, rfl⟩
    replace hr := ineg h1308 hr
    refine at_off rfl rfl (decide_eq_false (by first | exact h1308 | omega)) rfl ?_
    refine at_off rfl rfl (decide_eq_false (by first | exact h1308 | omega)) rfl ?_
    refine at_off rfl rfl (decide_eq_false (by first | exact h1308 | omega)) rfl ?_
    refine at_off rfl rfl (decide_eq_false (by first | exact h1308 | omega)) rfl ?_
    refine at_lt (lt_pick false rfl (decide_eq_false (by first | exact h1308 | omega)) rfl) rfl ?_
    refine s_mv rfl (at_off rfl rfl rfl rfl (at_off rfl rfl rfl rfl (at_off rfl rfl rfl rfl (at_off rfl rfl rfl rfl (at_off rfl rfl rfl rfl (at_off rfl rfl rfl rfl (at_lt (lt_pick false rfl rfl rfl) rfl (s_mv rfl (at_off rfl rfl rfl rfl ?_)))))))))
    refine at_off rfl rfl rfl rfl (at_off rfl rfl rfl rfl (at_off rfl rfl rfl rfl (at_off rfl rfl rfl rfl (at_off rfl rfl rfl rfl (at_off rfl rfl rfl rfl (at_lt (lt_pick false rfl rfl rfl) rfl (s_mv rfl (at_off rfl rfl rfl rfl (at_off rfl rfl rfl rfl ?_)))))))))
    refine at_off rfl rfl rfl rfl (at_off rfl rfl rfl rfl (at_off rfl rfl rfl rfl (at_off rfl rfl rfl rfl (at_off rfl rfl rfl rfl (at_off rfl rfl rfl rfl (at_off rfl rfl rfl rfl (at_lt (lt_pick false rfl rfl rfl) rfl (s_mv rfl (at_off rfl rfl rfl rfl ?_)))))))))
    refine at_off rfl rfl rfl rfl (at_lt (lt_pick false rfl rfl rfl) rfl (s_mv rfl (at_off rfl rfl rfl rfl (at_off rfl rfl rfl rfl (at_off rfl rfl rfl rfl (at_lt (lt_pick false rfl rfl rfl) rfl (s_as rfl (s_nt (at_ret ?_)))))))))
    have hq := oinj hr
    clear hr
    subst hq
    exact at_return (.bool false) [] hS Tryz.results10 (.cons (.tmp rfl) .nil) rfl rfl ⟨rfl, rfl⟩
   replace hr := ineg h1307 hr
   refine at_off rfl rfl (decide_eq_false (by first | exact h1307 | omega)) rfl ?_
   refine at_off rfl rfl (decide_eq_false (by first | exact h1307 | omega)) rfl ?_
   refine at_lt (lt_pick false rfl (decide_eq_false (by first | exact h1307 | omega)) rfl) rfl ?_
   refine s_mv rfl (at_off rfl rfl rfl rfl (at_off rfl rfl rfl rfl (at_off rfl rfl rfl rfl (at_off rfl rfl rfl rfl (at_lt (lt_pick false rfl rfl rfl) rfl (s_mv rfl (at_off rfl rfl rfl rfl (at_off rfl rfl rfl rfl (at_off rfl rfl rfl rfl ?_)))))))))
   refine at_off rfl rfl rfl rfl (at_off rfl rfl rfl rfl (at_off rfl rfl rfl rfl (at_lt (lt_pick false rfl rfl rfl) rfl (s_mv rfl (at_off rfl rfl rfl rfl (at_off rfl rfl rfl rfl (at_off rfl rfl rfl rfl (at_off rfl rfl rfl rfl (at_off rfl rfl rfl rfl ?_)))))))))
   refine at_off rfl rfl rfl rfl (at_off rfl rfl rfl rfl (at_lt (lt_pick false rfl rfl rfl) rfl (s_mv rfl (at_off rfl rfl rfl rfl (at_off rfl rfl rfl rfl (at_off rfl rfl rfl rfl (at_off rfl rfl rfl rfl (at_off rfl rfl rfl rfl (at_off rfl rfl rfl rfl ?_)))))))))
   refine at_off rfl rfl rfl rfl (at_off rfl rfl rfl rfl (at_off rfl rfl rfl rfl (at_lt (lt_pick false rfl rfl rfl) rfl (s_mv rfl (at_off rfl rfl rfl rfl (at_off rfl rfl rfl rfl (at_lt (lt_pick false rfl rfl rfl) rfl (s_mv rfl (at_off rfl rfl rfl rfl ?_)))))))))
   refine at_off rfl rfl rfl rfl (at_off rfl rfl rfl rfl (at_lt (lt_pick false rfl rfl rfl) rfl (s_as rfl (s_nt (at_ret ?_)))))
   have hq := oinj hr
   clear hr
   subst hq
   exact at_return (.bool false) [] hS Tryz.results10 (.cons (.tmp rfl) .nil) rfl rfl ⟨rfl, rfl⟩
  replace hr := ineg h1306 hr
  refine at_off rfl rfl (decide_eq_false (by first | exact h1306 | omega)) rfl ?_
  refine at_off rfl rfl (decide_eq_false (by first | exact h1306 | omega)) rfl ?_
  refine at_lt (lt_pick false rfl (decide_eq_false (by first | exact h1306 | omega)) rfl) rfl ?_
  refine s_mv rfl (at_off rfl rfl rfl rfl (at_off rfl rfl rfl rfl (at_lt (lt_pick false rfl rfl rfl) rfl (s_mv rfl (at_off rfl rfl rfl rfl (at_off rfl rfl rfl rfl (at_off rfl rfl rfl rfl (at_off rfl rfl rfl rfl (at_lt (lt_pick false rfl rfl rfl) rfl ?_)))))))))
  refine s_mv rfl (at_off rfl rfl rfl rfl (at_off rfl rfl rfl rfl (at_off rfl rfl rfl rfl (at_off rfl rfl rfl rfl (at_off rfl rfl rfl rfl (at_off rfl rfl rfl rfl (at_lt (lt_pick false rfl rfl rfl) rfl (s_mv rfl (at_off rfl rfl rfl rfl ?_)))))))))
  refine at_off rfl rfl rfl rfl (at_off rfl rfl rfl rfl (at_off rfl rfl rfl rfl (at_off rfl rfl rfl rfl (at_off rfl rfl rfl rfl (at_off rfl rfl rfl rfl (at_lt (lt_pick false rfl rfl rfl) rfl (s_mv rfl (at_off rfl rfl rfl rfl (at_off rfl rfl rfl rfl ?_)))))))))
  refine at_off rfl rfl rfl rfl (at_off rfl rfl rfl rfl (at_off rfl rfl rfl rfl (at_off rfl rfl rfl rfl (at_off rfl rfl rfl rfl (at_off rfl rfl rfl rfl (at_off rfl rfl rfl rfl (at_lt (lt_pick false rfl rfl rfl) rfl (s_mv rfl (at_off rfl rfl rfl rfl ?_)))))))))
  refine at_off rfl rfl rfl rfl (at_lt (lt_pick false rfl rfl rfl) rfl (s_mv rfl (at_off rfl rfl rfl rfl (at_off rfl rfl rfl rfl (at_off rfl rfl rfl rfl (at_lt (lt_pick false rfl rfl rfl) rfl (s_as rfl (s_nt (at_ret ?_)))))))))
  have hq := oinj hr
  clear hr
  subst hq
  exact at_return (.bool false) [] hS Tryz.results10 (.cons (.tmp rfl) .nil) rfl rfl ⟨rfl, rfl⟩
 replace hr := ineg h1305 hr
 refine at_off rfl rfl (decide_eq_false (by first | exact h1305 | omega)) rfl ?_
 refine at_off rfl rfl (decide_eq_false (by first | exact h1305 | omega)) rfl ?_
 refine at_lt (lt_pick false rfl (decide_eq_false (by first | exact h1305 | omega)) rfl) rfl ?_
 refine s_mv rfl (at_off rfl rfl rfl rfl (at_off rfl rfl rfl rfl (at_lt (lt_pick false rfl rfl rfl) rfl (s_mv rfl (at_off rfl rfl rfl rfl (at_off rfl rfl rfl rfl (at_lt (lt_pick false rfl rfl rfl) rfl (s_mv rfl (at_off rfl rfl rfl rfl ?_)))))))))
 refine at_off rfl rfl rfl rfl (at_off rfl rfl rfl rfl (at_off rfl rfl rfl rfl (at_lt (lt_pick false rfl rfl rfl) rfl (s_mv rfl (at_off rfl rfl rfl rfl (at_off rfl rfl rfl rfl (at_off rfl rfl rfl rfl (at_off rfl rfl rfl rfl (at_off rfl rfl rfl rfl ?_)))))))))
 refine at_off rfl rfl rfl rfl (at_lt (lt_pick false rfl rfl rfl) rfl (s_mv rfl (at_off rfl rfl rfl rfl (at_off rfl rfl rfl rfl (at_off rfl rfl rfl rfl (at_off rfl rfl rfl rfl (at_off rfl rfl rfl rfl (at_off rfl rfl rfl rfl (at_off rfl rfl rfl rfl ?_)))))))))
 refine at_lt (lt_pick false rfl rfl rfl) rfl (s_mv rfl (at_off rfl rfl rfl rfl (at_off rfl rfl rfl rfl (at_off rfl rfl rfl rfl (at_off rfl rfl rfl rfl (at_off rfl rfl rfl rfl (at_off rfl rfl rfl rfl (at_off rfl rfl rfl rfl (at_off rfl rfl rfl rfl ?_)))))))))
 refine at_off rfl rfl rfl rfl (at_lt (lt_pick false rfl rfl rfl) rfl (s_mv rfl (at_off rfl rfl rfl rfl (at_off rfl rfl rfl rfl (at_lt (lt_pick false rfl rfl rfl) rfl (s_mv rfl (at_off rfl rfl rfl rfl (at_off rfl rfl rfl rfl (at_off rfl rfl rfl rfl ?_)))))))))
 refine at_lt (lt_pick false rfl rfl rfl) rfl (s_as rfl (s_nt (at_ret ?_)))
 have hq := oinj hr
 clear hr
 subst hq
 exact at_return (.bool false) [] hS Tryz.results10 (.cons (.tmp rfl) .nil) rfl rfl ⟨rfl, rfl⟩
def m11_l1 (a0 : (List D_ref16_Entry)) : Nat → Nat → Option (Fl Bool Unit)
  | 0, _ => none
  | k + 1, x1342 =>
    if x1342 < a0.length then
     if x1342 < 10 then
      (a0[x1342]?).bind fun x1350 =>
      if 10 < x1350.From.length then
       some (Fl.ret false)
      else
       (a0[x1342]?).bind fun x1357 =>
       if 10 < x1357.To.length then
        some (Fl.ret false)
       else
        (a0[x1342]?).bind fun x1364 =>
        if 10 < x1364.Codes.length then
         (a0[x1342]?).bind fun x1372 =>
         if x1372.Codes.length = 36 then
          m11_l1 a0 k (x1342 + 1)
         else
          (a0[x1342]?).bind fun x1380 =>
          if x1380.Codes.length = 37 then
           m11_l1 a0 k (x1342 + 1)
          else
           some (Fl.ret false)
        else
         m11_l1 a0 k (x1342 + 1)
     else
      some (Fl.go ())
    else
     some (Fl.go ())
def m11 (a0 : (List D_ref16_Entry)) : Option Bool :=
  (m11_l1 a0 (a0.length + 1) 0).bind fun r => match r with
  | .ret x => some x
  | .go _ =>
   if a0.length ≤ 8 then
    some true
   else
    if a0.length = 60 then
     some true
    else
     some (decide ((a0.length : Int) = 61))
def post11 (r : Bool) (v : Value) (fs : List Fact) : Prop := v = .bool r ∧ fs = []
theorem en11 : Enters Tryz.prog 11 := ⟨_, Tryz.func11, by kernel_rfl, rfl⟩
theorem f11_spec {a0 : (List D_ref16_Entry)} {w1341 : Value} {r : Bool} (hr : m11 a0 = some r) : Spec Tryz.prog 11 [w1341] [((Ty.slice ty50).fact a0 [w1341])] (post11 r) := by
 refine spec_start (N := 70) Tryz.func11 (by kernel_rfl) rfl rfl rfl ?_
 intro g hS
 unfold m11 at hr
 refine s_sr (s_as rfl (s_nt (at_seq (s_sr (s_as rfl (s_nt (at_int .i64 0 (by simp only [lo, hi]; omega) ?_)))))))
 replace hr := obind hr
 obtain ⟨r1343, hl1344, hk1345⟩ := hr
 refine at_cutP (V := (Unit) × (Unit)) (fun v => r1343 = Fl.go v.1) (fun v => (⟨[(0, w1341)], [], [], [((Ty.slice ty50).fact a0 [w1341])]⟩ : St)) ?_ ?_
 ·refine at_block ?_
  refine at_loopW (σ := Nat) (V := Unit) (r := r1343) (fun n s => m11_l1 a0 n s) (fun s e => (⟨[(0, w1341), (3, .int .i64 (s : Int))], [], [], [((Ty.int .i64).fact (s : Int) [.int .i64 (s : Int)]), ((Ty.slice ty50).fact a0 [w1341])]⟩ : St)) (fun _ => rfl) _ 0 () hl1344 ⟨⟨rfl, ⟨rfl, trivial⟩⟩, ⟨[], rfl⟩, ⟨[], rfl⟩, ⟨[0, 1], rfl⟩⟩ ?_
  clear hl1344
  intro n x1342 hr e
  skip
  skip
  change m11_l1 a0 (n + 1) x1342 = some r1343 at hr
  change At _ _ (⟨[(0, w1341), (3, .int .i64 (x1342 : Int))], [], [], [((Ty.int .i64).fact (x1342 : Int) [.int .i64 (x1342 : Int)]), ((Ty.slice ty50).fact a0 [w1341])]⟩ : St) _
  rw [m11_l1] at hr
  refine at_seq (s_sr (s_mv rfl (s_mv rfl ?_)))
  refine at_inv 1 rfl (fun i1346 => ?_)
  have l1347 := slice_len i1346
  refine at_lt (lt_flen 1 rfl rfl und22) rfl (at_lt (lt_lss rfl rfl) rfl (s_mv rfl ?_))
  by_cases h1348 : x1342 < a0.length
  ·replace hr := ipos h1348 hr
   refine at_on rfl rfl (decide_eq_true (by omega)) ?_
   refine s_mv rfl ?_
   refine at_on rfl rfl (decide_eq_true (by omega)) ?_
   refine at_lt (lt_lss rfl rfl) rfl ?_
   refine at_lt (lt_pick true rfl (decide_eq_true (by omega)) rfl) rfl ?_
   refine s_nt ?_
   by_cases h1349 : x1342 < 10
   ·replace hr := ipos h1349 hr
    refine at_true rfl (decide_eq_true (by omega)) ?_
    refine at_skip (at_then (at_seq (at_block (s_sr (s_mv rfl (s_mv rfl ?_))))))
    replace hr := obind hr
    obtain ⟨x1350, h1351, hr⟩ := hr
    have := (List.getElem?_eq_some_iff.1 h1351).1
    refine at_elem 1 rfl (nat_at' h1351) (fun p1353 ec pa1354 => ?_)
    refine at_open (A := Value) 0 rfl _ _ (fun F w h => op50 h) ?_
    rintro s1352 rfl
    refine at_lt (lt_idx rfl rfl pa1354 und22 ti50) rfl (at_lt (lt_fieldAddr 0 rfl fld50_0 rfl) rfl (at_lt (lt_load_peek 4 rfl ti9 rfl rfl rfl rfl rfl) rfl ?_))
    refine at_inv 0 rfl (fun l1355 => ?_)
    replace l1355 : x1350.From.length ≤ 9223372036854775807 := l1355
    refine at_lt (lt_slen rfl und9) rfl (at_lt (lt_gtr rfl rfl) rfl (s_mv rfl ?_))
    by_cases h1356 : 10 < x1350.From.length
    ·replace hr := ipos h1356 hr
     refine at_off rfl rfl (decide_eq_true (by omega)) rfl ?_
     refine at_off rfl rfl (decide_eq_true (by omega)) rfl ?_
     refine at_off rfl rfl (decide_eq_true (by omega)) rfl ?_
     refine at_off rfl rfl (decide_eq_true (by omega)) rfl ?_
     refine at_off rfl rfl (decide_eq_true (by omega)) rfl ?_
     refine at_off rfl rfl (decide_eq_true (by omega)) rfl ?_
     refine at_off rfl rfl (decide_eq_true (by omega)) rfl ?_
     refine at_lt (lt_pick true rfl (decide_eq_true (by omega)) rfl) rfl ?_
     refine s_mv rfl (at_off rfl rfl rfl rfl (at_off rfl rfl rfl rfl (at_off rfl rfl rfl rfl (at_off rfl rfl rfl rfl (at_off rfl rfl rfl rfl (at_off rfl rfl rfl rfl (at_off rfl rfl rfl rfl (at_off rfl rfl rfl rfl (at_offu rfl rfl rfl ?_)))))))))
     refine at_offu rfl rfl rfl (at_offu rfl rfl rfl (at_offu rfl rfl rfl (at_offu rfl rfl rfl (at_offu rfl rfl rfl (at_offu rfl rfl rfl (at_off rfl rfl rfl rfl (at_off rfl rfl rfl rfl (at_offu rfl rfl rfl (at_offu rfl rfl rfl ?_)))))))))
     refine at_offu rfl rfl rfl (at_offu rfl rfl rfl (at_offu rfl rfl rfl (at_offu rfl rfl rfl (at_offu rfl rfl rfl (at_off rfl rfl rfl rfl (at_lt (lt_pick true rfl rfl rfl) rfl (s_nt (at_true rfl rfl (s_sr ?_)))))))))
     refine s_as rfl (s_nt (at_ret ?_))
     have hq := oinj hr
     clear hr
     subst hq
     have hq := oinj hk1345
     clear hk1345
     subst hq
     refine at_in_ret (at_then_ret (at_then_ret (at_in_ret (at_then_ret (at_then_ret ?_)))))
     exact at_return (.bool false) [] hS Tryz.results11 (.cons (.tmp rfl) .nil) rfl rfl ⟨rfl, rfl⟩
    replace hr := ineg h1356 hr
    refine at_on rfl rfl (decide_eq_false (by omega)) ?_
    refine s_mv rfl ?_
    refine at_on rfl rfl (decide_eq_false (by omega)) ?_
    refine s_mv rfl ?_
    replace hr := obind hr
    obtain ⟨x1357, h1358, hr⟩ := hr
    have := (List.getElem?_eq_some_iff.1 h1358).1
    refine at_elem 6 rfl (nat_at' h1358) (fun p1360 ec pa1361 => ?_)
    refine at_open (A := Value) 0 rfl _ _ (fun F w h => op50 h) ?_
    rintro s1359 rfl
    refine at_on rfl rfl (decide_eq_false (by omega)) ?_
    refine at_lt (lt_idx rfl rfl pa1361 und22 ti50) rfl ?_
    refine at_on rfl rfl (decide_eq_false (by omega)) ?_
    refine at_lt (lt_fieldAddr 1 rfl fld50_1 rfl) rfl ?_
    refine at_on rfl rfl (decide_eq_false (by omega)) ?_
    refine at_lt (lt_load_peek 4 rfl ti9 rfl rfl rfl rfl rfl) rfl ?_
    refine at_inv 1 rfl (fun l1362 => ?_)
    replace l1362 : x1357.To.length ≤ 9223372036854775807 := l1362
    refine at_on rfl rfl (decide_eq_false (by omega)) ?_
    refine at_lt (lt_slen rfl und9) rfl ?_
    refine at_on rfl rfl (decide_eq_false (by omega)) ?_
    refine at_lt (lt_gtr rfl rfl) rfl ?_
    refine at_lt (lt_pick false rfl (decide_eq_false (by omega)) rfl) rfl ?_
    refine s_mv rfl ?_
    by_cases h1363 : 10 < x1357.To.length
    ·replace hr := ipos h1363 hr
     refine at_off rfl rfl (decide_eq_true (by omega)) rfl ?_
     refine at_off rfl rfl (decide_eq_true (by omega)) rfl ?_
     refine at_off rfl rfl (decide_eq_true (by omega)) rfl ?_
     refine at_off rfl rfl (decide_eq_true (by omega)) rfl ?_
     refine at_off rfl rfl (decide_eq_true (by omega)) rfl ?_
     refine at_off rfl rfl (decide_eq_true (by omega)) rfl ?_
     refine at_off rfl rfl (decide_eq_true (by omega)) rfl ?_
     refine at_off rfl rfl (decide_eq_true (by omega)) rfl ?_
     refine at_offu rfl rfl rfl (at_offu rfl rfl rfl (at_offu rfl rfl rfl (at_offu rfl rfl rfl (at_offu rfl rfl rfl (at_offu rfl rfl rfl (at_offu rfl rfl rfl ?_))))))
     refine at_off rfl rfl (decide_eq_true (by omega)) rfl ?_
     refine at_off rfl rfl (decide_eq_true (by omega)) rfl ?_
     refine at_offu rfl rfl rfl (at_offu rfl rfl rfl (at_offu rfl rfl rfl (at_offu rfl rfl rfl (at_offu rfl rfl rfl (at_offu rfl rfl rfl (at_offu rfl rfl rfl ?_))))))
     refine at_off rfl rfl (decide_eq_true (by omega)) rfl ?_
     refine at_lt (lt_pick true rfl (decide_eq_true (by omega)) rfl) rfl ?_
     refine s_nt (at_true rfl rfl (s_sr (s_as rfl (s_nt (at_ret ?_)))))
     have hq := oinj hr
     clear hr
     subst hq
     have hq := oinj hk1345
     clear hk1345
     subst hq
     refine at_in_ret (at_then_ret (at_then_ret (at_in_ret (at_then_ret (at_then_ret ?_)))))
     exact at_return (.bool false) [] hS Tryz.results11 (.cons (.tmp rfl) .nil) rfl rfl ⟨rfl, rfl⟩
    replace hr := ineg h1363 hr
    refine at_on rfl rfl (decide_eq_false (by omega)) ?_
    refine s_mv rfl ?_
    refine at_on rfl rfl (decide_eq_false (by omega)) ?_
    refine s_mv rfl ?_
    replace hr := obind hr
    obtain ⟨x1364, h1365, hr⟩ := hr
    have := (List.getElem?_eq_some_iff.1 h1365).1
    refine at_elem 11 rfl (nat_at' h1365) (fun p1367 ec pa1368 => ?_)
    refine at_open (A := Value) 0 rfl _ _ (fun F w h => op50 h) ?_
    rintro s1366 rfl
    refine at_on rfl rfl (decide_eq_false (by omega)) ?_
    refine at_lt (lt_idx rfl rfl pa1368 und22 ti50) rfl ?_
    refine at_on rfl rfl (decide_eq_false (by omega)) ?_
    refine at_lt (lt_fieldAddr 2 rfl fld50_2 rfl) rfl ?_
    refine at_on rfl rfl (decide_eq_false (by omega)) ?_
    refine at_lt (lt_load_peek 4 rfl ti48 rfl rfl rfl rfl rfl) rfl ?_
    refine at_inv 2 rfl (fun i1369 => ?_)
    have l1370 := slice_len i1369
    refine at_on rfl rfl (decide_eq_false (by omega)) ?_
    refine at_lt (lt_flen 2 rfl rfl und48) rfl ?_
    refine at_on rfl rfl (decide_eq_false (by omega)) ?_
    refine at_lt (lt_gtr rfl rfl) rfl ?_
    refine at_on rfl rfl (decide_eq_false (by omega)) ?_
    refine s_mv rfl ?_
    by_cases h1371 : 10 < x1364.Codes.length
    ·replace hr := ipos h1371 hr
     refine at_on rfl rfl (decide_eq_true (by omega)) ?_
     refine s_mv rfl ?_
     refine at_on rfl rfl (decide_eq_true (by omega)) ?_
     refine s_mv rfl ?_
     replace hr := obind hr
     obtain ⟨x1372, h1373, hr⟩ := hr
     have := (List.getElem?_eq_some_iff.1 h1373).1
     refine at_elem 16 rfl (nat_at' h1373) (fun p1375 ec pa1376 => ?_)
     refine at_open (A := Value) 0 rfl _ _ (fun F w h => op50 h) ?_
     rintro s1374 rfl
     refine at_on rfl rfl (decide_eq_true (by omega)) ?_
     refine at_lt (lt_idx rfl rfl pa1376 und22 ti50) rfl ?_
     refine at_on rfl rfl (decide_eq_true (by omega)) ?_
     refine at_lt (lt_fieldAddr 2 rfl fld50_2 rfl) rfl ?_
     refine at_on rfl rfl (decide_eq_true (by omega)) ?_
     refine at_lt (lt_load_peek 4 rfl ti48 rfl rfl rfl rfl rfl) rfl ?_
     refine at_inv 2 rfl (fun i1377 => ?_)
     have l1378 := slice_len i1377
     refine at_on rfl rfl (decide_eq_true (by omega)) ?_
     refine at_lt (lt_flen 2 rfl rfl und48) rfl ?_
     refine at_on rfl rfl (decide_eq_true (by omega)) ?_
     refine at_lt (lt_neq rfl rfl) rfl ?_
     refine at_on rfl rfl (decide_eq_false (by omega)) ?_
     refine at_lt (lt_pick true rfl (decide_eq_true (by omega)) rfl) rfl ?_
     refine at_on rfl rfl (decide_eq_false (by omega)) ?_
     refine s_mv rfl ?_
     by_cases h1379 : x1372.Codes.length = 36
     ·replace hr := ipos h1379 hr
      refine at_off rfl rfl (nt (decide_eq_true (by omega))) rfl ?_
      refine at_off rfl rfl (nt (decide_eq_true (by omega))) rfl ?_
      refine at_off rfl rfl (nt (decide_eq_true (by omega))) rfl ?_
      refine at_off rfl rfl (nt (decide_eq_true (by omega))) rfl ?_
      refine at_off rfl rfl (nt (decide_eq_true (by omega))) rfl ?_
      refine at_off rfl rfl (nt (decide_eq_true (by omega))) rfl ?_
      refine at_off rfl rfl (nt (decide_eq_true (by omega))) rfl ?_
      refine at_on rfl rfl (decide_eq_false (by omega)) ?_
      refine at_lt (lt_pick false rfl (nt (decide_eq_true (by omega))) rfl) rfl ?_
      refine at_lt (lt_pick false rfl (decide_eq_false (by omega)) rfl) rfl ?_
      refine s_nt (at_false rfl rfl (at_skip (at_in (s_tr (s_mv rfl (at_lt (lt_add rfl rfl (by simp only [lo, hi]; omega)) rfl (s_as rfl (at_nil (at_int .i64 (x1342 + 1 : Int) (by simp only [lo, hi]; omega) ?_)))))))))
      exact at_again (σ := Nat) (V := Unit) (lp := fun n s => m11_l1 a0 n s) (S := fun s e => (⟨[(0, w1341), (3, .int .i64 (s : Int))], [], [], [((Ty.int .i64).fact (s : Int) [.int .i64 (s : Int)]), ((Ty.slice ty50).fact a0 [w1341])]⟩ : St)) (x1342 + 1) () hr ⟨⟨rfl, ⟨rfl, trivial⟩⟩, ⟨[], rfl⟩, ⟨[], rfl⟩, ⟨[0, 22], rfl⟩⟩
     replace hr := ineg h1379 hr
     refine at_on rfl rfl (nf (decide_eq_false (by omega))) ?_
     refine s_mv rfl ?_
     refine at_on rfl rfl (nf (decide_eq_false (by omega))) ?_
     refine s_mv rfl ?_
     replace hr := obind hr
     obtain ⟨x1380, h1381, hr⟩ := hr
     have := (List.getElem?_eq_some_iff.1 h1381).1
     refine at_elem 21 rfl (nat_at' h1381) (fun p1383 ec pa1384 => ?_)
     refine at_open (A := Value) 0 rfl _ _ (fun F w h => op50 h) ?_
     rintro s1382 rfl
     refine at_on rfl rfl (nf (decide_eq_false (by omega))) ?_
     refine at_lt (lt_idx rfl rfl pa1384 und22 ti50) rfl ?_
     refine at_on rfl rfl (nf (decide_eq_false (by omega))) ?_
     refine at_lt (lt_fieldAddr 2 rfl fld50_2 rfl) rfl ?_
     refine at_on rfl rfl (nf (decide_eq_false (by omega))) ?_
     refine at_lt (lt_load_peek 4 rfl ti48 rfl rfl rfl rfl rfl) rfl ?_
     refine at_inv 2 rfl (fun i1385 => ?_)
     have l1386 := slice_len i1385
     refine at_on rfl rfl (nf (decide_eq_false (by omega))) ?_
     refine at_lt (lt_flen 2 rfl rfl und48) rfl ?_
     refine at_on rfl rfl (nf (decide_eq_false (by omega))) ?_
     refine at_lt (lt_neq rfl rfl) rfl ?_
     refine at_on rfl rfl (decide_eq_false (by omega)) ?_
     refine at_lt (lt_pick true rfl (nf (decide_eq_false (by omega))) rfl) rfl ?_
     refine at_lt (lt_pick false rfl (decide_eq_false (by omega)) rfl) rfl ?_
     refine s_nt ?_
     by_cases h1387 : x1380.Codes.length = 37
     ·replace hr := ipos h1387 hr
      refine at_false rfl (nt (decide_eq_true (by omega))) ?_
      refine at_skip (at_in (s_tr (s_mv rfl (at_lt (lt_add rfl rfl (by simp only [lo, hi]; omega)) rfl (s_as rfl (at_nil (at_int .i64 (x1342 + 1 : Int) (by simp only [lo, hi]; omega) ?_)))))))
      exact at_again (σ := Nat) (V := Unit) (lp := fun n s => m11_l1 a0 n s) (S := fun s e => (⟨[(0, w1341), (3, .int .i64 (s : Int))], [], [], [((Ty.int .i64).fact (s : Int) [.int .i64 (s : Int)]), ((Ty.slice ty50).fact a0 [w1341])]⟩ : St)) (x1342 + 1) () hr ⟨⟨rfl, ⟨rfl, trivial⟩⟩, ⟨[], rfl⟩, ⟨[], rfl⟩, ⟨[0, 27], rfl⟩⟩
     replace hr := ineg h1387 hr
     refine at_true rfl (nf (decide_eq_false (by omega))) ?_
     refine s_sr (s_as rfl (s_nt (at_ret ?_)))
     have hq := oinj hr
     clear hr
     subst hq
     have hq := oinj hk1345
     clear hk1345
     subst hq
     refine at_in_ret (at_then_ret (at_then_ret (at_in_ret (at_then_ret (at_then_ret ?_)))))
     exact at_return (.bool false) [] hS Tryz.results11 (.cons (.tmp rfl) .nil) rfl rfl ⟨rfl, rfl⟩
    replace hr := ineg h1371 hr
    refine at_off rfl rfl (decide_eq_false (by omega)) rfl ?_
    refine at_off rfl rfl (decide_eq_false (by omega)) rfl ?_
    refine at_off rfl rfl (decide_eq_false (by omega)) rfl ?_
    refine at_off rfl rfl (decide_eq_false (by omega)) rfl ?_
    refine at_off rfl rfl (decide_eq_false (by omega)) rfl ?_
    refine at_off rfl rfl (decide_eq_false (by omega)) rfl ?_
    refine at_off rfl rfl (decide_eq_false (by omega)) rfl ?_
    refine at_on rfl rfl (decide_eq_false (by omega)) ?_
    refine at_lt (lt_pick false rfl (decide_eq_false (by omega)) rfl) rfl ?_
    refine at_on rfl rfl (decide_eq_false (by omega)) ?_
    refine s_mv rfl (at_off rfl rfl rfl rfl (at_off rfl rfl rfl rfl (at_off rfl rfl rfl rfl (at_off rfl rfl rfl rfl (at_off rfl rfl rfl rfl (at_off rfl rfl rfl rfl (at_off rfl rfl rfl rfl ?_)))))))
    refine at_on rfl rfl (decide_eq_false (by omega)) ?_
    refine at_lt (lt_pick false rfl rfl rfl) rfl ?_
    refine at_lt (lt_pick false rfl (decide_eq_false (by omega)) rfl) rfl ?_
    refine s_nt (at_false rfl rfl (at_skip (at_in (s_tr (s_mv rfl (at_lt (lt_add rfl rfl (by simp only [lo, hi]; omega)) rfl (s_as rfl (at_nil (at_int .i64 (x1342 + 1 : Int) (by simp only [lo, hi]; omega) ?_)))))))))
    exact at_again (σ := Nat) (V := Unit) (lp := fun n s => m11_l1 a0 n s) (S := fun s e => (⟨[(0, w1341), (3, .int .i64 (s : Int))], [], [], [((Ty.int .i64).fact (s : Int) [.int .i64 (s : Int)]), ((Ty.slice ty50).fact a0 [w1341])]⟩ : St)) (x1342 + 1) () hr ⟨⟨rfl, ⟨rfl, trivial⟩⟩, ⟨[], rfl⟩, ⟨[], rfl⟩, ⟨[0, 17], rfl⟩⟩
   replace hr := ineg h1349 hr
   refine at_false rfl (decide_eq_false (by omega)) ?_
   refine at_exit (at_then_exit (at_then_exit (at_in_exit ?_)))
   have hq := oinj hr
   clear hr
   subst hq
   exact at_leafP ((), ()) rfl ⟨⟨rfl, trivial⟩, ⟨[], rfl⟩, ⟨[], rfl⟩, ⟨[1], rfl⟩⟩
  replace hr := ineg h1348 hr
  refine at_off rfl rfl (decide_eq_false (by omega)) rfl ?_
  refine at_off rfl rfl (decide_eq_false (by omega)) rfl ?_
  refine at_lt (lt_pick false rfl (decide_eq_false (by omega)) rfl) rfl ?_
  refine s_nt (at_false rfl rfl (at_exit (at_then_exit (at_then_exit (at_in_exit ?_)))))
  have hq := oinj hr
  clear hr
  subst hq
  exact at_leafP ((), ()) rfl ⟨⟨rfl, trivial⟩, ⟨[], rfl⟩, ⟨[], rfl⟩, ⟨[1], rfl⟩⟩
 rintro ⟨_, _⟩ hp
 replace hr := hk1345
 subst hp
 clear hl1344
 change At _ _ (⟨[(0, w1341)], [], [], [((Ty.slice ty50).fact a0 [w1341])]⟩ : St) _
 refine s_tsr (s_mv rfl ?_)
 refine at_inv 0 rfl (fun i1388 => ?_)
 have l1389 := slice_len i1388
 refine at_lt (lt_flen 0 rfl rfl und22) rfl (at_lt (lt_leq rfl rfl) rfl (s_mv rfl ?_))
 by_cases h1390 : a0.length ≤ 8
 ·replace hr := ipos h1390 hr
  refine at_off rfl rfl (decide_eq_true (by omega)) rfl ?_
  refine at_off rfl rfl (decide_eq_true (by omega)) rfl ?_
  refine at_off rfl rfl (decide_eq_true (by omega)) rfl ?_
  refine at_lt (lt_pick true rfl (decide_eq_true (by omega)) rfl) rfl ?_
  refine s_mv rfl (at_off rfl rfl rfl rfl (at_off rfl rfl rfl rfl (at_off rfl rfl rfl rfl (at_lt (lt_pick true rfl rfl rfl) rfl (s_as rfl (s_nt (at_ret ?_)))))))
  have hq := oinj hr
  clear hr
  subst hq
  exact at_return (.bool true) [] hS Tryz.results11 (.cons (.tmp rfl) .nil) rfl rfl ⟨rfl, rfl⟩
 replace hr := ineg h1390 hr
 refine at_on rfl rfl (decide_eq_false (by omega)) ?_
 refine s_mv rfl ?_
 refine at_on rfl rfl (decide_eq_false (by omega)) ?_
 refine at_lt (lt_flen 0 rfl rfl und22) rfl ?_
 refine at_on rfl rfl (decide_eq_false (by omega)) ?_
 refine at_lt (lt_eql rfl rfl) rfl ?_
 refine at_lt (lt_pick false rfl (decide_eq_false (by omega)) rfl) rfl ?_
 refine s_mv rfl ?_
 by_cases h1391 : a0.length = 60
 ·replace hr := ipos h1391 hr
  refine at_off rfl rfl (decide_eq_true (by omega)) rfl ?_
  refine at_off rfl rfl (decide_eq_true (by omega)) rfl ?_
  refine at_off rfl rfl (decide_eq_true (by omega)) rfl ?_
  refine at_lt (lt_pick true rfl (decide_eq_true (by omega)) rfl) rfl ?_
  refine s_as rfl (s_nt (at_ret ?_))
  have hq := oinj hr
  clear hr
  subst hq
  exact at_return (.bool true) [] hS Tryz.results11 (.cons (.tmp rfl) .nil) rfl rfl ⟨rfl, rfl⟩
 replace hr := ineg h1391 hr
 refine at_on rfl rfl (decide_eq_false (by omega)) ?_
 refine s_mv rfl ?_
 refine at_on rfl rfl (decide_eq_false (by omega)) ?_
 refine at_lt (lt_flen 0 rfl rfl und22) rfl ?_
 refine at_on rfl rfl (decide_eq_false (by omega)) ?_
 refine at_lt (lt_eql rfl rfl) rfl ?_
 refine at_lt (lt_pick false rfl (decide_eq_false (by omega)) rfl) rfl ?_
 refine s_as rfl (s_nt (at_ret ?_))
 have hq := oinj hr
 clear hr
 subst hq
 exact at_return (.bool (decide ((a0.length : Int) = 61))) [] hS Tryz.results11 (.cons (.tmp rfl) .nil) rfl rfl ⟨rfl, rfl⟩
def m15_l2 (a0 : (List D_ref16_Entry)) (x1394 : Nat) : Nat → Nat → (List D_crosswalk_Pair) → Option (List D_crosswalk_Pair)
  | 0, _, _ => none
  | k + 1, x1419, x1420 =>
    (a0[x1394]?).bind fun x1430 =>
    if x1419 < x1430.Codes.length then
     (a0[x1394]?).bind fun x1438 =>
     (x1438.Codes[x1419]?).bind fun x1443 =>
     if x1420.length + 1 ≤ 70368744177664 then
      m15_l2 a0 x1394 k (x1419 + 1) (x1420 ++ [(⟨x1443.From, x1443.To⟩ : D_crosswalk_Pair)])
     else none
    else
     some x1420
def m15_l1 (a0 : (List D_ref16_Entry)) : Nat → (List D_crosswalk_Entry) → Nat → Option (List D_crosswalk_Entry)
  | 0, _, _ => none
  | k + 1, x1393, x1394 =>
    if x1394 < a0.length then
     (a0[x1394]?).bind fun x1407 =>
     (a0[x1394]?).bind fun x1412 =>
     (m15_l2 a0 x1394 9223372036854775808 0 ([] : (List D_crosswalk_Pair))).bind fun x1424 =>
     if x1393.length + 1 ≤ 2513169434916 then
      m15_l1 a0 k (x1393 ++ [(⟨x1407.From, x1412.To, x1424⟩ : D_crosswalk_Entry)]) (x1394 + 1)
     else none
    else
     some x1393
def m15 (a0 : (List D_ref16_Entry)) : Option (List D_crosswalk_Entry) :=
  (m15_l1 a0 (a0.length + 1) ([] : (List D_crosswalk_Entry)) 0).bind fun x1398 =>
  some x1398
def post15 (r : (List D_crosswalk_Entry)) (v : Value) (fs : List Fact) : Prop := ∃ s1463 : Value, v = s1463 ∧ fs = [((Ty.slice ty76).fact r [s1463])]
theorem en15 : Enters Tryz.prog 15 := ⟨_, Tryz.func15, by kernel_rfl, rfl⟩
theorem f15_spec {a0 : (List D_ref16_Entry)} {w1392 : Value} {r : (List D_crosswalk_Entry)} (hr : m15 a0 = some r) : Spec Tryz.prog 15 [w1392] [((Ty.slice ty50).fact a0 [w1392])] (post15 r) := by
 refine spec_start (N := 52) Tryz.func15 (by kernel_rfl) rfl rfl rfl ?_
 intro g hS
 unfold m15 at hr
 refine s_sr (s_as rfl (s_ntsr (s_as rfl (s_nt (at_seq (s_sr (s_as rfl (s_nt (at_rownew none 76 3 ?_)))))))))
 refine at_rownil ty76 ?_
 refine at_mkpure (q := (([] : (List D_crosswalk_Entry)).length * ty76.bytes ≤ 140737488355328)) (by simp only [List.nil_append, List.cons_append, List.length_cons, List.length_nil, ty76_bytes] <;> omega) ?_
 refine at_int .i64 0 (by simp only [lo, hi]; omega) ?_
 replace hr := obind hr
 obtain ⟨x1398, hl1402, hr⟩ := hr
 refine at_cut (V := Value × Nat × (List Value)) (fun e => (⟨[(3, e.1)], [], [⟨e.1, 76, 3, e.2.1, e.2.2⟩], [(ty76.row x1398 e.2.2), (pureF (x1398.length * ty76.bytes ≤ 140737488355328))]⟩ : St)) ?_ ?_
 ·refine at_block ?_
  refine at_loopW (σ := ((List D_crosswalk_Entry) × Nat)) (V := Value × Nat × (List Value)) (r := x1398) (fun n s => m15_l1 a0 n s.1 s.2) (fun s e => (⟨[(0, w1392), (3, e.1), (4, .int .i64 (s.2 : Int))], [], [⟨e.1, 76, 3, e.2.1, e.2.2⟩], [(ty76.row s.1 e.2.2), (pureF (s.1.length * ty76.bytes ≤ 140737488355328)), ((Ty.int .i64).fact (s.2 : Int) [.int .i64 (s.2 : Int)]), ((Ty.slice ty50).fact a0 [w1392])]⟩ : St)) (fun _ => rfl) _ (([] : (List D_crosswalk_Entry)), 0) ((.slice none 0 0), 0, []) hl1402 ⟨⟨rfl, ⟨rfl, ⟨rfl, trivial⟩⟩⟩, ⟨[], rfl⟩, ⟨[true], rfl⟩, ⟨[2, 1, 0, 3], rfl⟩⟩ ?_
  clear hr hl1402
  intro n s hr e
  obtain ⟨x1393, x1394⟩ := s
  obtain ⟨v1395, n1396, i1397⟩ := e
  change m15_l1 a0 (n + 1) x1393 x1394 = some x1398 at hr
  change At _ _ (⟨[(0, w1392), (3, v1395), (4, .int .i64 (x1394 : Int))], [], [⟨v1395, 76, 3, n1396, i1397⟩], [(ty76.row x1393 i1397), (pureF (x1393.length * ty76.bytes ≤ 140737488355328)), ((Ty.int .i64).fact (x1394 : Int) [.int .i64 (x1394 : Int)]), ((Ty.slice ty50).fact a0 [w1392])]⟩ : St) _
  rw [m15_l1] at hr
  refine at_seq (s_sr (s_mv rfl (s_mv rfl ?_)))
  refine at_inv 3 rfl (fun i1404 => ?_)
  have l1405 := slice_len i1404
  refine at_lt (lt_flen 3 rfl rfl und22) rfl (at_lt (lt_lss rfl rfl) rfl (s_nt ?_))
  by_cases h1406 : x1394 < a0.length
  ·replace hr := ipos h1406 hr
   refine at_true rfl (decide_eq_true (by omega)) ?_
   refine at_skip (at_then (at_seq (at_block (at_seq ?_))))
   replace hr := obind hr
   obtain ⟨x1407, h1408, hr⟩ := hr
   have := (List.getElem?_eq_some_iff.1 h1408).1
   refine at_elem 3 rfl (nat_at' h1408) (fun p1410 ec pa1411 => ?_)
   refine at_open (A := Value) 0 rfl _ _ (fun F w h => op50 h) ?_
   rintro s1409 rfl
   replace hr := obind hr
   obtain ⟨x1412, h1413, hr⟩ := hr
   have := (List.getElem?_eq_some_iff.1 h1413).1
   refine at_elem 8 rfl (nat_at' h1413) (fun p1415 ec pa1416 => ?_)
   refine at_open (A := Value) 0 rfl _ _ (fun F w h => op50 h) ?_
   rintro s1414 rfl
   refine aa_start 13 (by kernel_rfl) ?_
   refine aa_p 0 rfl (lt_move rfl) (aa_p 1 rfl (lt_move rfl) (aa_p 2 rfl (lt_idx rfl rfl pa1411 und22 ti50) (aa_p 3 rfl (lt_fieldAddr 0 rfl fld50_0 rfl) (aa_l 4 rfl (lt_load_peek 9 rfl ti9 rfl rfl rfl rfl rfl) (aa_p 5 rfl (lt_move rfl) (aa_p 6 rfl (lt_move rfl) (aa_p 7 rfl (lt_idx rfl rfl pa1416 und22 ti50) (aa_p 8 rfl (lt_fieldAddr 1 rfl fld50_1 rfl) (aa_l 9 rfl (lt_load_peek 4 rfl ti9 rfl rfl rfl rfl rfl) ?_)))))))))
   refine aa_p 10 rfl (lt_build (cs := [str x1407.From, str x1412.To, (.slice none 0 0)]) rfl ti76 pl76 rfl) (aa_one 11 (aa_op rfl rfl ?_))
   refine hv_alloc (cs := [str ([] : Str), str ([] : Str), (.slice none 0 0)]) ti76 rfl rfl (fun b1418 => ?_)
   refine aa_all (rs := [12]) (by kernel_rfl) rfl (ts_in 1 0 rfl rfl) (List.forall_mem_singleton.2 ?_)
   refine aa_op rfl rfl (hv_store_box 0 (cs' := [str x1407.From, str x1412.To, (.slice none 0 0)]) rfl rfl ti76 rfl rfl rfl rfl rfl ?_)
   refine aa_done (by kernel_rfl) (ts_in 1 0 rfl rfl) ?_
   refine at_then (at_seq (s_sr (s_as rfl (s_nt (at_int .i64 0 (by simp only [lo, hi]; omega) (at_rownew none 82 2 (at_rownil ty82 ?_)))))))
   refine at_mkpure (q := (([] : (List D_crosswalk_Pair)).length * ty82.bytes ≤ 140737488355328)) (by simp only [List.nil_append, List.cons_append, List.length_cons, List.length_nil, ty82_bytes] <;> omega) ?_
   replace hr := obind hr
   obtain ⟨x1424, hl1428, hr⟩ := hr
   refine at_cut (V := Value × Nat × (List Value)) (fun e => (⟨[(0, w1392), (3, v1395), (4, .int .i64 (x1394 : Int)), (5, .pointer (some (Addr.add ⟨b1418, 0, none⟩ 0)))], [⟨b1418, [str x1407.From, str x1412.To, e.1], 76⟩], [⟨e.1, 82, 2, e.2.1, e.2.2⟩, ⟨v1395, 76, 3, n1396, i1397⟩], [(ty82.row x1424 e.2.2), (pureF (x1424.length * ty82.bytes ≤ 140737488355328)), ((Ty.slice ty50).fact a0 [w1392]), (ty76.row x1393 i1397), (pureF (x1393.length * ty76.bytes ≤ 140737488355328)), ((Ty.int .i64).fact (x1394 : Int) [.int .i64 (x1394 : Int)]), (Ty.str.fact x1407.From [str x1407.From]), (Ty.str.fact x1412.To [str x1412.To])]⟩ : St)) ?_ ?_
   ·refine at_block ?_
    refine at_loopW (σ := (Nat × (List D_crosswalk_Pair))) (V := Value × Nat × (List Value)) (r := x1424) (fun n s => m15_l2 a0 x1394 n s.1 s.2) (fun s e => (⟨[(0, w1392), (3, v1395), (4, .int .i64 (x1394 : Int)), (5, .pointer (some (Addr.add ⟨b1418, 0, none⟩ 0))), (6, .int .i64 (s.1 : Int))], [⟨b1418, [str x1407.From, str x1412.To, e.1], 76⟩], [⟨e.1, 82, 2, e.2.1, e.2.2⟩, ⟨v1395, 76, 3, n1396, i1397⟩], [((Ty.int .i64).fact (s.1 : Int) [.int .i64 (s.1 : Int)]), (ty82.row s.2 e.2.2), (pureF (s.2.length * ty82.bytes ≤ 140737488355328)), ((Ty.slice ty50).fact a0 [w1392]), (ty76.row x1393 i1397), (pureF (x1393.length * ty76.bytes ≤ 140737488355328)), ((Ty.int .i64).fact (x1394 : Int) [.int .i64 (x1394 : Int)]), (Ty.str.fact x1407.From [str x1407.From]), (Ty.str.fact x1412.To [str x1412.To])]⟩ : St)) (fun _ => rfl) _ (0, ([] : (List D_crosswalk_Pair))) ((.slice none 0 0), 0, []) hl1428 ⟨⟨rfl, ⟨rfl, ⟨rfl, ⟨rfl, ⟨rfl, trivial⟩⟩⟩⟩⟩, ⟨[true], rfl⟩, ⟨[true, true], rfl⟩, ⟨[2, 1, 0, 16, 13, 14, 15, 8, 4], rfl⟩⟩ ?_
    clear hr hl1428
    intro n s hr e
    obtain ⟨x1419, x1420⟩ := s
    obtain ⟨v1421, n1422, i1423⟩ := e
    change m15_l2 a0 x1394 (n + 1) x1419 x1420 = some x1424 at hr
    change At _ _ (⟨[(0, w1392), (3, v1395), (4, .int .i64 (x1394 : Int)), (5, .pointer (some (Addr.add ⟨b1418, 0, none⟩ 0))), (6, .int .i64 (x1419 : Int))], [⟨b1418, [str x1407.From, str x1412.To, v1421], 76⟩], [⟨v1421, 82, 2, n1422, i1423⟩, ⟨v1395, 76, 3, n1396, i1397⟩], [((Ty.int .i64).fact (x1419 : Int) [.int .i64 (x1419 : Int)]), (ty82.row x1420 i1423), (pureF (x1420.length * ty82.bytes ≤ 140737488355328)), ((Ty.slice ty50).fact a0 [w1392]), (ty76.row x1393 i1397), (pureF (x1393.length * ty76.bytes ≤ 140737488355328)), ((Ty.int .i64).fact (x1394 : Int) [.int .i64 (x1394 : Int)]), (Ty.str.fact x1407.From [str x1407.From]), (Ty.str.fact x1412.To [str x1412.To])]⟩ : St) _
    rw [m15_l2] at hr
    refine at_seq (s_sr (s_mv rfl (s_mv rfl (s_mv rfl ?_))))
    replace hr := obind hr
    obtain ⟨x1430, h1431, hr⟩ := hr
    have := (List.getElem?_eq_some_iff.1 h1431).1
    refine at_elem 3 rfl (nat_at' h1431) (fun p1433 ec pa1434 => ?_)
    refine at_open (A := Value) 0 rfl _ _ (fun F w h => op50 h) ?_
    rintro s1432 rfl
    refine at_lt (lt_idx rfl rfl pa1434 und22 ti50) rfl (at_lt (lt_fieldAddr 2 rfl fld50_2 rfl) rfl (at_lt (lt_load_peek 4 rfl ti48 rfl rfl rfl rfl rfl) rfl ?_))
    refine at_inv 2 rfl (fun i1435 => ?_)
    have l1436 := slice_len i1435
    refine at_lt (lt_flen 2 rfl rfl und48) rfl (at_lt (lt_lss rfl rfl) rfl (s_nt ?_))
    by_cases h1437 : x1419 < x1430.Codes.length
    ·replace hr := ipos h1437 hr
     refine at_true rfl (decide_eq_true (by omega)) ?_
     refine at_skip (at_then (at_seq (at_block ?_)))
     replace hr := obind hr
     obtain ⟨x1438, h1439, hr⟩ := hr
     have := (List.getElem?_eq_some_iff.1 h1439).1
     refine at_elem 8 rfl (nat_at' h1439) (fun p1441 ec pa1442 => ?_)
     refine at_open (A := Value) 0 rfl _ _ (fun F w h => op50 h) ?_
     rintro s1440 rfl
     replace hr := obind hr
     obtain ⟨x1443, h1444, hr⟩ := hr
     have := (List.getElem?_eq_some_iff.1 h1444).1
     refine at_elem 2 rfl (nat_at' h1444) (fun p1445 ec pa1446 => ?_)
     refine at_open (A := Unit) 0 rfl _ _ (fun F w h => op83 h) ?_
     rintro _ rfl
     replace hr := imust hr
     obtain ⟨h1448, hr⟩ := hr
     refine aa_start 13 (by kernel_rfl) ?_
     refine aa_p 0 rfl (lt_fieldAddr 2 rfl fld76_2 rfl) (aa_l 1 rfl (lt_load_box 0 rfl ti74 rfl rfl rfl rfl rfl) (aa_p 2 rfl (lt_move rfl) (aa_p 3 rfl (lt_move rfl) (aa_p 4 rfl (lt_idx rfl rfl pa1442 und22 ti50) (aa_p 5 rfl (lt_fieldAddr 2 rfl fld50_2 rfl) (aa_l 6 rfl (lt_load_peek 6 rfl ti48 rfl rfl rfl rfl rfl) (aa_p 7 rfl (lt_move rfl) (aa_p 8 rfl (lt_idx rfl rfl pa1446 und48 ti83) (aa_l 9 rfl (lt_load_peek 1 rfl ti83 rfl rfl rfl rfl rfl) ?_)))))))))
     refine aa_one 10 (aa_op rfl rfl ?_)
     refine hv_bslice (cs := [.int .u8 (x1443.From.toNat : Int), .int .u8 (x1443.To.toNat : Int)]) rfl und74 ti82 rfl rfl rfl rfl rfl (fun s1452 => ?_)
     refine aa_one 11 ?_
     refine at_derive [] (ty82.fact (⟨x1443.From, x1443.To⟩ : D_crosswalk_Pair) [.int .u8 (x1443.From.toNat : Int), .int .u8 (x1443.To.toNat : Int)]) rfl (fun F w h => mk82 (x := (⟨x1443.From, x1443.To⟩ : D_crosswalk_Pair)) h) ?_
     refine at_rown 1 14 rfl rfl rfl (fun hn1454 => ?_)
     refine aa_op rfl rfl ?_
     refine hv_append 1 0 rfl rfl rfl rfl und74 ti82 rfl rfl rfl (by omega) (by omega) rfl (fun s1453 => ?_)
     refine at_rowsnoc 14 0 rfl rfl ?_
     refine aa_pure 12 rfl (by kernel_rfl) rfl rfl (lt_fieldAddr 2 rfl fld76_2 rfl) rfl (ts_in 0 2 rfl rfl) ?_
     refine aa_all (rs := [13]) (by kernel_rfl) rfl (ts_in 0 2 rfl rfl) (List.forall_mem_singleton.2 ?_)
     refine at_rowv 1 rfl (fun ho1455 => ?_)
     replace ho1455 := row_one (by obtain ⟨a, c, h⟩ := ho1455; exact ⟨a, _, c, h⟩)
     refine aa_op rfl rfl (hv_store1 0 (cs' := [str x1407.From, str x1412.To, s1453]) rfl rfl ti74 rfl rfl rfl rfl ho1455 ?_)
     refine aa_done (by kernel_rfl) (ts_out rfl) ?_
     refine at_in (s_tr (s_mv rfl (at_lt (lt_add rfl rfl (by simp only [lo, hi]; omega)) rfl (s_as rfl (at_nil (at_int .i64 (x1419 + 1 : Int) (by simp only [lo, hi]; omega) ?_))))))
     refine at_mkpure (q := ((x1420 ++ [(⟨x1443.From, x1443.To⟩ : D_crosswalk_Pair)]).length * ty82.bytes ≤ 140737488355328)) (by simp only [List.length_append, List.length_cons, List.length_nil, ty82_bytes] <;> omega) ?_
     exact at_again (σ := (Nat × (List D_crosswalk_Pair))) (V := Value × Nat × (List Value)) (lp := fun n s => m15_l2 a0 x1394 n s.1 s.2) (S := fun s e => (⟨[(0, w1392), (3, v1395), (4, .int .i64 (x1394 : Int)), (5, .pointer (some (Addr.add ⟨b1418, 0, none⟩ 0))), (6, .int .i64 (s.1 : Int))], [⟨b1418, [str x1407.From, str x1412.To, e.1], 76⟩], [⟨e.1, 82, 2, e.2.1, e.2.2⟩, ⟨v1395, 76, 3, n1396, i1397⟩], [((Ty.int .i64).fact (s.1 : Int) [.int .i64 (s.1 : Int)]), (ty82.row s.2 e.2.2), (pureF (s.2.length * ty82.bytes ≤ 140737488355328)), ((Ty.slice ty50).fact a0 [w1392]), (ty76.row x1393 i1397), (pureF (x1393.length * ty76.bytes ≤ 140737488355328)), ((Ty.int .i64).fact (x1394 : Int) [.int .i64 (x1394 : Int)]), (Ty.str.fact x1407.From [str x1407.From]), (Ty.str.fact x1412.To [str x1412.To])]⟩ : St)) (x1419 + 1, x1420 ++ [(⟨x1443.From, x1443.To⟩ : D_crosswalk_Pair)]) (s1453, n1422 + 1, i1423 ++ [.int .u8 (x1443.From.toNat : Int), .int .u8 (x1443.To.toNat : Int)]) hr ⟨⟨rfl, ⟨rfl, ⟨rfl, ⟨rfl, ⟨rfl, trivial⟩⟩⟩⟩⟩, ⟨[true], rfl⟩, ⟨[false, true, true], rfl⟩, ⟨[1, 2, 0, 19, 20, 21, 22, 23, 24], rfl⟩⟩
    replace hr := ineg h1437 hr
    refine at_false rfl (decide_eq_false (by omega)) ?_
    refine at_exit (at_then_exit (at_then_exit (at_in_exit ?_)))
    have hq := oinj hr
    clear hr
    subst hq
    exact at_leaf (v1421, n1422, i1423) ⟨⟨rfl, ⟨rfl, ⟨rfl, ⟨rfl, trivial⟩⟩⟩⟩, ⟨[true], rfl⟩, ⟨[true, true], rfl⟩, ⟨[6, 7, 8, 9, 10, 11, 12, 13], rfl⟩⟩
   clear hl1428
   intro e
   obtain ⟨v1425, n1426, i1427⟩ := e
   change At _ _ (⟨[(0, w1392), (3, v1395), (4, .int .i64 (x1394 : Int)), (5, .pointer (some (Addr.add ⟨b1418, 0, none⟩ 0)))], [⟨b1418, [str x1407.From, str x1412.To, v1425], 76⟩], [⟨v1425, 82, 2, n1426, i1427⟩, ⟨v1395, 76, 3, n1396, i1397⟩], [(ty82.row x1424 i1427), (pureF (x1424.length * ty82.bytes ≤ 140737488355328)), ((Ty.slice ty50).fact a0 [w1392]), (ty76.row x1393 i1397), (pureF (x1393.length * ty76.bytes ≤ 140737488355328)), ((Ty.int .i64).fact (x1394 : Int) [.int .i64 (x1394 : Int)]), (Ty.str.fact x1407.From [str x1407.From]), (Ty.str.fact x1412.To [str x1412.To])]⟩ : St) _
   refine s_tr (s_mv rfl (at_lt (lt_load_box 0 rfl ti76 rfl rfl rfl rfl rfl) rfl (at_hv rfl ?_)))
   refine hv_bslice (cs := [str x1407.From, str x1412.To, v1425]) rfl und34 ti76 rfl rfl rfl rfl rfl (fun s1456 => ?_)
   replace hr := imust hr
   obtain ⟨h1457, hr⟩ := hr
   refine at_pure 1 rfl (fun hb1459 => ?_)
   refine at_release 1 0 rfl rfl rfl hb1459 ?_
   refine at_derive [7, 8, 0] (ty76.fact (⟨x1407.From, x1412.To, x1424⟩ : D_crosswalk_Entry) [str x1407.From, str x1412.To, v1425]) rfl (fun F w h => mk76 (x := (⟨x1407.From, x1412.To, x1424⟩ : D_crosswalk_Entry)) h) ?_
   refine at_rown 1 5 rfl rfl rfl (fun hn1460 => ?_)
   refine at_one 1 rfl (fun ho1461 => ?_)
   refine at_hv rfl ?_
   refine hv_append 1 0 rfl rfl rfl rfl und34 ti76 rfl rfl (allc rfl (allc rfl (allc ho1461 rfl))) (by omega) (by omega) rfl (fun s1458 => ?_)
   refine at_rowsnoc 5 0 rfl rfl (s_as rfl (at_nil (at_in (s_tr (s_mv rfl (at_lt (lt_add rfl rfl (by simp only [lo, hi]; omega)) rfl (s_as rfl (at_nil ?_))))))))
   refine at_mkpure (q := ((x1393 ++ [(⟨x1407.From, x1412.To, x1424⟩ : D_crosswalk_Entry)]).length * ty76.bytes ≤ 140737488355328)) (by simp only [List.length_append, List.length_cons, List.length_nil, ty76_bytes] <;> omega) ?_
   refine at_int .i64 (x1394 + 1 : Int) (by simp only [lo, hi]; omega) ?_
   exact at_again (σ := ((List D_crosswalk_Entry) × Nat)) (V := Value × Nat × (List Value)) (lp := fun n s => m15_l1 a0 n s.1 s.2) (S := fun s e => (⟨[(0, w1392), (3, e.1), (4, .int .i64 (s.2 : Int))], [], [⟨e.1, 76, 3, e.2.1, e.2.2⟩], [(ty76.row s.1 e.2.2), (pureF (s.1.length * ty76.bytes ≤ 140737488355328)), ((Ty.int .i64).fact (s.2 : Int) [.int .i64 (s.2 : Int)]), ((Ty.slice ty50).fact a0 [w1392])]⟩ : St)) (x1393 ++ [(⟨x1407.From, x1412.To, x1424⟩ : D_crosswalk_Entry)], x1394 + 1) (s1458, n1396 + 1, i1397 ++ [str x1407.From, str x1412.To, v1425]) hr ⟨⟨rfl, ⟨rfl, ⟨rfl, trivial⟩⟩⟩, ⟨[false], rfl⟩, ⟨[false, true], rfl⟩, ⟨[2, 1, 0, 7], rfl⟩⟩
  replace hr := ineg h1406 hr
  refine at_false rfl (decide_eq_false (by omega)) ?_
  refine at_exit (at_then_exit (at_then_exit (at_in_exit ?_)))
  have hq := oinj hr
  clear hr
  subst hq
  exact at_leaf (v1395, n1396, i1397) ⟨⟨rfl, trivial⟩, ⟨[], rfl⟩, ⟨[true], rfl⟩, ⟨[0, 1], rfl⟩⟩
 clear hl1402
 intro e
 obtain ⟨v1399, n1400, i1401⟩ := e
 change At _ _ (⟨[(3, v1399)], [], [⟨v1399, 76, 3, n1400, i1401⟩], [(ty76.row x1398 i1401), (pureF (x1398.length * ty76.bytes ≤ 140737488355328))]⟩ : St) _
 refine s_tsr (s_mv rfl (s_as rfl (s_nt (at_ret ?_))))
 have hq := oinj hr
 clear hr
 subst hq
 refine at_pure 1 rfl (fun hb1462 => ?_)
 refine at_release 0 0 rfl rfl rfl hb1462 ?_
 exact at_return (v1399) [0] hS Tryz.results15 (.cons (.tmp rfl) .nil) rfl rfl ⟨v1399, rfl, rfl⟩
def m84_l1 (a0 : D_api_Field) (a1 : D_api_Field) : Nat → Nat → Option (Fl Bool Unit)
  | 0, _ => none
  | k + 1, x1475 =>
    if x1475 < a0.Subs.length then
     (a0.Subs[x1475]?).bind fun x1480 =>
     (a1.Subs[x1475]?).bind fun x1484 =>
     if (decide (((x1480.Code.toNat : Int) : Int) = (x1484.Code.toNat : Int)) && decide (x1480.Value = x1484.Value)) = true then
      m84_l1 a0 a1 k (x1475 + 1)
     else
      some (Fl.ret false)
    else
     some (Fl.go ())
def m84 (a0 : D_api_Field) (a1 : D_api_Field) : Option Bool :=
  if a0.Tag = a1.Tag then
   if (decide (((a0.Ind_0.toNat : Int) : Int) = (a1.Ind_0.toNat : Int)) && decide (((a0.Ind_1.toNat : Int) : Int) = (a1.Ind_1.toNat : Int))) = true then
    if a0.Subs.length = a1.Subs.length then
     (m84_l1 a0 a1 (a0.Subs.length + 1) 0).bind fun r => match r with
     | .ret x => some x
     | .go _ =>
      some true
    else
     some false
   else
    some false
  else
   some false
def post84 (r : Bool) (v : Value) (fs : List Fact) : Prop := v = .bool r ∧ fs = []
theorem en84 : Enters Tryz.prog 84 := ⟨_, Tryz.func84, by kernel_rfl, rfl⟩
theorem f84_spec {a0 : D_api_Field} {a1 : D_api_Field} {s1464 : Value} {s1465 : Value} {r : Bool} (hr : m84 a0 a1 = some r) : Spec Tryz.prog 84 [.agg #[str a0.Tag, .int .u8 (a0.Ind_0.toNat : Int), .int .u8 (a0.Ind_1.toNat : Int), s1464], .agg #[str a1.Tag, .int .u8 (a1.Ind_0.toNat : Int), .int .u8 (a1.Ind_1.toNat : Int), s1465]] [(ty69.fact a0 [str a0.Tag, .int .u8 (a0.Ind_0.toNat : Int), .int .u8 (a0.Ind_1.toNat : Int), s1464]), (ty69.fact a1 [str a1.Tag, .int .u8 (a1.Ind_0.toNat : Int), .int .u8 (a1.Ind_1.toNat : Int), s1465])] (post84 r) := by
 refine spec_start (N := 45) Tryz.func84 (by kernel_rfl) rfl rfl rfl ?_
 intro g hS
 unfold m84 at hr
 refine at_open (A := Unit) 0 rfl (fun _ => True) (fun _ => [(Ty.str.fact a0.Tag [str a0.Tag]), ((Ty.slice ty66).fact a0.Subs [s1464])]) (fun F w h => ⟨(), trivial, ex69 h⟩) (fun _ _ => ?_)
 refine at_open (A := Unit) 3 rfl (fun _ => True) (fun _ => [(Ty.str.fact a1.Tag [str a1.Tag]), ((Ty.slice ty66).fact a1.Subs [s1465])]) (fun F w h => ⟨(), trivial, ex69 h⟩) (fun _ _ => ?_)
 refine s_sr (at_hv rfl ?_)
 refine hv_box (cs := [str a0.Tag, .int .u8 (a0.Ind_0.toNat : Int), .int .u8 (a0.Ind_1.toNat : Int), s1464]) rfl rfl rfl (fun b1466 => ?_)
 refine at_hv rfl ?_
 refine hv_box (cs := [str a1.Tag, .int .u8 (a1.Ind_0.toNat : Int), .int .u8 (a1.Ind_1.toNat : Int), s1465]) rfl rfl rfl (fun b1467 => ?_)
 refine s_as rfl (s_nt (at_seq (s_sr (at_lt (lt_fieldAddr 0 rfl fld69_0 rfl) rfl (at_lt (lt_load_box 1 rfl ti9 rfl rfl rfl rfl rfl) rfl (at_lt (lt_fieldAddr 0 rfl fld69_0 rfl) rfl (at_lt (lt_load_box 0 rfl ti9 rfl rfl rfl rfl rfl) rfl (at_lt (lt_sneq rfl rfl) rfl (s_mv rfl ?_)))))))))
 by_cases h1468 : a0.Tag = a1.Tag
 ·replace hr := ipos h1468 hr
  refine at_on rfl rfl (nt (decide_eq_true h1468)) (at_lt (lt_fieldAddr 1 rfl fld69_1 rfl) rfl (at_on rfl rfl (nt (decide_eq_true h1468)) (at_lt (lt_load_box 1 rfl ti64 rfl rfl rfl rfl rfl) rfl (at_on rfl rfl (nt (decide_eq_true h1468)) (at_lt (lt_fieldAddr 1 rfl fld69_1 rfl) rfl (at_on rfl rfl (nt (decide_eq_true h1468)) (at_lt (lt_load_box 0 rfl ti64 rfl rfl rfl rfl rfl) rfl (at_on rfl rfl (nt (decide_eq_true h1468)) (at_lt (lt_stne rfl rfl eg64 eqt64) rfl ?_)))))))))
  refine at_lt (lt_pick false rfl (nt (decide_eq_true h1468)) rfl) rfl (s_mv rfl ?_)
  by_cases h1469 : (decide (((a0.Ind_0.toNat : Int) : Int) = (a1.Ind_0.toNat : Int)) && decide (((a0.Ind_1.toNat : Int) : Int) = (a1.Ind_1.toNat : Int))) = true
  ·replace hr := ipos h1469 hr
   refine at_on rfl rfl (nt h1469) (at_lt (lt_fieldAddr 3 rfl fld69_2 rfl) rfl (at_on rfl rfl (nt h1469) (at_lt (lt_load_box 1 rfl ti67 rfl rfl rfl rfl rfl) rfl ?_)))
   refine at_inv 3 rfl (fun i1470 => ?_)
   have l1471 := slice_len i1470
   refine at_on rfl rfl (nt h1469) (at_lt (lt_flen 3 rfl rfl und67) rfl (at_on rfl rfl (nt h1469) (at_lt (lt_fieldAddr 3 rfl fld69_2 rfl) rfl (at_on rfl rfl (nt h1469) (at_lt (lt_load_box 0 rfl ti67 rfl rfl rfl rfl rfl) rfl ?_)))))
   refine at_inv 1 rfl (fun i1472 => ?_)
   have l1473 := slice_len i1472
   refine at_on rfl rfl (nt h1469) (at_lt (lt_flen 1 rfl rfl und67) rfl (at_on rfl rfl (nt h1469) (at_lt (lt_neq rfl rfl) rfl (at_lt (lt_pick false rfl (nt h1469) rfl) rfl (s_nt ?_)))))
   by_cases h1474 : a0.Subs.length = a1.Subs.length
   ·replace hr := ipos h1474 hr
    refine at_false rfl (nt (decide_eq_true (by omega))) ?_
    refine at_skip (at_then (at_seq (s_sr (s_as rfl (s_nt (at_int .i64 0 (by simp only [lo, hi]; omega) ?_))))))
    replace hr := obind hr
    obtain ⟨r1476, hl1477, hk1478⟩ := hr
    refine at_cutP (V := (Unit) × (Unit)) (fun v => r1476 = Fl.go v.1) (fun v => (⟨[], [], [], []⟩ : St)) ?_ ?_
    ·refine at_block ?_
     refine at_loopW (σ := Nat) (V := Unit) (r := r1476) (fun n s => m84_l1 a0 a1 n s) (fun s e => (⟨[(2, .pointer (some (Addr.add ⟨b1466, 0, none⟩ 0))), (3, .pointer (some (Addr.add ⟨b1467, 0, none⟩ 0))), (5, .int .i64 (s : Int))], [⟨b1467, [str a1.Tag, .int .u8 (a1.Ind_0.toNat : Int), .int .u8 (a1.Ind_1.toNat : Int), s1465], 69⟩, ⟨b1466, [str a0.Tag, .int .u8 (a0.Ind_0.toNat : Int), .int .u8 (a0.Ind_1.toNat : Int), s1464], 69⟩], [], [((Ty.int .i64).fact (s : Int) [.int .i64 (s : Int)]), (Ty.str.fact a1.Tag [str a1.Tag]), ((Ty.slice ty66).fact a1.Subs [s1465]), (Ty.str.fact a0.Tag [str a0.Tag]), ((Ty.slice ty66).fact a0.Subs [s1464])]⟩ : St)) (fun _ => rfl) _ 0 () hl1477 ⟨⟨rfl, ⟨rfl, ⟨rfl, trivial⟩⟩⟩, ⟨[true, true], rfl⟩, ⟨[], rfl⟩, ⟨[0, 1, 2, 3, 4], rfl⟩⟩ ?_
     clear hl1477
     intro n x1475 hr e
     skip
     skip
     change m84_l1 a0 a1 (n + 1) x1475 = some r1476 at hr
     change At _ _ (⟨[(2, .pointer (some (Addr.add ⟨b1466, 0, none⟩ 0))), (3, .pointer (some (Addr.add ⟨b1467, 0, none⟩ 0))), (5, .int .i64 (x1475 : Int))], [⟨b1467, [str a1.Tag, .int .u8 (a1.Ind_0.toNat : Int), .int .u8 (a1.Ind_1.toNat : Int), s1465], 69⟩, ⟨b1466, [str a0.Tag, .int .u8 (a0.Ind_0.toNat : Int), .int .u8 (a0.Ind_1.toNat : Int), s1464], 69⟩], [], [((Ty.int .i64).fact (x1475 : Int) [.int .i64 (x1475 : Int)]), (Ty.str.fact a1.Tag [str a1.Tag]), ((Ty.slice ty66).fact a1.Subs [s1465]), (Ty.str.fact a0.Tag [str a0.Tag]), ((Ty.slice ty66).fact a0.Subs [s1464])]⟩ : St) _
     rw [m84_l1] at hr
     refine at_seq (s_sr (s_mv rfl (at_lt (lt_fieldAddr 3 rfl fld69_2 rfl) rfl (at_lt (lt_load_box 1 rfl ti67 rfl rfl rfl rfl rfl) rfl (at_lt (lt_flen 4 rfl rfl und67) rfl (at_lt (lt_lss rfl rfl) rfl (s_nt ?_)))))))
     by_cases h1479 : x1475 < a0.Subs.length
     ·replace hr := ipos h1479 hr
      refine at_true rfl (decide_eq_true (by omega)) ?_
      refine at_skip (at_then (at_seq (at_block (at_seq ?_))))
      replace hr := obind hr
      obtain ⟨x1480, h1481, hr⟩ := hr
      have := (List.getElem?_eq_some_iff.1 h1481).1
      refine at_elem 4 rfl (nat_at' h1481) (fun p1482 ec pa1483 => ?_)
      refine at_open (A := Unit) 0 rfl _ _ (fun F w h => op66 h) ?_
      rintro _ rfl
      replace hr := obind hr
      obtain ⟨x1484, h1485, hr⟩ := hr
      have := (List.getElem?_eq_some_iff.1 h1485).1
      refine at_elem 5 rfl (nat_at' h1485) (fun p1486 ec pa1487 => ?_)
      refine at_open (A := Unit) 0 rfl _ _ (fun F w h => op66 h) ?_
      rintro _ rfl
      refine aa_start 11 (by kernel_rfl) ?_
      refine aa_p 0 rfl (lt_fieldAddr 3 rfl fld69_2 rfl) (aa_l 1 rfl (lt_load_box 1 rfl ti67 rfl rfl rfl rfl rfl) (aa_p 2 rfl (lt_move rfl) (aa_p 3 rfl (lt_idx rfl rfl pa1483 und67 ti66) (aa_l 4 rfl (lt_load_peek 5 rfl ti66 rfl rfl rfl rfl rfl) (aa_p 5 rfl (lt_fieldAddr 3 rfl fld69_2 rfl) (aa_l 6 rfl (lt_load_box 0 rfl ti67 rfl rfl rfl rfl rfl) (aa_p 7 rfl (lt_move rfl) (aa_p 8 rfl (lt_idx rfl rfl pa1487 und67 ti66) (aa_l 9 rfl (lt_load_peek 2 rfl ti66 rfl rfl rfl rfl rfl) ?_)))))))))
      refine aa_p 10 rfl (lt_stne rfl rfl eg66 eqt66) ?_
      refine aa_done (by kernel_rfl) (ts_in 0 0 rfl rfl) ?_
      refine at_then ?_
      by_cases h1488 : (decide (((x1480.Code.toNat : Int) : Int) = (x1484.Code.toNat : Int)) && decide (x1480.Value = x1484.Value)) = true
      ·replace hr := ipos h1488 hr
       refine at_false rfl (nt h1488) (at_skip (at_in (s_tr (s_mv rfl (at_lt (lt_add rfl rfl (by simp only [lo, hi]; omega)) rfl (s_as rfl (at_nil (at_int .i64 (x1475 + 1 : Int) (by simp only [lo, hi]; omega) ?_))))))))
       exact at_again (σ := Nat) (V := Unit) (lp := fun n s => m84_l1 a0 a1 n s) (S := fun s e => (⟨[(2, .pointer (some (Addr.add ⟨b1466, 0, none⟩ 0))), (3, .pointer (some (Addr.add ⟨b1467, 0, none⟩ 0))), (5, .int .i64 (s : Int))], [⟨b1467, [str a1.Tag, .int .u8 (a1.Ind_0.toNat : Int), .int .u8 (a1.Ind_1.toNat : Int), s1465], 69⟩, ⟨b1466, [str a0.Tag, .int .u8 (a0.Ind_0.toNat : Int), .int .u8 (a0.Ind_1.toNat : Int), s1464], 69⟩], [], [((Ty.int .i64).fact (s : Int) [.int .i64 (s : Int)]), (Ty.str.fact a1.Tag [str a1.Tag]), ((Ty.slice ty66).fact a1.Subs [s1465]), (Ty.str.fact a0.Tag [str a0.Tag]), ((Ty.slice ty66).fact a0.Subs [s1464])]⟩ : St)) (x1475 + 1) () hr ⟨⟨rfl, ⟨rfl, ⟨rfl, trivial⟩⟩⟩, ⟨[true, true], rfl⟩, ⟨[], rfl⟩, ⟨[0, 8, 9, 10, 11], rfl⟩⟩
      replace hr := ineg h1488 hr
      refine at_true rfl (nf (bf h1488)) (s_sr (s_as rfl (s_nt (at_ret ?_))))
      have hq := oinj hr
      clear hr
      subst hq
      have hq := oinj hk1478
      clear hk1478
      subst hq
      refine at_in_ret (at_then_ret (at_then_ret (at_in_ret (at_then_ret (at_then_ret ?_)))))
      exact at_return (.bool false) [] hS Tryz.results84 (.cons (.tmp rfl) .nil) rfl rfl ⟨rfl, rfl⟩
     replace hr := ineg h1479 hr
     refine at_false rfl (decide_eq_false (by omega)) ?_
     refine at_exit (at_then_exit (at_then_exit (at_in_exit ?_)))
     have hq := oinj hr
     clear hr
     subst hq
     exact at_leafP ((), ()) rfl ⟨trivial, ⟨[false, false], rfl⟩, ⟨[], rfl⟩, ⟨[], rfl⟩⟩
    rintro ⟨_, _⟩ hp
    replace hr := hk1478
    subst hp
    clear hl1477
    change At _ _ (⟨[], [], [], []⟩ : St) _
    refine s_tsr (s_as rfl (s_nt (at_ret ?_)))
    have hq := oinj hr
    clear hr
    subst hq
    exact at_return (.bool true) [] hS Tryz.results84 (.cons (.tmp rfl) .nil) rfl rfl ⟨rfl, rfl⟩
   replace hr := ineg h1474 hr
   refine at_true rfl (nf (decide_eq_false (by omega))) ?_
   refine s_sr (s_as rfl (s_nt (at_ret ?_)))
   have hq := oinj hr
   clear hr
   subst hq
   refine at_then_ret ?_
   exact at_return (.bool false) [] hS Tryz.results84 (.cons (.tmp rfl) .nil) rfl rfl ⟨rfl, rfl⟩
  replace hr := ineg h1469 hr
  refine at_off rfl rfl (nf (bf h1469)) rfl (at_off rfl rfl (nf (bf h1469)) rfl (at_off rfl rfl (nf (bf h1469)) rfl (at_off rfl rfl (nf (bf h1469)) rfl (at_off rfl rfl (nf (bf h1469)) rfl (at_off rfl rfl (nf (bf h1469)) rfl (at_off rfl rfl (nf (bf h1469)) rfl (at_lt (lt_pick true rfl (nf (bf h1469)) rfl) rfl (s_nt (at_true rfl rfl ?_)))))))))
  refine s_sr (s_as rfl (s_nt (at_ret ?_)))
  have hq := oinj hr
  clear hr
  subst hq
  refine at_then_ret ?_
  exact at_return (.bool false) [] hS Tryz.results84 (.cons (.tmp rfl) .nil) rfl rfl ⟨rfl, rfl⟩
 replace hr := ineg h1468 hr
 refine at_off rfl rfl (nf (decide_eq_false h1468)) rfl (at_off rfl rfl (nf (decide_eq_false h1468)) rfl (at_off rfl rfl (nf (decide_eq_false h1468)) rfl (at_off rfl rfl (nf (decide_eq_false h1468)) rfl (at_off rfl rfl (nf (decide_eq_false h1468)) rfl (at_lt (lt_pick true rfl (nf (decide_eq_false h1468)) rfl) rfl (s_mv rfl (at_off rfl rfl rfl rfl (at_off rfl rfl rfl rfl (at_off rfl rfl rfl rfl ?_)))))))))
 refine at_off rfl rfl rfl rfl (at_off rfl rfl rfl rfl (at_off rfl rfl rfl rfl (at_off rfl rfl rfl rfl (at_lt (lt_pick true rfl rfl rfl) rfl (s_nt (at_true rfl rfl (s_sr (s_as rfl (s_nt ?_)))))))))
 refine at_ret ?_
 have hq := oinj hr
 clear hr
 subst hq
 refine at_then_ret ?_
 exact at_return (.bool false) [] hS Tryz.results84 (.cons (.tmp rfl) .nil) rfl rfl ⟨rfl, rfl⟩
def m48_l1 (a0 : (List D_api_Field)) (a1 : (List D_api_Field)) : Nat → Nat → Option (Fl Bool Unit)
  | 0, _ => none
  | k + 1, x1496 =>
    if x1496 < a0.length then
     (a0[x1496]?).bind fun x1501 =>
     (a1[x1496]?).bind fun x1506 =>
     (m84 x1501 x1506).bind fun x1511 =>
     if x1511 = true then
      m48_l1 a0 a1 k (x1496 + 1)
     else
      some (Fl.ret false)
    else
     some (Fl.go ())
def m48 (a0 : (List D_api_Field)) (a1 : (List D_api_Field)) : Option Bool :=
  if a0.length = a1.length then
   (m48_l1 a0 a1 (a0.length + 1) 0).bind fun r => match r with
   | .ret x => some x
   | .go _ =>
    some true
  else
   some false
def post48 (r : Bool) (v : Value) (fs : List Fact) : Prop := v = .bool r ∧ fs = []
theorem en48 : Enters Tryz.prog 48 := ⟨_, Tryz.func48, by kernel_rfl, rfl⟩
theorem f48_spec {a0 : (List D_api_Field)} {a1 : (List D_api_Field)} {w1489 : Value} {w1490 : Value} {r : Bool} (hr : m48 a0 a1 = some r) : Spec Tryz.prog 48 [w1489, w1490] [((Ty.slice ty69).fact a0 [w1489]), ((Ty.slice ty69).fact a1 [w1490])] (post48 r) := by
 refine spec_start (N := 27) Tryz.func48 (by kernel_rfl) rfl rfl rfl ?_
 intro g hS
 unfold m48 at hr
 refine s_sr (s_as rfl (s_nt (at_seq (s_sr (s_mv rfl ?_)))))
 refine at_inv 0 rfl (fun i1491 => ?_)
 have l1492 := slice_len i1491
 refine at_lt (lt_flen 0 rfl rfl und23) rfl (s_mv rfl ?_)
 refine at_inv 1 rfl (fun i1493 => ?_)
 have l1494 := slice_len i1493
 refine at_lt (lt_flen 1 rfl rfl und23) rfl (at_lt (lt_neq rfl rfl) rfl (s_nt ?_))
 by_cases h1495 : a0.length = a1.length
 ·replace hr := ipos h1495 hr
  refine at_false rfl (nt (decide_eq_true (by omega))) ?_
  refine at_skip (at_then (at_seq (s_sr (s_as rfl (s_nt (at_int .i64 0 (by simp only [lo, hi]; omega) ?_))))))
  replace hr := obind hr
  obtain ⟨r1497, hl1498, hk1499⟩ := hr
  refine at_cutP (V := (Unit) × (Unit)) (fun v => r1497 = Fl.go v.1) (fun v => (⟨[], [], [], []⟩ : St)) ?_ ?_
  ·refine at_block ?_
   refine at_loopW (σ := Nat) (V := Unit) (r := r1497) (fun n s => m48_l1 a0 a1 n s) (fun s e => (⟨[(0, w1489), (1, w1490), (5, .int .i64 (s : Int))], [], [], [((Ty.int .i64).fact (s : Int) [.int .i64 (s : Int)]), ((Ty.slice ty69).fact a0 [w1489]), ((Ty.slice ty69).fact a1 [w1490])]⟩ : St)) (fun _ => rfl) _ 0 () hl1498 ⟨⟨rfl, ⟨rfl, ⟨rfl, trivial⟩⟩⟩, ⟨[], rfl⟩, ⟨[], rfl⟩, ⟨[0, 1, 2], rfl⟩⟩ ?_
   clear hl1498
   intro n x1496 hr e
   skip
   skip
   change m48_l1 a0 a1 (n + 1) x1496 = some r1497 at hr
   change At _ _ (⟨[(0, w1489), (1, w1490), (5, .int .i64 (x1496 : Int))], [], [], [((Ty.int .i64).fact (x1496 : Int) [.int .i64 (x1496 : Int)]), ((Ty.slice ty69).fact a0 [w1489]), ((Ty.slice ty69).fact a1 [w1490])]⟩ : St) _
   rw [m48_l1] at hr
   refine at_seq (s_sr (s_mv rfl (s_mv rfl (at_lt (lt_flen 1 rfl rfl und23) rfl (at_lt (lt_lss rfl rfl) rfl (s_nt ?_))))))
   by_cases h1500 : x1496 < a0.length
   ·replace hr := ipos h1500 hr
    refine at_true rfl (decide_eq_true (by omega)) ?_
    refine at_skip (at_then (at_seq (at_block (at_seq ?_))))
    replace hr := obind hr
    obtain ⟨x1501, h1502, hr⟩ := hr
    have := (List.getElem?_eq_some_iff.1 h1502).1
    refine at_elem 1 rfl (nat_at' h1502) (fun p1504 ec pa1505 => ?_)
    refine at_open (A := Value) 0 rfl _ _ (fun F w h => op69 h) ?_
    rintro s1503 rfl
    replace hr := obind hr
    obtain ⟨x1506, h1507, hr⟩ := hr
    have := (List.getElem?_eq_some_iff.1 h1507).1
    refine at_elem 6 rfl (nat_at' h1507) (fun p1509 ec pa1510 => ?_)
    refine at_open (A := Value) 0 rfl _ _ (fun F w h => op69 h) ?_
    rintro s1508 rfl
    replace hr := obind hr
    obtain ⟨x1511, h1512, hr⟩ := hr
    refine aa_start 10 (by kernel_rfl) ?_
    refine aa_p 0 rfl (lt_move rfl) (aa_p 1 rfl (lt_move rfl) (aa_p 2 rfl (lt_idx rfl rfl pa1505 und23 ti69) (aa_l 3 rfl (lt_load_peek 7 rfl ti69 rfl rfl rfl rfl rfl) (aa_p 4 rfl (lt_move rfl) (aa_p 5 rfl (lt_move rfl) (aa_p 6 rfl (lt_idx rfl rfl pa1510 und23 ti69) (aa_l 7 rfl (lt_load_peek 3 rfl ti69 rfl rfl rfl rfl rfl) (aa_one 8 (aa_op rfl rfl ?_)))))))))
    refine hv_call0 [6, 2] (f84_spec h1512) rfl rfl rfl rfl ?_
    rintro _ _ ⟨rfl, rfl⟩
    refine aa_p 9 rfl (lt_not rfl) ?_
    refine aa_done (by kernel_rfl) (ts_in 0 0 rfl rfl) ?_
    refine at_then ?_
    by_cases h1513 : x1511 = true
    ·replace hr := ipos h1513 hr
     refine at_false rfl (nt h1513) (at_skip (at_in (s_tr (s_mv rfl (at_lt (lt_add rfl rfl (by simp only [lo, hi]; omega)) rfl (s_as rfl (at_nil (at_int .i64 (x1496 + 1 : Int) (by simp only [lo, hi]; omega) ?_))))))))
     exact at_again (σ := Nat) (V := Unit) (lp := fun n s => m48_l1 a0 a1 n s) (S := fun s e => (⟨[(0, w1489), (1, w1490), (5, .int .i64 (s : Int))], [], [], [((Ty.int .i64).fact (s : Int) [.int .i64 (s : Int)]), ((Ty.slice ty69).fact a0 [w1489]), ((Ty.slice ty69).fact a1 [w1490])]⟩ : St)) (x1496 + 1) () hr ⟨⟨rfl, ⟨rfl, ⟨rfl, trivial⟩⟩⟩, ⟨[], rfl⟩, ⟨[], rfl⟩, ⟨[0, 10, 11], rfl⟩⟩
    replace hr := ineg h1513 hr
    refine at_true rfl (nf (bf h1513)) (s_sr (s_as rfl (s_nt (at_ret ?_))))
    have hq := oinj hr
    clear hr
    subst hq
    have hq := oinj hk1499
    clear hk1499
    subst hq
    refine at_in_ret (at_then_ret (at_then_ret (at_in_ret (at_then_ret (at_then_ret ?_)))))
    exact at_return (.bool false) [] hS Tryz.results48 (.cons (.tmp rfl) .nil) rfl rfl ⟨rfl, rfl⟩
   replace hr := ineg h1500 hr
   refine at_false rfl (decide_eq_false (by omega)) ?_
   refine at_exit (at_then_exit (at_then_exit (at_in_exit ?_)))
   have hq := oinj hr
   clear hr
   subst hq
   exact at_leafP ((), ()) rfl ⟨trivial, ⟨[], rfl⟩, ⟨[], rfl⟩, ⟨[], rfl⟩⟩
  rintro ⟨_, _⟩ hp
  replace hr := hk1499
  subst hp
  clear hl1498
  change At _ _ (⟨[], [], [], []⟩ : St) _
  refine s_tsr (s_as rfl (s_nt (at_ret ?_)))
  have hq := oinj hr
  clear hr
  subst hq
  exact at_return (.bool true) [] hS Tryz.results48 (.cons (.tmp rfl) .nil) rfl rfl ⟨rfl, rfl⟩
 replace hr := ineg h1495 hr
 refine at_true rfl (nf (decide_eq_false (by omega))) ?_
 refine s_sr (s_as rfl (s_nt (at_ret ?_)))
 have hq := oinj hr
 clear hr
 subst hq
 refine at_then_ret ?_
 exact at_return (.bool false) [] hS Tryz.results48 (.cons (.tmp rfl) .nil) rfl rfl ⟨rfl, rfl⟩
def m18 (a0 : D_api_Record) (a1 : D_api_Record) : Option Bool :=
  if a0.ID = a1.ID then
   (m48 a0.Fields a1.Fields).bind fun x1521 =>
   some x1521
  else
   some false
def post18 (r : Bool) (v : Value) (fs : List Fact) : Prop := v = .bool r ∧ fs = []
theorem en18 : Enters Tryz.prog 18 := ⟨_, Tryz.func18, by kernel_rfl, rfl⟩
theorem f18_spec {a0 : D_api_Record} {a1 : D_api_Record} {s1514 : Value} {s1515 : Value} {r : Bool} (hr : m18 a0 a1 = some r) : Spec Tryz.prog 18 [.agg #[.int .i64 a0.ID, s1514], .agg #[.int .i64 a1.ID, s1515]] [(ty25.fact a0 [.int .i64 a0.ID, s1514]), (ty25.fact a1 [.int .i64 a1.ID, s1515])] (post18 r) := by
 refine spec_start (N := 17) Tryz.func18 (by kernel_rfl) rfl rfl rfl ?_
 intro g hS
 unfold m18 at hr
 refine at_open (A := Unit) 0 rfl (fun _ => True) (fun _ => [((Ty.int .i64).fact a0.ID [.int .i64 a0.ID]), ((Ty.slice ty69).fact a0.Fields [s1514])]) (fun F w h => ⟨(), trivial, ex25 h⟩) (fun _ _ => ?_)
 refine at_inv 0 rfl (fun l1516 => ?_)
 replace l1516 : (-9223372036854775808) ≤ a0.ID ∧ a0.ID ≤ 9223372036854775807 := l1516
 refine at_open (A := Unit) 3 rfl (fun _ => True) (fun _ => [((Ty.int .i64).fact a1.ID [.int .i64 a1.ID]), ((Ty.slice ty69).fact a1.Fields [s1515])]) (fun F w h => ⟨(), trivial, ex25 h⟩) (fun _ _ => ?_)
 refine at_inv 0 rfl (fun l1517 => ?_)
 replace l1517 : (-9223372036854775808) ≤ a1.ID ∧ a1.ID ≤ 9223372036854775807 := l1517
 refine s_sr (at_hv rfl ?_)
 refine hv_box (cs := [.int .i64 a0.ID, s1514]) rfl rfl rfl (fun b1518 => ?_)
 refine at_hv rfl ?_
 refine hv_box (cs := [.int .i64 a1.ID, s1515]) rfl rfl rfl (fun b1519 => ?_)
 refine s_as rfl (s_ntsr (at_lt (lt_fieldAddr 0 rfl fld25_0 rfl) rfl (at_lt (lt_load_box 1 rfl ti3 rfl rfl rfl rfl rfl) rfl (at_lt (lt_fieldAddr 0 rfl fld25_0 rfl) rfl (at_lt (lt_load_box 0 rfl ti3 rfl rfl rfl rfl rfl) rfl (at_lt (lt_eql rfl rfl) rfl (s_mv rfl ?_)))))))
 by_cases h1520 : a0.ID = a1.ID
 ·replace hr := ipos h1520 hr
  refine at_on rfl rfl (decide_eq_true (by first | exact h1520 | omega)) ?_
  refine at_lt (lt_fieldAddr 1 rfl fld25_1 rfl) rfl ?_
  refine at_on rfl rfl (decide_eq_true (by first | exact h1520 | omega)) ?_
  refine at_lt (lt_load_box 1 rfl ti23 rfl rfl rfl rfl rfl) rfl ?_
  refine at_on rfl rfl (decide_eq_true (by first | exact h1520 | omega)) ?_
  refine at_lt (lt_fieldAddr 1 rfl fld25_1 rfl) rfl ?_
  refine at_on rfl rfl (decide_eq_true (by first | exact h1520 | omega)) ?_
  refine at_lt (lt_load_box 0 rfl ti23 rfl rfl rfl rfl rfl) rfl ?_
  replace hr := obind hr
  obtain ⟨x1521, h1522, hr⟩ := hr
  refine at_on rfl rfl (decide_eq_true (by first | exact h1520 | omega)) ?_
  refine at_hv rfl (hv_call0 [3, 1] (f48_spec h1522) rfl rfl rfl rfl ?_)
  rintro _ _ ⟨rfl, rfl⟩
  refine at_lt (lt_pick true rfl (decide_eq_true (by first | exact h1520 | omega)) rfl) rfl ?_
  refine s_as rfl (s_nt (at_ret ?_))
  have hq := oinj hr
  clear hr
  subst hq
  exact at_return (.bool x1521) [] hS Tryz.results18 (.cons (.tmp rfl) .nil) rfl rfl ⟨rfl, rfl⟩
 replace hr := ineg h1520 hr
 refine at_off rfl rfl (decide_eq_false (by first | exact h1520 | omega)) rfl ?_
 refine at_off rfl rfl (decide_eq_false (by first | exact h1520 | omega)) rfl ?_
 refine at_off rfl rfl (decide_eq_false (by first | exact h1520 | omega)) rfl ?_
 refine at_off rfl rfl (decide_eq_false (by first | exact h1520 | omega)) rfl ?_
 refine at_off rfl rfl (decide_eq_false (by first | exact h1520 | omega)) rfl ?_
 refine at_lt (lt_pick false rfl (decide_eq_false (by first | exact h1520 | omega)) rfl) rfl ?_
 refine s_as rfl (s_nt (at_ret ?_))
 have hq := oinj hr
 clear hr
 subst hq
 exact at_return (.bool false) [] hS Tryz.results18 (.cons (.tmp rfl) .nil) rfl rfl ⟨rfl, rfl⟩
def m21_l2 (a0 : (List D_ref16_Entry)) (a1 : (List D_ref16_Entry)) (x1530 : Nat) : Nat → Nat → Option (Fl (Fl Bool Unit) Unit)
  | 0, _ => none
  | k + 1, x1572 =>
    (a0[x1530]?).bind fun x1576 =>
    if x1572 < x1576.Codes.length then
     (a0[x1530]?).bind fun x1584 =>
     (x1584.Codes[x1572]?).bind fun x1589 =>
     (a1[x1530]?).bind fun x1593 =>
     (x1593.Codes[x1572]?).bind fun x1598 =>
     if (decide (((x1589.From.toNat : Int) : Int) = (x1598.From.toNat : Int)) && decide (((x1589.To.toNat : Int) : Int) = (x1598.To.toNat : Int))) = true then
      m21_l2 a0 a1 x1530 k (x1572 + 1)
     else
      some (Fl.ret (Fl.ret false))
    else
     some (Fl.go ())
def m21_l1 (a0 : (List D_ref16_Entry)) (a1 : (List D_ref16_Entry)) : Nat → Nat → Option (Fl Bool Unit)
  | 0, _ => none
  | k + 1, x1530 =>
    if x1530 < a0.length then
     (a0[x1530]?).bind fun x1535 =>
     (a1[x1530]?).bind fun x1540 =>
     if x1535.From = x1540.From then
      (a0[x1530]?).bind fun x1546 =>
      (a1[x1530]?).bind fun x1551 =>
      if x1546.To = x1551.To then
       (a0[x1530]?).bind fun x1557 =>
       (a1[x1530]?).bind fun x1564 =>
       if x1557.Codes.length = x1564.Codes.length then
        (m21_l2 a0 a1 x1530 9223372036854775808 0).bind fun r => match r with
        | .ret x => some x
        | .go _ =>
         m21_l1 a0 a1 k (x1530 + 1)
       else
        some (Fl.ret false)
      else
       some (Fl.ret false)
     else
      some (Fl.ret false)
    else
     some (Fl.go ())
def m21 (a0 : (List D_ref16_Entry)) (a1 : (List D_ref16_Entry)) : Option Bool :=
  if a0.length = a1.length then
   (m21_l1 a0 a1 (a0.length + 1) 0).bind fun r => match r with
   | .ret x => some x
   | .go _ =>
    some true
  else
   some false
def post21 (r : Bool) (v : Value) (fs : List Fact) : Prop := v = .bool r ∧ fs = []
theorem en21 : Enters Tryz.prog 21 := ⟨_, Tryz.func21, by kernel_rfl, rfl⟩
theorem f21_spec {a0 : (List D_ref16_Entry)} {a1 : (List D_ref16_Entry)} {w1523 : Value} {w1524 : Value} {r : Bool} (hr : m21 a0 a1 = some r) : Spec Tryz.prog 21 [w1523, w1524] [((Ty.slice ty50).fact a0 [w1523]), ((Ty.slice ty50).fact a1 [w1524])] (post21 r) := by
 refine spec_start (N := 84) Tryz.func21 (by kernel_rfl) rfl rfl rfl ?_
 intro g hS
 unfold m21 at hr
 refine s_sr (s_as rfl (s_nt (at_seq (s_sr (s_mv rfl ?_)))))
 refine at_inv 0 rfl (fun i1525 => ?_)
 have l1526 := slice_len i1525
 refine at_lt (lt_flen 0 rfl rfl und22) rfl (s_mv rfl ?_)
 refine at_inv 1 rfl (fun i1527 => ?_)
 have l1528 := slice_len i1527
 refine at_lt (lt_flen 1 rfl rfl und22) rfl (at_lt (lt_neq rfl rfl) rfl (s_nt ?_))
 by_cases h1529 : a0.length = a1.length
 ·replace hr := ipos h1529 hr
  refine at_false rfl (nt (decide_eq_true (by omega))) ?_
  refine at_skip (at_then (at_seq (s_sr (s_as rfl (s_nt (at_int .i64 0 (by simp only [lo, hi]; omega) ?_))))))
  replace hr := obind hr
  obtain ⟨r1531, hl1532, hk1533⟩ := hr
  refine at_cutP (V := (Unit) × (Unit)) (fun v => r1531 = Fl.go v.1) (fun v => (⟨[], [], [], []⟩ : St)) ?_ ?_
  ·refine at_block ?_
   refine at_loopW (σ := Nat) (V := Unit) (r := r1531) (fun n s => m21_l1 a0 a1 n s) (fun s e => (⟨[(0, w1523), (1, w1524), (5, .int .i64 (s : Int))], [], [], [((Ty.int .i64).fact (s : Int) [.int .i64 (s : Int)]), ((Ty.slice ty50).fact a0 [w1523]), ((Ty.slice ty50).fact a1 [w1524])]⟩ : St)) (fun _ => rfl) _ 0 () hl1532 ⟨⟨rfl, ⟨rfl, ⟨rfl, trivial⟩⟩⟩, ⟨[], rfl⟩, ⟨[], rfl⟩, ⟨[0, 1, 2], rfl⟩⟩ ?_
   clear hl1532
   intro n x1530 hr e
   skip
   skip
   change m21_l1 a0 a1 (n + 1) x1530 = some r1531 at hr
   change At _ _ (⟨[(0, w1523), (1, w1524), (5, .int .i64 (x1530 : Int))], [], [], [((Ty.int .i64).fact (x1530 : Int) [.int .i64 (x1530 : Int)]), ((Ty.slice ty50).fact a0 [w1523]), ((Ty.slice ty50).fact a1 [w1524])]⟩ : St) _
   rw [m21_l1] at hr
   refine at_seq (s_sr (s_mv rfl (s_mv rfl (at_lt (lt_flen 1 rfl rfl und22) rfl (at_lt (lt_lss rfl rfl) rfl (s_nt ?_))))))
   by_cases h1534 : x1530 < a0.length
   ·replace hr := ipos h1534 hr
    refine at_true rfl (decide_eq_true (by omega)) ?_
    refine at_skip (at_then (at_seq (at_block (at_seq (at_seq ?_)))))
    replace hr := obind hr
    obtain ⟨x1535, h1536, hr⟩ := hr
    have := (List.getElem?_eq_some_iff.1 h1536).1
    refine at_elem 1 rfl (nat_at' h1536) (fun p1538 ec pa1539 => ?_)
    refine at_open (A := Value) 0 rfl _ _ (fun F w h => op50 h) ?_
    rintro s1537 rfl
    replace hr := obind hr
    obtain ⟨x1540, h1541, hr⟩ := hr
    have := (List.getElem?_eq_some_iff.1 h1541).1
    refine at_elem 7 rfl (nat_at' h1541) (fun p1543 ec pa1544 => ?_)
    refine at_open (A := Value) 0 rfl _ _ (fun F w h => op50 h) ?_
    rintro s1542 rfl
    by_cases h1545 : x1535.From = x1540.From
    ·replace hr := ipos h1545 hr
     replace hr := obind hr
     obtain ⟨x1546, h1547, hr⟩ := hr
     have := (List.getElem?_eq_some_iff.1 h1547).1
     refine at_elem 11 rfl (nat_at' h1547) (fun p1549 ec pa1550 => ?_)
     refine at_open (A := Value) 0 rfl _ _ (fun F w h => op50 h) ?_
     rintro s1548 rfl
     replace hr := obind hr
     obtain ⟨x1551, h1552, hr⟩ := hr
     have := (List.getElem?_eq_some_iff.1 h1552).1
     refine at_elem 17 rfl (nat_at' h1552) (fun p1554 ec pa1555 => ?_)
     refine at_open (A := Value) 0 rfl _ _ (fun F w h => op50 h) ?_
     rintro s1553 rfl
     by_cases h1556 : x1546.To = x1551.To
     ·replace hr := ipos h1556 hr
      replace hr := obind hr
      obtain ⟨x1557, h1558, hr⟩ := hr
      have := (List.getElem?_eq_some_iff.1 h1558).1
      refine at_elem 21 rfl (nat_at' h1558) (fun p1560 ec pa1561 => ?_)
      refine at_open (A := Value) 0 rfl _ _ (fun F w h => op50 h) ?_
      rintro s1559 rfl
      refine at_inv 2 rfl (fun i1562 => ?_)
      have l1563 := slice_len i1562
      replace hr := obind hr
      obtain ⟨x1564, h1565, hr⟩ := hr
      have := (List.getElem?_eq_some_iff.1 h1565).1
      refine at_elem 27 rfl (nat_at' h1565) (fun p1567 ec pa1568 => ?_)
      refine at_open (A := Value) 0 rfl _ _ (fun F w h => op50 h) ?_
      rintro s1566 rfl
      refine at_inv 2 rfl (fun i1569 => ?_)
      have l1570 := slice_len i1569
      refine aa_start 39 (by kernel_rfl) ?_
      refine aa_p 0 rfl (lt_move rfl) (aa_p 1 rfl (lt_move rfl) (aa_p 2 rfl (lt_idx rfl rfl pa1539 und22 ti50) (aa_p 3 rfl (lt_fieldAddr 0 rfl fld50_0 rfl) (aa_l 4 rfl (lt_load_peek 29 rfl ti9 rfl rfl rfl rfl rfl) (aa_p 5 rfl (lt_move rfl) (aa_p 6 rfl (lt_move rfl) (aa_p 7 rfl (lt_idx rfl rfl pa1544 und22 ti50) (aa_p 8 rfl (lt_fieldAddr 0 rfl fld50_0 rfl) (aa_l 9 rfl (lt_load_peek 24 rfl ti9 rfl rfl rfl rfl rfl) ?_)))))))))
      refine aa_p 10 rfl (lt_sneq rfl rfl) (aa_p 11 rfl (lt_move rfl) ?_)
      refine aa_pg 12 rfl ⟨29, rfl, .inl ⟨_, rfl, gdq (v := false) (nt (decide_eq_true h1545)) rfl⟩⟩ (lt_move rfl) ?_
      refine aa_pg 13 rfl ⟨29, rfl, .inl ⟨_, rfl, gdq (v := false) (nt (decide_eq_true h1545)) rfl⟩⟩ (lt_move rfl) ?_
      refine aa_pg 14 rfl ⟨29, rfl, .inl ⟨_, rfl, gdq (v := false) (nt (decide_eq_true h1545)) rfl⟩⟩ (lt_idx rfl rfl pa1550 und22 ti50) ?_
      refine aa_pg 15 rfl ⟨29, rfl, .inl ⟨_, rfl, gdq (v := false) (nt (decide_eq_true h1545)) rfl⟩⟩ (lt_fieldAddr 1 rfl fld50_1 rfl) ?_
      refine aa_lg 16 rfl ⟨29, rfl, .inl ⟨_, rfl, gdq (v := false) (nt (decide_eq_true h1545)) rfl⟩⟩ (lt_load_peek 19 rfl ti9 rfl rfl rfl rfl rfl) ?_
      refine aa_pg 17 rfl ⟨29, rfl, .inl ⟨_, rfl, gdq (v := false) (nt (decide_eq_true h1545)) rfl⟩⟩ (lt_move rfl) ?_
      refine aa_pg 18 rfl ⟨29, rfl, .inl ⟨_, rfl, gdq (v := false) (nt (decide_eq_true h1545)) rfl⟩⟩ (lt_move rfl) ?_
      refine aa_pg 19 rfl ⟨29, rfl, .inl ⟨_, rfl, gdq (v := false) (nt (decide_eq_true h1545)) rfl⟩⟩ (lt_idx rfl rfl pa1555 und22 ti50) ?_
      refine aa_pg 20 rfl ⟨29, rfl, .inl ⟨_, rfl, gdq (v := false) (nt (decide_eq_true h1545)) rfl⟩⟩ (lt_fieldAddr 1 rfl fld50_1 rfl) ?_
      refine aa_lg 21 rfl ⟨29, rfl, .inl ⟨_, rfl, gdq (v := false) (nt (decide_eq_true h1545)) rfl⟩⟩ (lt_load_peek 14 rfl ti9 rfl rfl rfl rfl rfl) ?_
      refine aa_pg 22 rfl ⟨29, rfl, .inl ⟨_, rfl, gdq (v := false) (nt (decide_eq_true h1545)) rfl⟩⟩ (lt_sneq rfl rfl) ?_
      refine aa_p 23 rfl (lt_pick false rfl (nt (decide_eq_true h1545)) rfl) (aa_p 24 rfl (lt_move rfl) ?_)
      refine aa_pg 25 rfl ⟨42, rfl, .inl ⟨_, rfl, gdq (v := false) (nt (decide_eq_true h1556)) rfl⟩⟩ (lt_move rfl) ?_
      refine aa_pg 26 rfl ⟨42, rfl, .inl ⟨_, rfl, gdq (v := false) (nt (decide_eq_true h1556)) rfl⟩⟩ (lt_move rfl) ?_
      refine aa_pg 27 rfl ⟨42, rfl, .inl ⟨_, rfl, gdq (v := false) (nt (decide_eq_true h1556)) rfl⟩⟩ (lt_idx rfl rfl pa1561 und22 ti50) ?_
      refine aa_pg 28 rfl ⟨42, rfl, .inl ⟨_, rfl, gdq (v := false) (nt (decide_eq_true h1556)) rfl⟩⟩ (lt_fieldAddr 2 rfl fld50_2 rfl) ?_
      refine aa_lg 29 rfl ⟨42, rfl, .inl ⟨_, rfl, gdq (v := false) (nt (decide_eq_true h1556)) rfl⟩⟩ (lt_load_peek 9 rfl ti48 rfl rfl rfl rfl rfl) ?_
      refine aa_lg 30 rfl ⟨42, rfl, .inl ⟨_, rfl, gdq (v := false) (nt (decide_eq_true h1556)) rfl⟩⟩ (lt_flen 7 rfl rfl und48) ?_
      refine aa_pg 31 rfl ⟨42, rfl, .inl ⟨_, rfl, gdq (v := false) (nt (decide_eq_true h1556)) rfl⟩⟩ (lt_move rfl) ?_
      refine aa_pg 32 rfl ⟨42, rfl, .inl ⟨_, rfl, gdq (v := false) (nt (decide_eq_true h1556)) rfl⟩⟩ (lt_move rfl) ?_
      refine aa_pg 33 rfl ⟨42, rfl, .inl ⟨_, rfl, gdq (v := false) (nt (decide_eq_true h1556)) rfl⟩⟩ (lt_idx rfl rfl pa1568 und22 ti50) ?_
      refine aa_pg 34 rfl ⟨42, rfl, .inl ⟨_, rfl, gdq (v := false) (nt (decide_eq_true h1556)) rfl⟩⟩ (lt_fieldAddr 2 rfl fld50_2 rfl) ?_
      refine aa_lg 35 rfl ⟨42, rfl, .inl ⟨_, rfl, gdq (v := false) (nt (decide_eq_true h1556)) rfl⟩⟩ (lt_load_peek 4 rfl ti48 rfl rfl rfl rfl rfl) ?_
      refine aa_lg 36 rfl ⟨42, rfl, .inl ⟨_, rfl, gdq (v := false) (nt (decide_eq_true h1556)) rfl⟩⟩ (lt_flen 2 rfl rfl und48) ?_
      refine aa_pg 37 rfl ⟨42, rfl, .inl ⟨_, rfl, gdq (v := false) (nt (decide_eq_true h1556)) rfl⟩⟩ (lt_neq rfl rfl) ?_
      refine aa_p 38 rfl (lt_pick false rfl (nt (decide_eq_true h1556)) rfl) ?_
      refine aa_done (by kernel_rfl) (ts_in 0 0 rfl rfl) ?_
      refine at_then ?_
      by_cases h1571 : x1557.Codes.length = x1564.Codes.length
      ·replace hr := ipos h1571 hr
       refine at_false rfl (nt (decide_eq_true (by omega))) ?_
       refine at_skip (s_tsr (s_as rfl (s_nt (at_int .i64 0 (by simp only [lo, hi]; omega) ?_))))
       replace hr := obind hr
       obtain ⟨r1573, hl1574, hk1575⟩ := hr
       refine at_cutP (V := (Unit) × (Unit)) (fun v => r1573 = Fl.go v.1) (fun v => (⟨[(0, w1523), (1, w1524), (5, .int .i64 (x1530 : Int))], [], [], [((Ty.slice ty50).fact a0 [w1523]), ((Ty.slice ty50).fact a1 [w1524]), ((Ty.int .i64).fact (x1530 : Int) [.int .i64 (x1530 : Int)])]⟩ : St)) ?_ ?_
       ·refine at_block ?_
        refine at_loopW (σ := Nat) (V := Unit) (r := r1573) (fun n s => m21_l2 a0 a1 x1530 n s) (fun s e => (⟨[(0, w1523), (1, w1524), (5, .int .i64 (x1530 : Int)), (6, .int .i64 (s : Int))], [], [], [((Ty.int .i64).fact (s : Int) [.int .i64 (s : Int)]), ((Ty.slice ty50).fact a0 [w1523]), ((Ty.slice ty50).fact a1 [w1524]), ((Ty.int .i64).fact (x1530 : Int) [.int .i64 (x1530 : Int)])]⟩ : St)) (fun _ => rfl) _ 0 () hl1574 ⟨⟨rfl, ⟨rfl, ⟨rfl, ⟨rfl, trivial⟩⟩⟩⟩, ⟨[], rfl⟩, ⟨[], rfl⟩, ⟨[0, 32, 33, 31], rfl⟩⟩ ?_
        clear hl1574
        intro n x1572 hr e
        skip
        skip
        change m21_l2 a0 a1 x1530 (n + 1) x1572 = some r1573 at hr
        change At _ _ (⟨[(0, w1523), (1, w1524), (5, .int .i64 (x1530 : Int)), (6, .int .i64 (x1572 : Int))], [], [], [((Ty.int .i64).fact (x1572 : Int) [.int .i64 (x1572 : Int)]), ((Ty.slice ty50).fact a0 [w1523]), ((Ty.slice ty50).fact a1 [w1524]), ((Ty.int .i64).fact (x1530 : Int) [.int .i64 (x1530 : Int)])]⟩ : St) _
        rw [m21_l2] at hr
        refine at_seq (s_sr (s_mv rfl (s_mv rfl (s_mv rfl ?_))))
        replace hr := obind hr
        obtain ⟨x1576, h1577, hr⟩ := hr
        have := (List.getElem?_eq_some_iff.1 h1577).1
        refine at_elem 1 rfl (nat_at' h1577) (fun p1579 ec pa1580 => ?_)
        refine at_open (A := Value) 0 rfl _ _ (fun F w h => op50 h) ?_
        rintro s1578 rfl
        refine at_lt (lt_idx rfl rfl pa1580 und22 ti50) rfl (at_lt (lt_fieldAddr 2 rfl fld50_2 rfl) rfl (at_lt (lt_load_peek 4 rfl ti48 rfl rfl rfl rfl rfl) rfl ?_))
        refine at_inv 2 rfl (fun i1581 => ?_)
        have l1582 := slice_len i1581
        refine at_lt (lt_flen 2 rfl rfl und48) rfl (at_lt (lt_lss rfl rfl) rfl (s_nt ?_))
        by_cases h1583 : x1572 < x1576.Codes.length
        ·replace hr := ipos h1583 hr
         refine at_true rfl (decide_eq_true (by omega)) ?_
         refine at_skip (at_then (at_seq (at_block (at_seq ?_))))
         replace hr := obind hr
         obtain ⟨x1584, h1585, hr⟩ := hr
         have := (List.getElem?_eq_some_iff.1 h1585).1
         refine at_elem 6 rfl (nat_at' h1585) (fun p1587 ec pa1588 => ?_)
         refine at_open (A := Value) 0 rfl _ _ (fun F w h => op50 h) ?_
         rintro s1586 rfl
         replace hr := obind hr
         obtain ⟨x1589, h1590, hr⟩ := hr
         have := (List.getElem?_eq_some_iff.1 h1590).1
         refine at_elem 2 rfl (nat_at' h1590) (fun p1591 ec pa1592 => ?_)
         refine at_open (A := Unit) 0 rfl _ _ (fun F w h => op83 h) ?_
         rintro _ rfl
         replace hr := obind hr
         obtain ⟨x1593, h1594, hr⟩ := hr
         have := (List.getElem?_eq_some_iff.1 h1594).1
         refine at_elem 14 rfl (nat_at' h1594) (fun p1596 ec pa1597 => ?_)
         refine at_open (A := Value) 0 rfl _ _ (fun F w h => op50 h) ?_
         rintro s1595 rfl
         replace hr := obind hr
         obtain ⟨x1598, h1599, hr⟩ := hr
         have := (List.getElem?_eq_some_iff.1 h1599).1
         refine at_elem 2 rfl (nat_at' h1599) (fun p1600 ec pa1601 => ?_)
         refine at_open (A := Unit) 0 rfl _ _ (fun F w h => op83 h) ?_
         rintro _ rfl
         refine aa_start 17 (by kernel_rfl) ?_
         refine aa_p 0 rfl (lt_move rfl) (aa_p 1 rfl (lt_move rfl) (aa_p 2 rfl (lt_idx rfl rfl pa1588 und22 ti50) (aa_p 3 rfl (lt_fieldAddr 2 rfl fld50_2 rfl) (aa_l 4 rfl (lt_load_peek 13 rfl ti48 rfl rfl rfl rfl rfl) (aa_p 5 rfl (lt_move rfl) (aa_p 6 rfl (lt_idx rfl rfl pa1592 und48 ti83) (aa_l 7 rfl (lt_load_peek 8 rfl ti83 rfl rfl rfl rfl rfl) (aa_p 8 rfl (lt_move rfl) (aa_p 9 rfl (lt_move rfl) ?_)))))))))
         refine aa_p 10 rfl (lt_idx rfl rfl pa1597 und22 ti50) (aa_p 11 rfl (lt_fieldAddr 2 rfl fld50_2 rfl) (aa_l 12 rfl (lt_load_peek 6 rfl ti48 rfl rfl rfl rfl rfl) (aa_p 13 rfl (lt_move rfl) (aa_p 14 rfl (lt_idx rfl rfl pa1601 und48 ti83) (aa_l 15 rfl (lt_load_peek 1 rfl ti83 rfl rfl rfl rfl rfl) (aa_p 16 rfl (lt_stne rfl rfl eg83 eqt83) ?_))))))
         refine aa_done (by kernel_rfl) (ts_in 0 0 rfl rfl) ?_
         refine at_then ?_
         by_cases h1602 : (decide (((x1589.From.toNat : Int) : Int) = (x1598.From.toNat : Int)) && decide (((x1589.To.toNat : Int) : Int) = (x1598.To.toNat : Int))) = true
         ·replace hr := ipos h1602 hr
          refine at_false rfl (nt h1602) (at_skip (at_in (s_tr (s_mv rfl (at_lt (lt_add rfl rfl (by simp only [lo, hi]; omega)) rfl (s_as rfl (at_nil (at_int .i64 (x1572 + 1 : Int) (by simp only [lo, hi]; omega) ?_))))))))
          exact at_again (σ := Nat) (V := Unit) (lp := fun n s => m21_l2 a0 a1 x1530 n s) (S := fun s e => (⟨[(0, w1523), (1, w1524), (5, .int .i64 (x1530 : Int)), (6, .int .i64 (s : Int))], [], [], [((Ty.int .i64).fact (s : Int) [.int .i64 (s : Int)]), ((Ty.slice ty50).fact a0 [w1523]), ((Ty.slice ty50).fact a1 [w1524]), ((Ty.int .i64).fact (x1530 : Int) [.int .i64 (x1530 : Int)])]⟩ : St)) (x1572 + 1) () hr ⟨⟨rfl, ⟨rfl, ⟨rfl, ⟨rfl, trivial⟩⟩⟩⟩, ⟨[], rfl⟩, ⟨[], rfl⟩, ⟨[0, 21, 22, 23], rfl⟩⟩
         replace hr := ineg h1602 hr
         refine at_true rfl (nf (bf h1602)) (s_sr (s_as rfl (s_nt (at_ret ?_))))
         have hq := oinj hr
         clear hr
         subst hq
         have hq := oinj hk1575
         clear hk1575
         subst hq
         have hq := oinj hk1533
         clear hk1533
         subst hq
         refine at_in_ret (at_then_ret (at_then_ret (at_in_ret (at_then_ret (at_in_ret (at_then_ret (at_then_ret (at_in_ret (at_then_ret ?_)))))))))
         refine at_then_ret ?_
         exact at_return (.bool false) [] hS Tryz.results21 (.cons (.tmp rfl) .nil) rfl rfl ⟨rfl, rfl⟩
        replace hr := ineg h1583 hr
        refine at_false rfl (decide_eq_false (by omega)) ?_
        refine at_exit (at_then_exit (at_then_exit (at_in_exit ?_)))
        have hq := oinj hr
        clear hr
        subst hq
        exact at_leafP ((), ()) rfl ⟨⟨rfl, ⟨rfl, ⟨rfl, trivial⟩⟩⟩, ⟨[], rfl⟩, ⟨[], rfl⟩, ⟨[6, 7, 8], rfl⟩⟩
       rintro ⟨_, _⟩ hp
       replace hr := hk1575
       subst hp
       clear hl1574
       change At _ _ (⟨[(0, w1523), (1, w1524), (5, .int .i64 (x1530 : Int))], [], [], [((Ty.slice ty50).fact a0 [w1523]), ((Ty.slice ty50).fact a1 [w1524]), ((Ty.int .i64).fact (x1530 : Int) [.int .i64 (x1530 : Int)])]⟩ : St) _
       refine at_in (s_tr (s_mv rfl (at_lt (lt_add rfl rfl (by simp only [lo, hi]; omega)) rfl (s_as rfl (at_nil (at_int .i64 (x1530 + 1 : Int) (by simp only [lo, hi]; omega) ?_))))))
       exact at_again (σ := Nat) (V := Unit) (lp := fun n s => m21_l1 a0 a1 n s) (S := fun s e => (⟨[(0, w1523), (1, w1524), (5, .int .i64 (s : Int))], [], [], [((Ty.int .i64).fact (s : Int) [.int .i64 (s : Int)]), ((Ty.slice ty50).fact a0 [w1523]), ((Ty.slice ty50).fact a1 [w1524])]⟩ : St)) (x1530 + 1) () hr ⟨⟨rfl, ⟨rfl, ⟨rfl, trivial⟩⟩⟩, ⟨[], rfl⟩, ⟨[], rfl⟩, ⟨[0, 1, 2], rfl⟩⟩
      replace hr := ineg h1571 hr
      refine at_true rfl (nf (decide_eq_false (by omega))) ?_
      refine s_sr (s_as rfl (s_nt (at_ret ?_)))
      have hq := oinj hr
      clear hr
      subst hq
      have hq := oinj hk1533
      clear hk1533
      subst hq
      refine at_then_ret (at_in_ret (at_then_ret (at_then_ret (at_in_ret (at_then_ret (at_then_ret ?_))))))
      exact at_return (.bool false) [] hS Tryz.results21 (.cons (.tmp rfl) .nil) rfl rfl ⟨rfl, rfl⟩
     replace hr := ineg h1556 hr
     refine aa_start 39 (by kernel_rfl) ?_
     refine aa_p 0 rfl (lt_move rfl) (aa_p 1 rfl (lt_move rfl) (aa_p 2 rfl (lt_idx rfl rfl pa1539 und22 ti50) (aa_p 3 rfl (lt_fieldAddr 0 rfl fld50_0 rfl) (aa_l 4 rfl (lt_load_peek 19 rfl ti9 rfl rfl rfl rfl rfl) (aa_p 5 rfl (lt_move rfl) (aa_p 6 rfl (lt_move rfl) (aa_p 7 rfl (lt_idx rfl rfl pa1544 und22 ti50) (aa_p 8 rfl (lt_fieldAddr 0 rfl fld50_0 rfl) (aa_l 9 rfl (lt_load_peek 14 rfl ti9 rfl rfl rfl rfl rfl) ?_)))))))))
     refine aa_p 10 rfl (lt_sneq rfl rfl) (aa_p 11 rfl (lt_move rfl) ?_)
     refine aa_pg 12 rfl ⟨29, rfl, .inl ⟨_, rfl, gdq (v := false) (nt (decide_eq_true h1545)) rfl⟩⟩ (lt_move rfl) ?_
     refine aa_pg 13 rfl ⟨29, rfl, .inl ⟨_, rfl, gdq (v := false) (nt (decide_eq_true h1545)) rfl⟩⟩ (lt_move rfl) ?_
     refine aa_pg 14 rfl ⟨29, rfl, .inl ⟨_, rfl, gdq (v := false) (nt (decide_eq_true h1545)) rfl⟩⟩ (lt_idx rfl rfl pa1550 und22 ti50) ?_
     refine aa_pg 15 rfl ⟨29, rfl, .inl ⟨_, rfl, gdq (v := false) (nt (decide_eq_true h1545)) rfl⟩⟩ (lt_fieldAddr 1 rfl fld50_1 rfl) ?_
     refine aa_lg 16 rfl ⟨29, rfl, .inl ⟨_, rfl, gdq (v := false) (nt (decide_eq_true h1545)) rfl⟩⟩ (lt_load_peek 9 rfl ti9 rfl rfl rfl rfl rfl) ?_
     refine aa_pg 17 rfl ⟨29, rfl, .inl ⟨_, rfl, gdq (v := false) (nt (decide_eq_true h1545)) rfl⟩⟩ (lt_move rfl) ?_
     refine aa_pg 18 rfl ⟨29, rfl, .inl ⟨_, rfl, gdq (v := false) (nt (decide_eq_true h1545)) rfl⟩⟩ (lt_move rfl) ?_
     refine aa_pg 19 rfl ⟨29, rfl, .inl ⟨_, rfl, gdq (v := false) (nt (decide_eq_true h1545)) rfl⟩⟩ (lt_idx rfl rfl pa1555 und22 ti50) ?_
     refine aa_pg 20 rfl ⟨29, rfl, .inl ⟨_, rfl, gdq (v := false) (nt (decide_eq_true h1545)) rfl⟩⟩ (lt_fieldAddr 1 rfl fld50_1 rfl) ?_
     refine aa_lg 21 rfl ⟨29, rfl, .inl ⟨_, rfl, gdq (v := false) (nt (decide_eq_true h1545)) rfl⟩⟩ (lt_load_peek 4 rfl ti9 rfl rfl rfl rfl rfl) ?_
     refine aa_pg 22 rfl ⟨29, rfl, .inl ⟨_, rfl, gdq (v := false) (nt (decide_eq_true h1545)) rfl⟩⟩ (lt_sneq rfl rfl) ?_
     refine aa_p 23 rfl (lt_pick false rfl (nt (decide_eq_true h1545)) rfl) (aa_p 24 rfl (lt_move rfl) ?_)
     refine aa_o 25 rfl ⟨42, rfl, .inl ⟨_, rfl, gdq (v := true) (nf (decide_eq_false h1556)) rfl⟩⟩ ?_
     refine aa_o 26 rfl ⟨42, rfl, .inl ⟨_, rfl, gdq (v := true) (nf (decide_eq_false h1556)) rfl⟩⟩ ?_
     refine aa_o 27 rfl ⟨42, rfl, .inl ⟨_, rfl, gdq (v := true) (nf (decide_eq_false h1556)) rfl⟩⟩ ?_
     refine aa_o 28 rfl ⟨42, rfl, .inl ⟨_, rfl, gdq (v := true) (nf (decide_eq_false h1556)) rfl⟩⟩ ?_
     refine aa_o 29 rfl ⟨42, rfl, .inl ⟨_, rfl, gdq (v := true) (nf (decide_eq_false h1556)) rfl⟩⟩ ?_
     refine aa_o 30 rfl ⟨42, rfl, .inl ⟨_, rfl, gdq (v := true) (nf (decide_eq_false h1556)) rfl⟩⟩ ?_
     refine aa_o 31 rfl ⟨42, rfl, .inl ⟨_, rfl, gdq (v := true) (nf (decide_eq_false h1556)) rfl⟩⟩ ?_
     refine aa_o 32 rfl ⟨42, rfl, .inl ⟨_, rfl, gdq (v := true) (nf (decide_eq_false h1556)) rfl⟩⟩ ?_
     refine aa_o 33 rfl ⟨42, rfl, .inl ⟨_, rfl, gdq (v := true) (nf (decide_eq_false h1556)) rfl⟩⟩ ?_
     refine aa_o 34 rfl ⟨42, rfl, .inl ⟨_, rfl, gdq (v := true) (nf (decide_eq_false h1556)) rfl⟩⟩ ?_
     refine aa_o 35 rfl ⟨42, rfl, .inl ⟨_, rfl, gdq (v := true) (nf (decide_eq_false h1556)) rfl⟩⟩ ?_
     refine aa_o 36 rfl ⟨42, rfl, .inl ⟨_, rfl, gdq (v := true) (nf (decide_eq_false h1556)) rfl⟩⟩ ?_
     refine aa_o 37 rfl ⟨42, rfl, .inl ⟨_, rfl, gdq (v := true) (nf (decide_eq_false h1556)) rfl⟩⟩ ?_
     refine aa_p 38 rfl (lt_pick true rfl (nf (decide_eq_false h1556)) rfl) ?_
     refine aa_done (by kernel_rfl) (ts_in 0 0 rfl rfl) ?_
     refine at_then (at_true rfl rfl (s_sr (s_as rfl (s_nt (at_ret ?_)))))
     have hq := oinj hr
     clear hr
     subst hq
     have hq := oinj hk1533
     clear hk1533
     subst hq
     refine at_then_ret (at_in_ret (at_then_ret (at_then_ret (at_in_ret (at_then_ret (at_then_ret ?_))))))
     exact at_return (.bool false) [] hS Tryz.results21 (.cons (.tmp rfl) .nil) rfl rfl ⟨rfl, rfl⟩
    replace hr := ineg h1545 hr
    refine aa_start 39 (by kernel_rfl) ?_
    refine aa_p 0 rfl (lt_move rfl) (aa_p 1 rfl (lt_move rfl) (aa_p 2 rfl (lt_idx rfl rfl pa1539 und22 ti50) (aa_p 3 rfl (lt_fieldAddr 0 rfl fld50_0 rfl) (aa_l 4 rfl (lt_load_peek 9 rfl ti9 rfl rfl rfl rfl rfl) (aa_p 5 rfl (lt_move rfl) (aa_p 6 rfl (lt_move rfl) (aa_p 7 rfl (lt_idx rfl rfl pa1544 und22 ti50) (aa_p 8 rfl (lt_fieldAddr 0 rfl fld50_0 rfl) (aa_l 9 rfl (lt_load_peek 4 rfl ti9 rfl rfl rfl rfl rfl) ?_)))))))))
    refine aa_p 10 rfl (lt_sneq rfl rfl) (aa_p 11 rfl (lt_move rfl) ?_)
    refine aa_o 12 rfl ⟨29, rfl, .inl ⟨_, rfl, gdq (v := true) (nf (decide_eq_false h1545)) rfl⟩⟩ ?_
    refine aa_o 13 rfl ⟨29, rfl, .inl ⟨_, rfl, gdq (v := true) (nf (decide_eq_false h1545)) rfl⟩⟩ ?_
    refine aa_o 14 rfl ⟨29, rfl, .inl ⟨_, rfl, gdq (v := true) (nf (decide_eq_false h1545)) rfl⟩⟩ ?_
    refine aa_o 15 rfl ⟨29, rfl, .inl ⟨_, rfl, gdq (v := true) (nf (decide_eq_false h1545)) rfl⟩⟩ ?_
    refine aa_o 16 rfl ⟨29, rfl, .inl ⟨_, rfl, gdq (v := true) (nf (decide_eq_false h1545)) rfl⟩⟩ ?_
    refine aa_o 17 rfl ⟨29, rfl, .inl ⟨_, rfl, gdq (v := true) (nf (decide_eq_false h1545)) rfl⟩⟩ ?_
    refine aa_o 18 rfl ⟨29, rfl, .inl ⟨_, rfl, gdq (v := true) (nf (decide_eq_false h1545)) rfl⟩⟩ ?_
    refine aa_o 19 rfl ⟨29, rfl, .inl ⟨_, rfl, gdq (v := true) (nf (decide_eq_false h1545)) rfl⟩⟩ ?_
    refine aa_o 20 rfl ⟨29, rfl, .inl ⟨_, rfl, gdq (v := true) (nf (decide_eq_false h1545)) rfl⟩⟩ ?_
    refine aa_o 21 rfl ⟨29, rfl, .inl ⟨_, rfl, gdq (v := true) (nf (decide_eq_false h1545)) rfl⟩⟩ ?_
    refine aa_o 22 rfl ⟨29, rfl, .inl ⟨_, rfl, gdq (v := true) (nf (decide_eq_false h1545)) rfl⟩⟩ ?_
    refine aa_p 23 rfl (lt_pick true rfl (nf (decide_eq_false h1545)) rfl) (aa_p 24 rfl (lt_move rfl) ?_)
    refine aa_o 25 rfl ⟨42, rfl, .inl ⟨_, rfl, gdq (v := true) rfl rfl⟩⟩ ?_
    refine aa_o 26 rfl ⟨42, rfl, .inl ⟨_, rfl, gdq (v := true) rfl rfl⟩⟩ ?_
    refine aa_o 27 rfl ⟨42, rfl, .inl ⟨_, rfl, gdq (v := true) rfl rfl⟩⟩ ?_
    refine aa_o 28 rfl ⟨42, rfl, .inl ⟨_, rfl, gdq (v := true) rfl rfl⟩⟩ ?_
    refine aa_o 29 rfl ⟨42, rfl, .inl ⟨_, rfl, gdq (v := true) rfl rfl⟩⟩ ?_
    refine aa_o 30 rfl ⟨42, rfl, .inl ⟨_, rfl, gdq (v := true) rfl rfl⟩⟩ ?_
    refine aa_o 31 rfl ⟨42, rfl, .inl ⟨_, rfl, gdq (v := true) rfl rfl⟩⟩ ?_
    refine aa_o 32 rfl ⟨42, rfl, .inl ⟨_, rfl, gdq (v := true) rfl rfl⟩⟩ ?_
    refine aa_o 33 rfl ⟨42, rfl, .inl ⟨_, rfl, gdq (v := true) rfl rfl⟩⟩ ?_
    refine aa_o 34 rfl ⟨42, rfl, .inl ⟨_, rfl, gdq (v := true) rfl rfl⟩⟩ ?_
    refine aa_o 35 rfl ⟨42, rfl, .inl ⟨_, rfl, gdq (v := true) rfl rfl⟩⟩ ?_
    refine aa_o 36 rfl ⟨42, rfl, .inl ⟨_, rfl, gdq (v := true) rfl rfl⟩⟩ ?_
    refine aa_o 37 rfl ⟨42, rfl, .inl ⟨_, rfl, gdq (v := true) rfl rfl⟩⟩ ?_
    refine aa_p 38 rfl (lt_pick true rfl rfl rfl) ?_
    refine aa_done (by kernel_rfl) (ts_in 0 0 rfl rfl) ?_
    refine at_then (at_true rfl rfl (s_sr (s_as rfl (s_nt (at_ret ?_)))))
    have hq := oinj hr
    clear hr
    subst hq
    have hq := oinj hk1533
    clear hk1533
    subst hq
    refine at_then_ret (at_in_ret (at_then_ret (at_then_ret (at_in_ret (at_then_ret (at_then_ret ?_))))))
    exact at_return (.bool false) [] hS Tryz.results21 (.cons (.tmp rfl) .nil) rfl rfl ⟨rfl, rfl⟩
   replace hr := ineg h1534 hr
   refine at_false rfl (decide_eq_false (by omega)) ?_
   refine at_exit (at_then_exit (at_then_exit (at_in_exit ?_)))
   have hq := oinj hr
   clear hr
   subst hq
   exact at_leafP ((), ()) rfl ⟨trivial, ⟨[], rfl⟩, ⟨[], rfl⟩, ⟨[], rfl⟩⟩
  rintro ⟨_, _⟩ hp
  replace hr := hk1533
  subst hp
  clear hl1532
  change At _ _ (⟨[], [], [], []⟩ : St) _
  refine s_tsr (s_as rfl (s_nt (at_ret ?_)))
  have hq := oinj hr
  clear hr
  subst hq
  exact at_return (.bool true) [] hS Tryz.results21 (.cons (.tmp rfl) .nil) rfl rfl ⟨rfl, rfl⟩
 replace hr := ineg h1529 hr
 refine at_true rfl (nf (decide_eq_false (by omega))) ?_
 refine s_sr (s_as rfl (s_nt (at_ret ?_)))
 have hq := oinj hr
 clear hr
 subst hq
 refine at_then_ret ?_
 exact at_return (.bool false) [] hS Tryz.results21 (.cons (.tmp rfl) .nil) rfl rfl ⟨rfl, rfl⟩
end Go.WK.S
