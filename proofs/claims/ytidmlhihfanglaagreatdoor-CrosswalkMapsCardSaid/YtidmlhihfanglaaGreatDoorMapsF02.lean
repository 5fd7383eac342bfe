
/- What functions of this program compute: a model of each, and the proof that it is kept. -/
import Derived.Test.YtidmlhihfanglaaGreatDoorMapsF01
import Derived.KernelRfl
set_option linter.unusedSimpArgs false
set_option linter.unusedVariables false
namespace Go.WK.S
open Go Go.Proofs Go.WK Go.RowKit
set_option linter.unusedVariables false
set_option maxRecDepth 100000
set_option maxHeartbeats 4000000
def m122 (a0 : Str) : Option Bool :=
  (m155 a0).bind fun x444 =>
  if x444.2 = true then
   if a0 = ([] : Str) then
    some false
   else
    if a0.length ≤ 400 then
     (m156 a0 ([32] : Str)).bind fun x451 =>
     some (decide (x451 = a0))
    else
     some false
  else
   some false
def post122 (r : Bool) (v : Value) (fs : List Fact) : Prop := v = .bool r ∧ fs = []
theorem en122 : Enters Tryz.prog 122 := ⟨_, Tryz.func122, by kernel_rfl, rfl⟩
theorem f122_spec {a0 : Str} {r : Bool} (hr : m122 a0 = some r) : Spec Tryz.prog 122 [str a0] [(Ty.str.fact a0 [str a0]), (utf8F 1 2)] (post122 r) := by
 refine spec_start (N := 26) Tryz.func122 (by kernel_rfl) rfl rfl rfl ?_
 intro g hS
 unfold m122 at hr
 refine s_sr (s_as rfl (s_ntsr (s_mv rfl ?_)))
 replace hr := obind hr
 obtain ⟨x444, h445, hr⟩ := hr
 refine at_hv rfl (hv_call0 [0, 1] (f155_spec h445) rfl rfl rfl rfl ?_)
 rintro _ _ ⟨s446, rfl, rfl⟩
 refine s_mv rfl (at_lt (lt_extract rfl rfl) rfl (at_lt (lt_extract rfl rfl) rfl (s_as rfl (s_as rfl (s_ntsr (s_mv rfl (s_mv rfl ?_)))))))
 by_cases h447 : x444.2 = true
 ·replace hr := ipos h447 hr
  refine at_on rfl rfl h447 (s_mv rfl (at_on rfl rfl h447 (at_lt (lt_sneq rfl rfl) rfl (at_lt (lt_pick true rfl h447 rfl) rfl (s_mv rfl ?_)))))
  by_cases h448 : a0 = ([] : Str)
  ·replace hr := ipos h448 hr
   refine at_off rfl rfl (nt (decide_eq_true h448)) rfl (at_off rfl rfl (nt (decide_eq_true h448)) rfl (at_off rfl rfl (nt (decide_eq_true h448)) rfl (at_lt (lt_pick false rfl (nt (decide_eq_true h448)) rfl) rfl (s_mv rfl (at_off rfl rfl rfl rfl (at_off rfl rfl rfl rfl (at_off rfl rfl rfl rfl (at_off rfl rfl rfl rfl (at_lt (lt_pick false rfl rfl rfl) rfl ?_)))))))))
   refine s_as rfl (s_nt (at_ret ?_))
   have hq := oinj hr
   clear hr
   subst hq
   exact at_return (.bool false) [] hS Tryz.results122 (.cons (.tmp rfl) .nil) rfl rfl ⟨rfl, rfl⟩
  replace hr := ineg h448 hr
  refine at_on rfl rfl (nf (decide_eq_false h448)) (s_mv rfl ?_)
  refine at_inv 1 rfl (fun l449 => ?_)
  replace l449 : a0.length ≤ 9223372036854775807 := l449
  refine at_on rfl rfl (nf (decide_eq_false h448)) (at_lt (lt_slen rfl und9) rfl (at_on rfl rfl (nf (decide_eq_false h448)) (at_lt (lt_leq rfl rfl) rfl (at_lt (lt_pick true rfl (nf (decide_eq_false h448)) rfl) rfl (s_mv rfl ?_)))))
  by_cases h450 : a0.length ≤ 400
  ·replace hr := ipos h450 hr
   refine at_on rfl rfl (decide_eq_true (by omega)) ?_
   refine s_mv rfl ?_
   replace hr := obind hr
   obtain ⟨x451, h452, hr⟩ := hr
   refine at_str ([32] : Str) (by decide) ?_
   refine at_on rfl rfl (decide_eq_true (by omega)) ?_
   refine at_hv rfl (hv_call0 [2, 0, 3] (f156_spec h452) rfl rfl rfl rfl ?_)
   rintro _ _ ⟨rfl, rfl⟩
   refine at_on rfl rfl (decide_eq_true (by omega)) ?_
   refine s_mv rfl ?_
   refine at_on rfl rfl (decide_eq_true (by omega)) ?_
   refine at_lt (lt_seql rfl rfl) rfl ?_
   refine at_lt (lt_pick true rfl (decide_eq_true (by omega)) rfl) rfl ?_
   refine s_as rfl (s_nt (at_ret ?_))
   have hq := oinj hr
   clear hr
   subst hq
   exact at_return (.bool (decide (x451 = a0))) [] hS Tryz.results122 (.cons (.tmp rfl) .nil) rfl rfl ⟨rfl, rfl⟩
  replace hr := ineg h450 hr
  refine at_off rfl rfl (decide_eq_false (by omega)) rfl ?_
  refine at_off rfl rfl (decide_eq_false (by omega)) rfl ?_
  refine at_off rfl rfl (decide_eq_false (by omega)) rfl ?_
  refine at_off rfl rfl (decide_eq_false (by omega)) rfl ?_
  refine at_lt (lt_pick false rfl (decide_eq_false (by omega)) rfl) rfl ?_
  refine s_as rfl (s_nt (at_ret ?_))
  have hq := oinj hr
  clear hr
  subst hq
  exact at_return (.bool false) [] hS Tryz.results122 (.cons (.tmp rfl) .nil) rfl rfl ⟨rfl, rfl⟩
 replace hr := ineg h447 hr
 refine at_off rfl rfl (bf h447) rfl (at_off rfl rfl (bf h447) rfl (at_lt (lt_pick false rfl (bf h447) rfl) rfl (s_mv rfl (at_off rfl rfl rfl rfl (at_off rfl rfl rfl rfl (at_off rfl rfl rfl rfl (at_lt (lt_pick false rfl rfl rfl) rfl (s_mv rfl (at_off rfl rfl rfl rfl ?_)))))))))
 refine at_off rfl rfl rfl rfl (at_off rfl rfl rfl rfl (at_off rfl rfl rfl rfl (at_lt (lt_pick false rfl rfl rfl) rfl (s_as rfl (s_nt (at_ret ?_))))))
 have hq := oinj hr
 clear hr
 subst hq
 exact at_return (.bool false) [] hS Tryz.results122 (.cons (.tmp rfl) .nil) rfl rfl ⟨rfl, rfl⟩
def m120 (a0 : D_api_Sub) : Option Bool :=
  (m121 a0.Code).bind fun x454 =>
  if x454 = true then
   (m122 a0.Value).bind fun x457 =>
   some (!x457)
  else
   some true
def post120 (r : Bool) (v : Value) (fs : List Fact) : Prop := v = .bool r ∧ fs = []
theorem en120 : Enters Tryz.prog 120 := ⟨_, Tryz.func120, by kernel_rfl, rfl⟩
theorem f120_spec {a0 : D_api_Sub} {r : Bool} (hr : m120 a0 = some r) : Spec Tryz.prog 120 [.agg #[.int .u8 (a0.Code.toNat : Int), str a0.Value]] [(ty66.fact a0 [.int .u8 (a0.Code.toNat : Int), str a0.Value]), (utf8F 1 2)] (post120 r) := by
 refine spec_start (N := 13) Tryz.func120 (by kernel_rfl) rfl rfl rfl ?_
 intro g hS
 unfold m120 at hr
 refine at_open (A := Unit) 0 rfl (fun _ => True) (fun _ => [(Ty.str.fact a0.Value [str a0.Value])]) (fun F w h => ⟨(), trivial, ex66 h⟩) (fun _ _ => ?_)
 refine s_sr (at_hv rfl ?_)
 refine hv_box (cs := [.int .u8 (a0.Code.toNat : Int), str a0.Value]) rfl rfl rfl (fun b453 => ?_)
 refine s_as rfl (s_ntsr (at_lt (lt_fieldAddr 0 rfl fld66_0 rfl) rfl (at_lt (lt_load_box 0 rfl ti5 rfl rfl rfl rfl rfl) rfl ?_)))
 replace hr := obind hr
 obtain ⟨x454, h455, hr⟩ := hr
 refine at_hv rfl (hv_call0 [] (f121_spec h455) rfl rfl rfl rfl ?_)
 rintro _ _ ⟨rfl, rfl⟩
 refine at_lt (lt_not rfl) rfl (s_mv rfl ?_)
 by_cases h456 : x454 = true
 ·replace hr := ipos h456 hr
  refine at_on rfl rfl (nt h456) (at_lt (lt_fieldAddr 1 rfl fld66_1 rfl) rfl (at_on rfl rfl (nt h456) (at_lt (lt_load_box 0 rfl ti9 rfl rfl rfl rfl rfl) rfl ?_)))
  replace hr := obind hr
  obtain ⟨x457, h458, hr⟩ := hr
  refine at_on rfl rfl (nt h456) (at_hv rfl (hv_call0 [0, 2] (f122_spec h458) rfl rfl rfl rfl ?_))
  rintro _ _ ⟨rfl, rfl⟩
  refine at_on rfl rfl (nt h456) (at_lt (lt_not rfl) rfl (at_lt (lt_pick false rfl (nt h456) rfl) rfl (s_as rfl (s_nt (at_ret ?_)))))
  have hq := oinj hr
  clear hr
  subst hq
  exact at_return (.bool (!x457)) [] hS Tryz.results120 (.cons (.tmp rfl) .nil) rfl rfl ⟨rfl, rfl⟩
 replace hr := ineg h456 hr
 refine at_off rfl rfl (nf (bf h456)) rfl (at_off rfl rfl (nf (bf h456)) rfl (at_off rfl rfl (nf (bf h456)) rfl (at_off rfl rfl (nf (bf h456)) rfl (at_lt (lt_pick true rfl (nf (bf h456)) rfl) rfl (s_as rfl (s_nt (at_ret ?_)))))))
 have hq := oinj hr
 clear hr
 subst hq
 exact at_return (.bool true) [] hS Tryz.results120 (.cons (.tmp rfl) .nil) rfl rfl ⟨rfl, rfl⟩
def m95 (a0 : D_api_Field) : Option Bool :=
  (m92 a0.Tag).bind fun x461 =>
  if x461 = true then
   (m119 a0.Ind_0).bind fun x464 =>
   if x464 = true then
    (m119 a0.Ind_1).bind fun x467 =>
    if x467 = true then
     if a0.Subs.length < 1 then
      some false
     else
      if 20 < a0.Subs.length then
       some false
      else
       (m62 a0.Subs m120).bind fun x474 =>
       some (!x474)
    else
     some false
   else
    some false
  else
   some false
def post95 (r : Bool) (v : Value) (fs : List Fact) : Prop := v = .bool r ∧ fs = []
theorem en95 : Enters Tryz.prog 95 := ⟨_, Tryz.func95, by kernel_rfl, rfl⟩
theorem f95_spec {a0 : D_api_Field} {s459 : Value} {r : Bool} (hr : m95 a0 = some r) : Spec Tryz.prog 95 [.agg #[str a0.Tag, .int .u8 (a0.Ind_0.toNat : Int), .int .u8 (a0.Ind_1.toNat : Int), s459]] [(ty69.fact a0 [str a0.Tag, .int .u8 (a0.Ind_0.toNat : Int), .int .u8 (a0.Ind_1.toNat : Int), s459]), (utf8F 1 2)] (post95 r) := by
 refine spec_start (N := 37) Tryz.func95 (by kernel_rfl) rfl rfl rfl ?_
 intro g hS
 unfold m95 at hr
 refine at_open (A := Unit) 0 rfl (fun _ => True) (fun _ => [(Ty.str.fact a0.Tag [str a0.Tag]), ((Ty.slice ty66).fact a0.Subs [s459])]) (fun F w h => ⟨(), trivial, ex69 h⟩) (fun _ _ => ?_)
 refine s_sr (at_hv rfl ?_)
 refine hv_box (cs := [str a0.Tag, .int .u8 (a0.Ind_0.toNat : Int), .int .u8 (a0.Ind_1.toNat : Int), s459]) rfl rfl rfl (fun b460 => ?_)
 refine s_as rfl (s_nt (at_seq (s_sr (at_lt (lt_fieldAddr 0 rfl fld69_0 rfl) rfl (at_lt (lt_load_box 0 rfl ti9 rfl rfl rfl rfl rfl) rfl ?_)))))
 replace hr := obind hr
 obtain ⟨x461, h462, hr⟩ := hr
 refine at_hv rfl (hv_call0 [0] (f92_spec h462) rfl rfl rfl rfl ?_)
 rintro _ _ ⟨rfl, rfl⟩
 refine at_lt (lt_not rfl) rfl (s_mv rfl ?_)
 by_cases h463 : x461 = true
 ·replace hr := ipos h463 hr
  refine at_on rfl rfl (nt h463) (at_lt (lt_fieldAddr 1 rfl fld69_1 rfl) rfl (at_on rfl rfl (nt h463) (at_lt (lt_aidx 0 rfl rfl rfl rfl und64 ti5 rfl) rfl (at_on rfl rfl (nt h463) (at_lt (lt_load_box 0 rfl ti5 rfl rfl rfl rfl rfl) rfl ?_)))))
  replace hr := obind hr
  obtain ⟨x464, h465, hr⟩ := hr
  refine at_on rfl rfl (nt h463) (at_hv rfl (hv_call0 [] (f119_spec h465) rfl rfl rfl rfl ?_))
  rintro _ _ ⟨rfl, rfl⟩
  refine at_on rfl rfl (nt h463) (at_lt (lt_not rfl) rfl (at_lt (lt_pick false rfl (nt h463) rfl) rfl (s_mv rfl ?_)))
  by_cases h466 : x464 = true
  ·replace hr := ipos h466 hr
   refine at_on rfl rfl (nt h466) (at_lt (lt_fieldAddr 1 rfl fld69_1 rfl) rfl (at_on rfl rfl (nt h466) (at_lt (lt_aidx 1 rfl rfl rfl rfl und64 ti5 rfl) rfl (at_on rfl rfl (nt h466) (at_lt (lt_load_box 0 rfl ti5 rfl rfl rfl rfl rfl) rfl ?_)))))
   replace hr := obind hr
   obtain ⟨x467, h468, hr⟩ := hr
   refine at_on rfl rfl (nt h466) (at_hv rfl (hv_call0 [] (f119_spec h468) rfl rfl rfl rfl ?_))
   rintro _ _ ⟨rfl, rfl⟩
   refine at_on rfl rfl (nt h466) (at_lt (lt_not rfl) rfl (at_lt (lt_pick false rfl (nt h466) rfl) rfl (s_mv rfl ?_)))
   by_cases h469 : x467 = true
   ·replace hr := ipos h469 hr
    refine at_on rfl rfl (nt h469) (at_lt (lt_fieldAddr 3 rfl fld69_2 rfl) rfl (at_on rfl rfl (nt h469) (at_lt (lt_load_box 0 rfl ti67 rfl rfl rfl rfl rfl) rfl ?_)))
    refine at_inv 1 rfl (fun i470 => ?_)
    have l471 := slice_len i470
    refine at_on rfl rfl (nt h469) (at_lt (lt_flen 1 rfl rfl und67) rfl (at_on rfl rfl (nt h469) (at_lt (lt_lss rfl rfl) rfl (at_lt (lt_pick false rfl (nt h469) rfl) rfl (s_mv rfl ?_)))))
    by_cases h472 : a0.Subs.length < 1
    ·replace hr := ipos h472 hr
     refine at_off rfl rfl (decide_eq_true (by omega)) rfl ?_
     refine at_off rfl rfl (decide_eq_true (by omega)) rfl ?_
     refine at_off rfl rfl (decide_eq_true (by omega)) rfl ?_
     refine at_off rfl rfl (decide_eq_true (by omega)) rfl ?_
     refine at_lt (lt_pick true rfl (decide_eq_true (by omega)) rfl) rfl ?_
     refine s_nt (at_true rfl rfl (s_sr (s_as rfl (s_nt (at_ret ?_)))))
     have hq := oinj hr
     clear hr
     subst hq
     refine at_then_ret ?_
     exact at_return (.bool false) [] hS Tryz.results95 (.cons (.tmp rfl) .nil) rfl rfl ⟨rfl, rfl⟩
    replace hr := ineg h472 hr
    refine at_on rfl rfl (decide_eq_false (by omega)) ?_
    refine at_lt (lt_fieldAddr 3 rfl fld69_2 rfl) rfl ?_
    refine at_on rfl rfl (decide_eq_false (by omega)) ?_
    refine at_lt (lt_load_box 0 rfl ti67 rfl rfl rfl rfl rfl) rfl ?_
    refine at_on rfl rfl (decide_eq_false (by omega)) ?_
    refine at_lt (lt_flen 1 rfl rfl und67) rfl ?_
    refine at_on rfl rfl (decide_eq_false (by omega)) ?_
    refine at_lt (lt_gtr rfl rfl) rfl ?_
    refine at_lt (lt_pick false rfl (decide_eq_false (by omega)) rfl) rfl ?_
    refine s_nt ?_
    by_cases h473 : 20 < a0.Subs.length
    ·replace hr := ipos h473 hr
     refine at_true rfl (decide_eq_true (by omega)) ?_
     refine s_sr (s_as rfl (s_nt (at_ret ?_)))
     have hq := oinj hr
     clear hr
     subst hq
     refine at_then_ret ?_
     exact at_return (.bool false) [] hS Tryz.results95 (.cons (.tmp rfl) .nil) rfl rfl ⟨rfl, rfl⟩
    replace hr := ineg h473 hr
    refine at_false rfl (decide_eq_false (by omega)) ?_
    refine at_skip (s_tsr (at_lt (lt_fieldAddr 3 rfl fld69_2 rfl) rfl (at_lt (lt_load_box 0 rfl ti67 rfl rfl rfl rfl rfl) rfl ?_)))
    replace hr := obind hr
    obtain ⟨x474, h475, hr⟩ := hr
    refine at_fn 120 [] [3] (sp101 m120) en120 rfl (by rintro _ _ _ ⟨a0, r, h, rfl, rfl, rfl⟩; exact f120_spec h) ?_
    refine at_hv rfl (hv_call0 [2, 0] (f62_spec h475) rfl rfl rfl rfl ?_)
    rintro _ _ ⟨rfl, rfl⟩
    refine at_lt (lt_not rfl) rfl (s_as rfl (s_nt (at_ret ?_)))
    have hq := oinj hr
    clear hr
    subst hq
    exact at_return (.bool (!x474)) [] hS Tryz.results95 (.cons (.tmp rfl) .nil) rfl rfl ⟨rfl, rfl⟩
   replace hr := ineg h469 hr
   refine at_off rfl rfl (nf (bf h469)) rfl (at_off rfl rfl (nf (bf h469)) rfl (at_off rfl rfl (nf (bf h469)) rfl (at_off rfl rfl (nf (bf h469)) rfl (at_lt (lt_pick true rfl (nf (bf h469)) rfl) rfl (s_mv rfl (at_off rfl rfl rfl rfl (at_off rfl rfl rfl rfl (at_off rfl rfl rfl rfl (at_off rfl rfl rfl rfl ?_)))))))))
   refine at_lt (lt_pick true rfl rfl rfl) rfl (s_nt (at_true rfl rfl (s_sr (s_as rfl (s_nt (at_ret ?_))))))
   have hq := oinj hr
   clear hr
   subst hq
   refine at_then_ret ?_
   exact at_return (.bool false) [] hS Tryz.results95 (.cons (.tmp rfl) .nil) rfl rfl ⟨rfl, rfl⟩
  replace hr := ineg h466 hr
  refine at_off rfl rfl (nf (bf h466)) rfl (at_off rfl rfl (nf (bf h466)) rfl (at_off rfl rfl (nf (bf h466)) rfl (at_off rfl rfl (nf (bf h466)) rfl (at_off rfl rfl (nf (bf h466)) rfl (at_lt (lt_pick true rfl (nf (bf h466)) rfl) rfl (s_mv rfl (at_off rfl rfl rfl rfl (at_off rfl rfl rfl rfl (at_off rfl rfl rfl rfl ?_)))))))))
  refine at_off rfl rfl rfl rfl (at_lt (lt_pick true rfl rfl rfl) rfl (s_mv rfl (at_off rfl rfl rfl rfl (at_off rfl rfl rfl rfl (at_off rfl rfl rfl rfl (at_off rfl rfl rfl rfl (at_lt (lt_pick true rfl rfl rfl) rfl (s_nt (at_true rfl rfl ?_)))))))))
  refine s_sr (s_as rfl (s_nt (at_ret ?_)))
  have hq := oinj hr
  clear hr
  subst hq
  refine at_then_ret ?_
  exact at_return (.bool false) [] hS Tryz.results95 (.cons (.tmp rfl) .nil) rfl rfl ⟨rfl, rfl⟩
 replace hr := ineg h463 hr
 refine at_off rfl rfl (nf (bf h463)) rfl (at_off rfl rfl (nf (bf h463)) rfl (at_off rfl rfl (nf (bf h463)) rfl (at_off rfl rfl (nf (bf h463)) rfl (at_off rfl rfl (nf (bf h463)) rfl (at_lt (lt_pick true rfl (nf (bf h463)) rfl) rfl (s_mv rfl (at_off rfl rfl rfl rfl (at_off rfl rfl rfl rfl (at_off rfl rfl rfl rfl ?_)))))))))
 refine at_off rfl rfl rfl rfl (at_off rfl rfl rfl rfl (at_lt (lt_pick true rfl rfl rfl) rfl (s_mv rfl (at_off rfl rfl rfl rfl (at_off rfl rfl rfl rfl (at_off rfl rfl rfl rfl (at_off rfl rfl rfl rfl (at_lt (lt_pick true rfl rfl rfl) rfl (s_mv rfl ?_)))))))))
 refine at_off rfl rfl rfl rfl (at_off rfl rfl rfl rfl (at_off rfl rfl rfl rfl (at_off rfl rfl rfl rfl (at_lt (lt_pick true rfl rfl rfl) rfl (s_nt (at_true rfl rfl (s_sr (s_as rfl (s_nt ?_)))))))))
 refine at_ret ?_
 have hq := oinj hr
 clear hr
 subst hq
 refine at_then_ret ?_
 exact at_return (.bool false) [] hS Tryz.results95 (.cons (.tmp rfl) .nil) rfl rfl ⟨rfl, rfl⟩
def m94 (a0 : D_api_Field) : Option Bool :=
  (m95 (⟨a0.Tag, a0.Ind_0, a0.Ind_1, a0.Subs⟩ : D_api_Field)).bind fun x478 =>
  some (!x478)
def post94 (r : Bool) (v : Value) (fs : List Fact) : Prop := v = .bool r ∧ fs = []
theorem en94 : Enters Tryz.prog 94 := ⟨_, Tryz.func94, by kernel_rfl, rfl⟩
theorem f94_spec {a0 : D_api_Field} {s476 : Value} {r : Bool} (hr : m94 a0 = some r) : Spec Tryz.prog 94 [.agg #[str a0.Tag, .int .u8 (a0.Ind_0.toNat : Int), .int .u8 (a0.Ind_1.toNat : Int), s476]] [(ty69.fact a0 [str a0.Tag, .int .u8 (a0.Ind_0.toNat : Int), .int .u8 (a0.Ind_1.toNat : Int), s476]), (utf8F 1 2)] (post94 r) := by
 refine spec_start (N := 6) Tryz.func94 (by kernel_rfl) rfl rfl rfl ?_
 intro g hS
 unfold m94 at hr
 refine at_open (A := Unit) 0 rfl (fun _ => True) (fun _ => [(Ty.str.fact a0.Tag [str a0.Tag]), ((Ty.slice ty66).fact a0.Subs [s476])]) (fun F w h => ⟨(), trivial, ex69 h⟩) (fun _ _ => ?_)
 refine s_sr (at_hv rfl ?_)
 refine hv_box (cs := [str a0.Tag, .int .u8 (a0.Ind_0.toNat : Int), .int .u8 (a0.Ind_1.toNat : Int), s476]) rfl rfl rfl (fun b477 => ?_)
 refine s_as rfl (s_ntsr (at_lt (lt_load_box 0 rfl ti69 rfl rfl rfl rfl rfl) rfl ?_))
 replace hr := obind hr
 obtain ⟨x478, h479, hr⟩ := hr
 refine at_derive [0, 1] (ty69.fact (⟨a0.Tag, a0.Ind_0, a0.Ind_1, a0.Subs⟩ : D_api_Field) [str a0.Tag, .int .u8 (a0.Ind_0.toNat : Int), .int .u8 (a0.Ind_1.toNat : Int), s476]) rfl (fun F w h => mk69 (x := (⟨a0.Tag, a0.Ind_0, a0.Ind_1, a0.Subs⟩ : D_api_Field)) h) ?_
 refine at_hv rfl (hv_call0 [0, 4] (f95_spec h479) rfl rfl rfl rfl ?_)
 rintro _ _ ⟨rfl, rfl⟩
 refine at_lt (lt_not rfl) rfl (s_as rfl (s_nt (at_ret ?_)))
 have hq := oinj hr
 clear hr
 subst hq
 exact at_return (.bool (!x478)) [] hS Tryz.results94 (.cons (.tmp rfl) .nil) rfl rfl ⟨rfl, rfl⟩
def m59 (a0 : D_api_Record) : Option Bool :=
  if a0.ID < 1 then
   some false
  else
   if (1000000000 : Int) < a0.ID then
    some false
   else
    if a0.Fields.length < 1 then
     some false
    else
     if 60 < a0.Fields.length then
      some false
     else
      (m93 a0.Fields m94).bind fun x489 =>
      some (!x489)
def post59 (r : Bool) (v : Value) (fs : List Fact) : Prop := v = .bool r ∧ fs = []
theorem en59 : Enters Tryz.prog 59 := ⟨_, Tryz.func59, by kernel_rfl, rfl⟩
theorem f59_spec {a0 : D_api_Record} {s480 : Value} {r : Bool} (hr : m59 a0 = some r) : Spec Tryz.prog 59 [.agg #[.int .i64 a0.ID, s480]] [(ty25.fact a0 [.int .i64 a0.ID, s480]), (utf8F 1 2)] (post59 r) := by
 refine spec_start (N := 27) Tryz.func59 (by kernel_rfl) rfl rfl rfl ?_
 intro g hS
 unfold m59 at hr
 refine at_open (A := Unit) 0 rfl (fun _ => True) (fun _ => [((Ty.int .i64).fact a0.ID [.int .i64 a0.ID]), ((Ty.slice ty69).fact a0.Fields [s480])]) (fun F w h => ⟨(), trivial, ex25 h⟩) (fun _ _ => ?_)
 refine at_inv 0 rfl (fun l481 => ?_)
 replace l481 : (-9223372036854775808) ≤ a0.ID ∧ a0.ID ≤ 9223372036854775807 := l481
 refine s_sr (at_hv rfl ?_)
 refine hv_box (cs := [.int .i64 a0.ID, s480]) rfl rfl rfl (fun b482 => ?_)
 refine s_as rfl (s_nt (at_seq (s_sr (at_lt (lt_fieldAddr 0 rfl fld25_0 rfl) rfl (at_lt (lt_load_box 0 rfl ti3 rfl rfl rfl rfl rfl) rfl (at_lt (lt_lss rfl rfl) rfl (s_mv rfl ?_)))))))
 by_cases h483 : a0.ID < 1
 ·replace hr := ipos h483 hr
  refine at_off rfl rfl (decide_eq_true (by first | exact h483 | omega)) rfl ?_
  refine at_off rfl rfl (decide_eq_true (by first | exact h483 | omega)) rfl ?_
  refine at_off rfl rfl (decide_eq_true (by first | exact h483 | omega)) rfl ?_
  refine at_lt (lt_pick true rfl (decide_eq_true (by first | exact h483 | omega)) rfl) rfl ?_
  refine s_mv rfl (at_off rfl rfl rfl rfl (at_off rfl rfl rfl rfl (at_off rfl rfl rfl rfl (at_off rfl rfl rfl rfl (at_lt (lt_pick true rfl rfl rfl) rfl (s_mv rfl (at_off rfl rfl rfl rfl (at_off rfl rfl rfl rfl (at_off rfl rfl rfl rfl ?_)))))))))
  refine at_off rfl rfl rfl rfl (at_lt (lt_pick true rfl rfl rfl) rfl (s_nt (at_true rfl rfl (s_sr (s_as rfl (s_nt (at_ret ?_)))))))
  have hq := oinj hr
  clear hr
  subst hq
  refine at_then_ret ?_
  exact at_return (.bool false) [] hS Tryz.results59 (.cons (.tmp rfl) .nil) rfl rfl ⟨rfl, rfl⟩
 replace hr := ineg h483 hr
 refine at_on rfl rfl (decide_eq_false (by first | exact h483 | omega)) ?_
 refine at_lt (lt_fieldAddr 0 rfl fld25_0 rfl) rfl ?_
 refine at_on rfl rfl (decide_eq_false (by first | exact h483 | omega)) ?_
 refine at_lt (lt_load_box 0 rfl ti3 rfl rfl rfl rfl rfl) rfl ?_
 refine at_on rfl rfl (decide_eq_false (by first | exact h483 | omega)) ?_
 refine at_lt (lt_gtr rfl rfl) rfl ?_
 refine at_lt (lt_pick false rfl (decide_eq_false (by first | exact h483 | omega)) rfl) rfl ?_
 refine s_mv rfl ?_
 by_cases h484 : (1000000000 : Int) < a0.ID
 ·replace hr := ipos h484 hr
  refine at_off rfl rfl (decide_eq_true (by first | exact h484 | omega)) rfl ?_
  refine at_off rfl rfl (decide_eq_true (by first | exact h484 | omega)) rfl ?_
  refine at_off rfl rfl (decide_eq_true (by first | exact h484 | omega)) rfl ?_
  refine at_off rfl rfl (decide_eq_true (by first | exact h484 | omega)) rfl ?_
  refine at_lt (lt_pick true rfl (decide_eq_true (by first | exact h484 | omega)) rfl) rfl ?_
  refine s_mv rfl (at_off rfl rfl rfl rfl (at_off rfl rfl rfl rfl (at_off rfl rfl rfl rfl (at_off rfl rfl rfl rfl (at_lt (lt_pick true rfl rfl rfl) rfl (s_nt (at_true rfl rfl (s_sr (s_as rfl ?_)))))))))
  refine s_nt (at_ret ?_)
  have hq := oinj hr
  clear hr
  subst hq
  refine at_then_ret ?_
  exact at_return (.bool false) [] hS Tryz.results59 (.cons (.tmp rfl) .nil) rfl rfl ⟨rfl, rfl⟩
 replace hr := ineg h484 hr
 refine at_on rfl rfl (decide_eq_false (by first | exact h484 | omega)) ?_
 refine at_lt (lt_fieldAddr 1 rfl fld25_1 rfl) rfl ?_
 refine at_on rfl rfl (decide_eq_false (by first | exact h484 | omega)) ?_
 refine at_lt (lt_load_box 0 rfl ti23 rfl rfl rfl rfl rfl) rfl ?_
 refine at_inv 1 rfl (fun i485 => ?_)
 have l486 := slice_len i485
 refine at_on rfl rfl (decide_eq_false (by first | exact h484 | omega)) ?_
 refine at_lt (lt_flen 1 rfl rfl und23) rfl ?_
 refine at_on rfl rfl (decide_eq_false (by first | exact h484 | omega)) ?_
 refine at_lt (lt_lss rfl rfl) rfl ?_
 refine at_lt (lt_pick false rfl (decide_eq_false (by first | exact h484 | omega)) rfl) rfl ?_
 refine s_mv rfl ?_
 by_cases h487 : a0.Fields.length < 1
 ·replace hr := ipos h487 hr
  refine at_off rfl rfl (decide_eq_true (by omega)) rfl ?_
  refine at_off rfl rfl (decide_eq_true (by omega)) rfl ?_
  refine at_off rfl rfl (decide_eq_true (by omega)) rfl ?_
  refine at_off rfl rfl (decide_eq_true (by omega)) rfl ?_
  refine at_lt (lt_pick true rfl (decide_eq_true (by omega)) rfl) rfl ?_
  refine s_nt (at_true rfl rfl (s_sr (s_as rfl (s_nt (at_ret ?_)))))
  have hq := oinj hr
  clear hr
  subst hq
  refine at_then_ret ?_
  exact at_return (.bool false) [] hS Tryz.results59 (.cons (.tmp rfl) .nil) rfl rfl ⟨rfl, rfl⟩
 replace hr := ineg h487 hr
 refine at_on rfl rfl (decide_eq_false (by omega)) ?_
 refine at_lt (lt_fieldAddr 1 rfl fld25_1 rfl) rfl ?_
 refine at_on rfl rfl (decide_eq_false (by omega)) ?_
 refine at_lt (lt_load_box 0 rfl ti23 rfl rfl rfl rfl rfl) rfl ?_
 refine at_on rfl rfl (decide_eq_false (by omega)) ?_
 refine at_lt (lt_flen 1 rfl rfl und23) rfl ?_
 refine at_on rfl rfl (decide_eq_false (by omega)) ?_
 refine at_lt (lt_gtr rfl rfl) rfl ?_
 refine at_lt (lt_pick false rfl (decide_eq_false (by omega)) rfl) rfl ?_
 refine s_nt ?_
 by_cases h488 : 60 < a0.Fields.length
 ·replace hr := ipos h488 hr
  refine at_true rfl (decide_eq_true (by omega)) ?_
  refine s_sr (s_as rfl (s_nt (at_ret ?_)))
  have hq := oinj hr
  clear hr
  subst hq
  refine at_then_ret ?_
  exact at_return (.bool false) [] hS Tryz.results59 (.cons (.tmp rfl) .nil) rfl rfl ⟨rfl, rfl⟩
 replace hr := ineg h488 hr
 refine at_false rfl (decide_eq_false (by omega)) ?_
 refine at_skip (s_tsr (at_lt (lt_fieldAddr 1 rfl fld25_1 rfl) rfl (at_lt (lt_load_box 0 rfl ti23 rfl rfl rfl rfl rfl) rfl ?_)))
 replace hr := obind hr
 obtain ⟨x489, h490, hr⟩ := hr
 refine at_fn 94 [] [3] (sp96 m94) en94 rfl (by rintro _ _ _ ⟨a0, r, s491, h, rfl, rfl, rfl⟩; exact f94_spec h) ?_
 refine at_hv rfl (hv_call0 [2, 0] (f93_spec h490) rfl rfl rfl rfl ?_)
 rintro _ _ ⟨rfl, rfl⟩
 refine at_lt (lt_not rfl) rfl (s_as rfl (s_nt (at_ret ?_)))
 have hq := oinj hr
 clear hr
 subst hq
 exact at_return (.bool (!x489)) [] hS Tryz.results59 (.cons (.tmp rfl) .nil) rfl rfl ⟨rfl, rfl⟩
def m143_l2 (a1 : Int) (p3 : (D_api_Field → D_api_Field → Option Int)) : Nat → (List D_api_Field) → Int → Option (List D_api_Field)
  | 0, _, _ => none
  | k + 1, x507, x508 =>
    if a1 < x508 then
     (at? x507 x508).bind fun x516 =>
     (at? x507 (IntKind.i64.wrap (x508 - 1))).bind fun x526 =>
     (p3 x516 x526).bind fun x530 =>
     if x530 < 0 then
      (at? x507 (IntKind.i64.wrap (x508 - 1))).bind fun x535 =>
      (at? x507 x508).bind fun x545 =>
      (at? x507 x508).bind fun x549 =>
      (at? (x507.set x508.toNat x535) (IntKind.i64.wrap (x508 - 1))).bind fun x557 =>
      m143_l2 a1 p3 k ((x507.set x508.toNat x535).set (IntKind.i64.wrap (x508 - 1)).toNat x545) (IntKind.i64.wrap (x508 - 1))
     else
      some x507
    else
     some x507
def m143_l1 (a1 : Int) (a2 : Int) (p3 : (D_api_Field → D_api_Field → Option Int)) : Nat → (List D_api_Field) → Int → Option (List D_api_Field)
  | 0, _, _ => none
  | k + 1, x498, x499 =>
    if x499 < a2 then
     (m143_l2 a1 p3 9223372036854775808 x498 x499).bind fun x510 =>
     m143_l1 a1 a2 p3 k x510 (IntKind.i64.wrap (x499 + 1))
    else
     some x498
def m143 (a0 : (List D_api_Field)) (a1 : Int) (a2 : Int) (p3 : (D_api_Field → D_api_Field → Option Int)) : Option (List D_api_Field) :=
  (m143_l1 a1 a2 p3 9223372036854775808 a0 (IntKind.i64.wrap (a1 + 1))).bind fun x501 =>
  some x501
def post143 (v : Value) (n : Nat) (r : (List D_api_Field)) (u : Value) (rw : List Row) (fs : List Fact) : Prop := u = .tuple #[] ∧ ∃ i, rw = [⟨v, 69, 4, n, i⟩] ∧ fs = [(ty69.row r i), (pureF (r.length * ty69.bytes ≤ 140737488355328))]
theorem en143 : Enters Tryz.prog 143 := ⟨_, Tryz.func143, by kernel_rfl, rfl⟩
theorem f143_spec {a0 : (List D_api_Field)} {a1 : Int} {a2 : Int} {p3 : (D_api_Field → D_api_Field → Option Int)} {w492 : Value} {n493 : Nat} {i494 : List Value} {w495 : Value} {r : (List D_api_Field)} (hr : m143 a0 a1 a2 p3 = some r) : SpecG Tryz.prog 143 [w492, .int .i64 a1, .int .i64 a2, w495] [⟨w492, 69, 4, n493, i494⟩] [(ty69.row a0 i494), (pureF (a0.length * ty69.bytes ≤ 140737488355328)), ((Ty.int .i64).fact a1 [.int .i64 a1]), ((Ty.int .i64).fact a2 [.int .i64 a2]), (FnOk Tryz.prog w495 (sp116 p3))] (post143 w492 n493 r) := by
 refine specG_start (N := 53) Tryz.func143 (by kernel_rfl) rfl rfl rfl ?_
 intro g hS
 unfold m143 at hr
 refine at_inv 2 rfl (fun l496 => ?_)
 replace l496 : (-9223372036854775808) ≤ a1 ∧ a1 ≤ 9223372036854775807 := l496
 refine at_inv 3 rfl (fun l497 => ?_)
 replace l497 : (-9223372036854775808) ≤ a2 ∧ a2 ≤ 9223372036854775807 := l497
 refine s_sr (s_mv rfl (at_lt (lt_addw rfl rfl) rfl (s_as rfl (s_nt (at_int .i64 (IntKind.i64.wrap (a1 + 1)) (wrap_bd .i64 _) ?_)))))
 replace hr := obind hr
 obtain ⟨x501, hl503, hr⟩ := hr
 refine at_cut (V := (List Value)) (fun e => (⟨[(0, w492)], [], [⟨w492, 69, 4, n493, e⟩], [(ty69.row x501 e), (pureF (x501.length * ty69.bytes ≤ 140737488355328))]⟩ : St)) ?_ ?_
 ·refine at_block ?_
  refine at_loopW (σ := ((List D_api_Field) × Int)) (V := (List Value)) (r := x501) (fun n s => m143_l1 a1 a2 p3 n s.1 s.2) (fun s e => (⟨[(0, w492), (1, .int .i64 a1), (2, .int .i64 a2), (3, w495), (8, .int .i64 s.2)], [], [⟨w492, 69, 4, n493, e⟩], [(ty69.row s.1 e), (pureF (s.1.length * ty69.bytes ≤ 140737488355328)), ((Ty.int .i64).fact s.2 [.int .i64 s.2]), ((Ty.int .i64).fact a1 [.int .i64 a1]), ((Ty.int .i64).fact a2 [.int .i64 a2]), (FnOk Tryz.prog w495 (sp116 p3))]⟩ : St)) (fun _ => rfl) _ (a0, IntKind.i64.wrap (a1 + 1)) i494 hl503 ⟨⟨rfl, ⟨rfl, ⟨rfl, ⟨rfl, ⟨rfl, trivial⟩⟩⟩⟩⟩, ⟨[], rfl⟩, ⟨[true], rfl⟩, ⟨[1, 2, 0, 3, 4, 5], rfl⟩⟩ ?_
  clear hr hl503
  intro n s hr i500
  obtain ⟨x498, x499⟩ := s
  skip
  change m143_l1 a1 a2 p3 (n + 1) x498 x499 = some x501 at hr
  change At _ _ (⟨[(0, w492), (1, .int .i64 a1), (2, .int .i64 a2), (3, w495), (8, .int .i64 x499)], [], [⟨w492, 69, 4, n493, i500⟩], [(ty69.row x498 i500), (pureF (x498.length * ty69.bytes ≤ 140737488355328)), ((Ty.int .i64).fact x499 [.int .i64 x499]), ((Ty.int .i64).fact a1 [.int .i64 a1]), ((Ty.int .i64).fact a2 [.int .i64 a2]), (FnOk Tryz.prog w495 (sp116 p3))]⟩ : St) _
  rw [m143_l1] at hr
  refine at_inv 2 rfl (fun l505 => ?_)
  replace l505 : (-9223372036854775808) ≤ x499 ∧ x499 ≤ 9223372036854775807 := l505
  refine at_seq (s_sr (s_mv rfl (s_mv rfl (at_lt (lt_lss rfl rfl) rfl (s_nt ?_)))))
  by_cases h506 : x499 < a2
  ·replace hr := ipos h506 hr
   refine at_true rfl (decide_eq_true (by first | exact h506 | omega)) ?_
   refine at_skip (at_then (at_seq (at_block (s_sr (s_mv rfl (s_as rfl (s_nt ?_)))))))
   replace hr := obind hr
   obtain ⟨x510, hl512, hr⟩ := hr
   refine at_cut (V := (List Value)) (fun e => (⟨[(0, w492), (1, .int .i64 a1), (2, .int .i64 a2), (3, w495), (8, .int .i64 x499)], [], [⟨w492, 69, 4, n493, e⟩], [(ty69.row x510 e), (pureF (x510.length * ty69.bytes ≤ 140737488355328)), ((Ty.int .i64).fact a1 [.int .i64 a1]), ((Ty.int .i64).fact a2 [.int .i64 a2]), (FnOk Tryz.prog w495 (sp116 p3)), ((Ty.int .i64).fact x499 [.int .i64 x499])]⟩ : St)) ?_ ?_
   ·refine at_block ?_
    refine at_loopW (σ := ((List D_api_Field) × Int)) (V := (List Value)) (r := x510) (fun n s => m143_l2 a1 p3 n s.1 s.2) (fun s e => (⟨[(0, w492), (1, .int .i64 a1), (2, .int .i64 a2), (3, w495), (8, .int .i64 x499), (9, .int .i64 s.2)], [], [⟨w492, 69, 4, n493, e⟩], [(ty69.row s.1 e), (pureF (s.1.length * ty69.bytes ≤ 140737488355328)), ((Ty.int .i64).fact s.2 [.int .i64 s.2]), ((Ty.int .i64).fact a1 [.int .i64 a1]), ((Ty.int .i64).fact a2 [.int .i64 a2]), (FnOk Tryz.prog w495 (sp116 p3)), ((Ty.int .i64).fact x499 [.int .i64 x499])]⟩ : St)) (fun _ => rfl) _ (x498, x499) i500 hl512 ⟨⟨rfl, ⟨rfl, ⟨rfl, ⟨rfl, ⟨rfl, ⟨rfl, trivial⟩⟩⟩⟩⟩⟩, ⟨[], rfl⟩, ⟨[true], rfl⟩, ⟨[0, 1, 2, 3, 4, 5, 2], rfl⟩⟩ ?_
    clear hr hl512
    intro n s hr i509
    obtain ⟨x507, x508⟩ := s
    skip
    change m143_l2 a1 p3 (n + 1) x507 x508 = some x510 at hr
    change At _ _ (⟨[(0, w492), (1, .int .i64 a1), (2, .int .i64 a2), (3, w495), (8, .int .i64 x499), (9, .int .i64 x508)], [], [⟨w492, 69, 4, n493, i509⟩], [(ty69.row x507 i509), (pureF (x507.length * ty69.bytes ≤ 140737488355328)), ((Ty.int .i64).fact x508 [.int .i64 x508]), ((Ty.int .i64).fact a1 [.int .i64 a1]), ((Ty.int .i64).fact a2 [.int .i64 a2]), (FnOk Tryz.prog w495 (sp116 p3)), ((Ty.int .i64).fact x499 [.int .i64 x499])]⟩ : St) _
    rw [m143_l2] at hr
    refine at_inv 2 rfl (fun l514 => ?_)
    replace l514 : (-9223372036854775808) ≤ x508 ∧ x508 ≤ 9223372036854775807 := l514
    refine at_seq (at_seq ?_)
    by_cases h515 : a1 < x508
    ·replace hr := ipos h515 hr
     replace hr := obind hr
     obtain ⟨x516, h517, hr⟩ := hr
     have := at?_lt h517
     refine at_rown 0 0 rfl rfl rfl (fun hn520 => ?_)
     refine at_box 0 rfl (by omega) (fun b521 q522 n523 hl524 hf525 => ?_)
     refine at_relem 0 q522 rfl h517 (fun ec he519 => ?_)
     refine at_open (A := Value) 0 rfl _ _ (fun F w h => op69 h) ?_
     rintro s518 rfl
     replace hr := obind hr
     obtain ⟨x526, h527, hr⟩ := hr
     have := at?_lt h527
     refine at_relem 3 q522 rfl h527 (fun ec he529 => ?_)
     refine at_open (A := Value) 0 rfl _ _ (fun F w h => op69 h) ?_
     rintro s528 rfl
     replace hr := obind hr
     obtain ⟨x530, h531, hr⟩ := hr
     refine aa_start 17 (by kernel_rfl) ?_
     refine aa_p 0 rfl (lt_move rfl) (aa_p 1 rfl (lt_move rfl) (aa_p 2 rfl (lt_gtr rfl rfl) (aa_p 3 rfl (lt_move rfl) ?_)))
     refine aa_pg 4 rfl ⟨21, rfl, .inl ⟨_, rfl, gdq (v := true) (decide_eq_true (by first | exact h515 | omega)) rfl⟩⟩ (lt_move rfl) ?_
     refine aa_pg 5 rfl ⟨21, rfl, .inl ⟨_, rfl, gdq (v := true) (decide_eq_true (by first | exact h515 | omega)) rfl⟩⟩ (lt_move rfl) ?_
     refine aa_pg 6 rfl ⟨21, rfl, .inl ⟨_, rfl, gdq (v := true) (decide_eq_true (by first | exact h515 | omega)) rfl⟩⟩ (lt_move rfl) ?_
     refine aa_pg 7 rfl ⟨21, rfl, .inl ⟨_, rfl, gdq (v := true) (decide_eq_true (by first | exact h515 | omega)) rfl⟩⟩ (lt_idx rfl rfl (ptrAt_of (ix := x508) hf525 (by omega) (by omega)) und23 ti69) ?_
     refine aa_lg 8 rfl ⟨21, rfl, .inl ⟨_, rfl, gdq (v := true) (decide_eq_true (by first | exact h515 | omega)) rfl⟩⟩ (lt_load_rb 0 rfl ti69 rfl he519 rfl rfl rfl) ?_
     refine aa_pg 9 rfl ⟨21, rfl, .inl ⟨_, rfl, gdq (v := true) (decide_eq_true (by first | exact h515 | omega)) rfl⟩⟩ (lt_move rfl) ?_
     refine aa_pg 10 rfl ⟨21, rfl, .inl ⟨_, rfl, gdq (v := true) (decide_eq_true (by first | exact h515 | omega)) rfl⟩⟩ (lt_move rfl) ?_
     refine aa_pg 11 rfl ⟨21, rfl, .inl ⟨_, rfl, gdq (v := true) (decide_eq_true (by first | exact h515 | omega)) rfl⟩⟩ (lt_subw rfl rfl) ?_
     refine aa_pg 12 rfl ⟨21, rfl, .inl ⟨_, rfl, gdq (v := true) (decide_eq_true (by first | exact h515 | omega)) rfl⟩⟩ (lt_idx rfl rfl (ptrAt_of (ix := IntKind.i64.wrap (x508 - 1)) hf525 (by omega) (by omega)) und23 ti69) ?_
     refine aa_lg 13 rfl ⟨21, rfl, .inl ⟨_, rfl, gdq (v := true) (decide_eq_true (by first | exact h515 | omega)) rfl⟩⟩ (lt_load_rb 0 rfl ti69 rfl he529 rfl rfl rfl) ?_
     refine aa_one 14 ?_
     refine aa_op rfl ⟨21, rfl, .inl ⟨_, rfl, gdq (v := true) (decide_eq_true (by first | exact h515 | omega)) rfl⟩⟩ ?_
     refine hv_callf 11 [5, 2] rfl rfl rfl ⟨x516, x526, x530, s518, s528, h531, rfl, rfl, rfl⟩ rfl rfl ?_
     rintro _ _ ⟨rfl, rfl⟩
     refine at_inv 0 rfl (fun l533 => ?_)
     replace l533 : (-9223372036854775808) ≤ x530 ∧ x530 ≤ 9223372036854775807 := l533
     refine aa_pure 15 rfl (by kernel_rfl) rfl ⟨21, rfl, .inl ⟨_, rfl, gdq (v := true) (decide_eq_true (by first | exact h515 | omega)) rfl⟩⟩ (lt_lss rfl rfl) rfl (ts_in 0 1 rfl rfl) ?_
     refine aa_pure 16 rfl (by kernel_rfl) rfl rfl (lt_pick true rfl (decide_eq_true (by first | exact h515 | omega)) rfl) rfl (ts_in 0 1 rfl rfl) ?_
     refine aa_done (by kernel_rfl) (ts_in 0 1 rfl rfl) ?_
     refine at_unbox (sz := 4) rfl hl524 hf525 (at_then ?_)
     by_cases h534 : x530 < 0
     ·replace hr := ipos h534 hr
      refine at_true rfl (decide_eq_true (by first | exact h534 | omega)) ?_
      refine at_skip (at_then (at_seq (at_block ?_)))
      replace hr := obind hr
      obtain ⟨x535, h536, hr⟩ := hr
      have := at?_lt h536
      refine at_rown 0 7 rfl rfl rfl (fun hn539 => ?_)
      refine at_box 0 rfl (by omega) (fun b540 q541 n542 hl543 hf544 => ?_)
      refine at_relem 7 q541 rfl h536 (fun ec he538 => ?_)
      refine at_open (A := Value) 0 rfl _ _ (fun F w h => op69 h) ?_
      rintro s537 rfl
      replace hr := obind hr
      obtain ⟨x545, h546, hr⟩ := hr
      have := at?_lt h546
      refine at_relem 10 q541 rfl h546 (fun ec he548 => ?_)
      refine at_open (A := Value) 0 rfl _ _ (fun F w h => op69 h) ?_
      rintro s547 rfl
      replace hr := obind hr
      obtain ⟨x549, h550, hr⟩ := hr
      have := at?_lt h550
      replace hr := obind hr
      obtain ⟨x557, h558, hr⟩ := hr
      have := at?_lt h558
      refine aa_start 15 (by kernel_rfl) ?_
      refine aa_p 0 rfl (lt_move rfl) (aa_p 1 rfl (lt_move rfl) (aa_p 2 rfl (lt_move rfl) (aa_p 3 rfl (lt_move rfl) (aa_p 4 rfl (lt_subw rfl rfl) (aa_p 5 rfl (lt_move rfl) (aa_p 6 rfl (lt_move rfl) (aa_p 7 rfl (lt_subw rfl rfl) ?_)))))))
      refine aa_p 8 rfl (lt_idx rfl rfl (ptrAt_of (ix := IntKind.i64.wrap (x508 - 1)) hf544 (by omega) (by omega)) und23 ti69) ?_
      refine aa_l 9 rfl (lt_load_rb 0 rfl ti69 rfl he538 rfl rfl rfl) (aa_p 10 rfl (lt_move rfl) (aa_p 11 rfl (lt_move rfl) ?_))
      refine aa_p 12 rfl (lt_idx rfl rfl (ptrAt_of (ix := x508) hf544 (by omega) (by omega)) und23 ti69) ?_
      refine aa_l 13 rfl (lt_load_rb 0 rfl ti69 rfl he548 rfl rfl rfl) ?_
      refine aa_p 14 rfl (lt_idx rfl rfl (ptrAt_of (ix := x508) hf544 (by omega) (by omega)) und23 ti69) ?_
      refine aa_one 15 ?_
      refine at_pure 14 rfl (fun hb564 => ?_)
      refine at_one 4 rfl (fun ho565 => ?_)
      refine aa_op rfl rfl ?_
      refine hv_store_rb 0 (k := x508.toNat * 4) (m := n493 * 4) (cs := [str x535.Tag, .int .u8 (x535.Ind_0.toNat : Int), .int .u8 (x535.Ind_1.toNat : Int), s537]) (inner' := (i509.take (x508.toNat * 4) ++ ([str x535.Tag, .int .u8 (x535.Ind_0.toNat : Int), .int .u8 (x535.Ind_1.toNat : Int), s537] : List Value) ++ i509.drop (x508.toNat * 4 + 4))) rfl rfl ti69 rfl rfl rfl hl543 (by omega) (allc rfl (allc rfl (allc rfl (allc ho565 rfl)))) rfl ?_
      have hl566 : (i509.take (x508.toNat * 4) ++ ([str x535.Tag, .int .u8 (x535.Ind_0.toNat : Int), .int .u8 (x535.Ind_1.toNat : Int), s537] : List Value) ++ i509.drop (x508.toNat * 4 + 4)).length = n493 * 4 := rb_len (by simp only [List.length_cons, List.length_nil]; omega) hl543
      have hf567 := RowF.len hf544 (l' := ((i509.take (x508.toNat * 4) ++ ([str x535.Tag, .int .u8 (x535.Ind_0.toNat : Int), .int .u8 (x535.Ind_1.toNat : Int), s537] : List Value) ++ i509.drop (x508.toNat * 4 + 4)) ++ q541).length) (by simp only [List.length_append, hl566, hl543])
      refine at_rowset (inner' := (i509.take (x508.toNat * 4) ++ ([str x535.Tag, .int .u8 (x535.Ind_0.toNat : Int), .int .u8 (x535.Ind_1.toNat : Int), s537] : List Value) ++ i509.drop (x508.toNat * 4 + 4))) 13 5 x508.toNat rfl rfl (by omega) rfl ?_
      refine aa_all (rs := [16]) (by kernel_rfl) rfl (ts_out rfl) (List.forall_mem_singleton.2 ?_)
      refine aa_op rfl rfl ?_
      refine hv_lt (lt_idx rfl rfl (ptrAt_of (ix := IntKind.i64.wrap (x508 - 1)) hf567 (by omega) (by omega)) und23 ti69) rfl ?_
      refine aa_all (rs := [17]) (by kernel_rfl) rfl (ts_out rfl) (List.forall_mem_singleton.2 ?_)
      refine at_one 2 rfl (fun ho568 => ?_)
      refine aa_op rfl rfl ?_
      refine hv_store_rb 0 (k := (IntKind.i64.wrap (x508 - 1)).toNat * 4) (m := n493 * 4) (cs := [str x545.Tag, .int .u8 (x545.Ind_0.toNat : Int), .int .u8 (x545.Ind_1.toNat : Int), s547]) (inner' := ((i509.take (x508.toNat * 4) ++ ([str x535.Tag, .int .u8 (x535.Ind_0.toNat : Int), .int .u8 (x535.Ind_1.toNat : Int), s537] : List Value) ++ i509.drop (x508.toNat * 4 + 4)).take ((IntKind.i64.wrap (x508 - 1)).toNat * 4) ++ ([str x545.Tag, .int .u8 (x545.Ind_0.toNat : Int), .int .u8 (x545.Ind_1.toNat : Int), s547] : List Value) ++ (i509.take (x508.toNat * 4) ++ ([str x535.Tag, .int .u8 (x535.Ind_0.toNat : Int), .int .u8 (x535.Ind_1.toNat : Int), s537] : List Value) ++ i509.drop (x508.toNat * 4 + 4)).drop ((IntKind.i64.wrap (x508 - 1)).toNat * 4 + 4))) rfl rfl ti69 rfl rfl rfl hl566 (by omega) (allc rfl (allc rfl (allc rfl (allc ho568 rfl)))) rfl ?_
      have hl569 : ((i509.take (x508.toNat * 4) ++ ([str x535.Tag, .int .u8 (x535.Ind_0.toNat : Int), .int .u8 (x535.Ind_1.toNat : Int), s537] : List Value) ++ i509.drop (x508.toNat * 4 + 4)).take ((IntKind.i64.wrap (x508 - 1)).toNat * 4) ++ ([str x545.Tag, .int .u8 (x545.Ind_0.toNat : Int), .int .u8 (x545.Ind_1.toNat : Int), s547] : List Value) ++ (i509.take (x508.toNat * 4) ++ ([str x535.Tag, .int .u8 (x535.Ind_0.toNat : Int), .int .u8 (x535.Ind_1.toNat : Int), s537] : List Value) ++ i509.drop (x508.toNat * 4 + 4)).drop ((IntKind.i64.wrap (x508 - 1)).toNat * 4 + 4)).length = n493 * 4 := rb_len (by simp only [List.length_cons, List.length_nil]; omega) hl566
      have hf570 := RowF.len hf567 (l' := (((i509.take (x508.toNat * 4) ++ ([str x535.Tag, .int .u8 (x535.Ind_0.toNat : Int), .int .u8 (x535.Ind_1.toNat : Int), s537] : List Value) ++ i509.drop (x508.toNat * 4 + 4)).take ((IntKind.i64.wrap (x508 - 1)).toNat * 4) ++ ([str x545.Tag, .int .u8 (x545.Ind_0.toNat : Int), .int .u8 (x545.Ind_1.toNat : Int), s547] : List Value) ++ (i509.take (x508.toNat * 4) ++ ([str x535.Tag, .int .u8 (x535.Ind_0.toNat : Int), .int .u8 (x535.Ind_1.toNat : Int), s537] : List Value) ++ i509.drop (x508.toNat * 4 + 4)).drop ((IntKind.i64.wrap (x508 - 1)).toNat * 4 + 4)) ++ q541).length) (by simp only [List.length_append, hl569, hl566])
      refine at_rowset (inner' := ((i509.take (x508.toNat * 4) ++ ([str x535.Tag, .int .u8 (x535.Ind_0.toNat : Int), .int .u8 (x535.Ind_1.toNat : Int), s537] : List Value) ++ i509.drop (x508.toNat * 4 + 4)).take ((IntKind.i64.wrap (x508 - 1)).toNat * 4) ++ ([str x545.Tag, .int .u8 (x545.Ind_0.toNat : Int), .int .u8 (x545.Ind_1.toNat : Int), s547] : List Value) ++ (i509.take (x508.toNat * 4) ++ ([str x535.Tag, .int .u8 (x535.Ind_0.toNat : Int), .int .u8 (x535.Ind_1.toNat : Int), s537] : List Value) ++ i509.drop (x508.toNat * 4 + 4)).drop ((IntKind.i64.wrap (x508 - 1)).toNat * 4 + 4))) 0 3 (IntKind.i64.wrap (x508 - 1)).toNat rfl rfl (by omega) rfl ?_
      refine aa_done (by kernel_rfl) (ts_out rfl) ?_
      refine at_unbox (sz := 4) rfl hl569 hf570 (at_in (s_tr (s_mv rfl (at_lt (lt_subw rfl rfl) rfl (s_as rfl (at_nil ?_))))))
      refine at_mkpure (q := (((x507.set x508.toNat x535).set (IntKind.i64.wrap (x508 - 1)).toNat x545).length * ty69.bytes ≤ 140737488355328)) (by rw [List.length_set]; exact (by rw [List.length_set]; exact hb564)) ?_
      refine at_int .i64 (IntKind.i64.wrap (x508 - 1)) (wrap_bd .i64 _) ?_
      exact at_again (σ := ((List D_api_Field) × Int)) (V := (List Value)) (lp := fun n s => m143_l2 a1 p3 n s.1 s.2) (S := fun s e => (⟨[(0, w492), (1, .int .i64 a1), (2, .int .i64 a2), (3, w495), (8, .int .i64 x499), (9, .int .i64 s.2)], [], [⟨w492, 69, 4, n493, e⟩], [(ty69.row s.1 e), (pureF (s.1.length * ty69.bytes ≤ 140737488355328)), ((Ty.int .i64).fact s.2 [.int .i64 s.2]), ((Ty.int .i64).fact a1 [.int .i64 a1]), ((Ty.int .i64).fact a2 [.int .i64 a2]), (FnOk Tryz.prog w495 (sp116 p3)), ((Ty.int .i64).fact x499 [.int .i64 x499])]⟩ : St)) ((x507.set x508.toNat x535).set (IntKind.i64.wrap (x508 - 1)).toNat x545, IntKind.i64.wrap (x508 - 1)) ((i509.take (x508.toNat * 4) ++ ([str x535.Tag, .int .u8 (x535.Ind_0.toNat : Int), .int .u8 (x535.Ind_1.toNat : Int), s537] : List Value) ++ i509.drop (x508.toNat * 4 + 4)).take ((IntKind.i64.wrap (x508 - 1)).toNat * 4) ++ ([str x545.Tag, .int .u8 (x545.Ind_0.toNat : Int), .int .u8 (x545.Ind_1.toNat : Int), s547] : List Value) ++ (i509.take (x508.toNat * 4) ++ ([str x535.Tag, .int .u8 (x535.Ind_0.toNat : Int), .int .u8 (x535.Ind_1.toNat : Int), s537] : List Value) ++ i509.drop (x508.toNat * 4 + 4)).drop ((IntKind.i64.wrap (x508 - 1)).toNat * 4 + 4)) hr ⟨⟨rfl, ⟨rfl, ⟨rfl, ⟨rfl, ⟨rfl, ⟨rfl, trivial⟩⟩⟩⟩⟩⟩, ⟨[], rfl⟩, ⟨[true], rfl⟩, ⟨[2, 1, 0, 20, 21, 22, 23], rfl⟩⟩
     replace hr := ineg h534 hr
     refine at_false rfl (decide_eq_false (by first | exact h534 | omega)) ?_
     refine at_exit (at_then_exit (at_then_exit (at_in_exit ?_)))
     have hq := oinj hr
     clear hr
     subst hq
     exact at_leaf i509 ⟨⟨rfl, ⟨rfl, ⟨rfl, ⟨rfl, ⟨rfl, trivial⟩⟩⟩⟩⟩, ⟨[], rfl⟩, ⟨[true], rfl⟩, ⟨[7, 8, 10, 11, 12, 13], rfl⟩⟩
    replace hr := ineg h515 hr
    refine aa_start 17 (by kernel_rfl) ?_
    refine aa_p 0 rfl (lt_move rfl) (aa_p 1 rfl (lt_move rfl) (aa_p 2 rfl (lt_gtr rfl rfl) (aa_p 3 rfl (lt_move rfl) ?_)))
    refine aa_o 4 rfl ⟨21, rfl, .inl ⟨_, rfl, gdq (v := false) (decide_eq_false (by first | exact h515 | omega)) rfl⟩⟩ ?_
    refine aa_o 5 rfl ⟨21, rfl, .inl ⟨_, rfl, gdq (v := false) (decide_eq_false (by first | exact h515 | omega)) rfl⟩⟩ ?_
    refine aa_o 6 rfl ⟨21, rfl, .inl ⟨_, rfl, gdq (v := false) (decide_eq_false (by first | exact h515 | omega)) rfl⟩⟩ ?_
    refine aa_o 7 rfl ⟨21, rfl, .inl ⟨_, rfl, gdq (v := false) (decide_eq_false (by first | exact h515 | omega)) rfl⟩⟩ ?_
    refine aa_o 8 rfl ⟨21, rfl, .inl ⟨_, rfl, gdq (v := false) (decide_eq_false (by first | exact h515 | omega)) rfl⟩⟩ ?_
    refine aa_o 9 rfl ⟨21, rfl, .inl ⟨_, rfl, gdq (v := false) (decide_eq_false (by first | exact h515 | omega)) rfl⟩⟩ ?_
    refine aa_o 10 rfl ⟨21, rfl, .inl ⟨_, rfl, gdq (v := false) (decide_eq_false (by first | exact h515 | omega)) rfl⟩⟩ ?_
    refine aa_o 11 rfl ⟨21, rfl, .inl ⟨_, rfl, gdq (v := false) (decide_eq_false (by first | exact h515 | omega)) rfl⟩⟩ ?_
    refine aa_o 12 rfl ⟨21, rfl, .inl ⟨_, rfl, gdq (v := false) (decide_eq_false (by first | exact h515 | omega)) rfl⟩⟩ ?_
    refine aa_o 13 rfl ⟨21, rfl, .inl ⟨_, rfl, gdq (v := false) (decide_eq_false (by first | exact h515 | omega)) rfl⟩⟩ ?_
    refine aa_o 14 rfl ⟨21, rfl, .inl ⟨_, rfl, gdq (v := false) (decide_eq_false (by first | exact h515 | omega)) rfl⟩⟩ ?_
    refine aa_o 15 rfl ⟨21, rfl, .inl ⟨_, rfl, gdq (v := false) (decide_eq_false (by first | exact h515 | omega)) rfl⟩⟩ ?_
    refine aa_p 16 rfl (lt_pick false rfl (decide_eq_false (by first | exact h515 | omega)) rfl) ?_
    refine aa_done (by kernel_rfl) (ts_in 0 0 rfl rfl) ?_
    refine at_then (at_false rfl rfl (at_exit (at_then_exit (at_then_exit (at_in_exit ?_)))))
    have hq := oinj hr
    clear hr
    subst hq
    exact at_leaf i509 ⟨⟨rfl, ⟨rfl, ⟨rfl, ⟨rfl, ⟨rfl, trivial⟩⟩⟩⟩⟩, ⟨[], rfl⟩, ⟨[true], rfl⟩, ⟨[0, 1, 3, 4, 5, 6], rfl⟩⟩
   clear hl512
   intro i511
   change At _ _ (⟨[(0, w492), (1, .int .i64 a1), (2, .int .i64 a2), (3, w495), (8, .int .i64 x499)], [], [⟨w492, 69, 4, n493, i511⟩], [(ty69.row x510 i511), (pureF (x510.length * ty69.bytes ≤ 140737488355328)), ((Ty.int .i64).fact a1 [.int .i64 a1]), ((Ty.int .i64).fact a2 [.int .i64 a2]), (FnOk Tryz.prog w495 (sp116 p3)), ((Ty.int .i64).fact x499 [.int .i64 x499])]⟩ : St) _
   refine at_in (s_tr (s_mv rfl (at_lt (lt_addw rfl rfl) rfl (s_as rfl (at_nil (at_int .i64 (IntKind.i64.wrap (x499 + 1)) (wrap_bd .i64 _) ?_))))))
   exact at_again (σ := ((List D_api_Field) × Int)) (V := (List Value)) (lp := fun n s => m143_l1 a1 a2 p3 n s.1 s.2) (S := fun s e => (⟨[(0, w492), (1, .int .i64 a1), (2, .int .i64 a2), (3, w495), (8, .int .i64 s.2)], [], [⟨w492, 69, 4, n493, e⟩], [(ty69.row s.1 e), (pureF (s.1.length * ty69.bytes ≤ 140737488355328)), ((Ty.int .i64).fact s.2 [.int .i64 s.2]), ((Ty.int .i64).fact a1 [.int .i64 a1]), ((Ty.int .i64).fact a2 [.int .i64 a2]), (FnOk Tryz.prog w495 (sp116 p3))]⟩ : St)) (x510, IntKind.i64.wrap (x499 + 1)) i511 hr ⟨⟨rfl, ⟨rfl, ⟨rfl, ⟨rfl, ⟨rfl, trivial⟩⟩⟩⟩⟩, ⟨[], rfl⟩, ⟨[true], rfl⟩, ⟨[1, 2, 0, 3, 4, 5], rfl⟩⟩
  replace hr := ineg h506 hr
  refine at_false rfl (decide_eq_false (by first | exact h506 | omega)) ?_
  refine at_exit (at_then_exit (at_then_exit (at_in_exit ?_)))
  have hq := oinj hr
  clear hr
  subst hq
  exact at_leaf i500 ⟨⟨rfl, trivial⟩, ⟨[], rfl⟩, ⟨[true], rfl⟩, ⟨[0, 1], rfl⟩⟩
 clear hl503
 intro i502
 change At _ _ (⟨[(0, w492)], [], [⟨w492, 69, 4, n493, i502⟩], [(ty69.row x501 i502), (pureF (x501.length * ty69.bytes ≤ 140737488355328))]⟩ : St) _
 have hq := oinj hr
 clear hr
 subst hq
 exact at_returnG (.tuple #[]) [true] [0, 1] hS Tryz.results143 (.nil) rfl rfl rfl ⟨rfl, _, rfl, rfl⟩
def m110_l1 (a1 : Int) (p2 : (D_api_Field → D_api_Field → Option Int)) : Nat → (List D_api_Field) → Int → Int → Option ((List D_api_Field) × Int)
  | 0, _, _, _ => none
  | k + 1, x576, x577, x578 =>
    if x578 ≤ a1 then
     (m143 x576 x577 x578 p2).bind fun x589 =>
     m110_l1 a1 p2 k x589 x578 (IntKind.i64.wrap (x578 + 20))
    else
     some (x576, x577)
def m110_l3 (a1 : Int) : Nat → Int → Int → Option Int
  | 0, _, _ => none
  | k + 1, x604, x605 =>
    if x605 ≤ a1 then
     none
    else
     some x604
def m110_l2 (a1 : Int) : Nat → Int → Option Unit
  | 0, _ => none
  | k + 1, x598 =>
    if x598 < a1 then
     (m110_l3 a1 9223372036854775808 0 (IntKind.i64.wrap (2 * x598))).bind fun x606 =>
     Option.bind (α := Unit) (
      if IntKind.i64.wrap (x606 + x598) < a1 then
       none
      else
       some ()
     ) fun _ =>
     m110_l2 a1 k (IntKind.i64.wrap (x598 * 2))
    else
     some ()
def m110 (a0 : (List D_api_Field)) (a1 : Int) (p2 : (D_api_Field → D_api_Field → Option Int)) : Option (List D_api_Field) :=
  (m110_l1 a1 p2 9223372036854775808 a0 0 20).bind fun (x580, x581) =>
  (m143 x580 x581 a1 p2).bind fun x594 =>
  (m110_l2 a1 9223372036854775808 20).bind fun _ =>
  some x594
def post110 (v : Value) (n : Nat) (r : (List D_api_Field)) (u : Value) (rw : List Row) (fs : List Fact) : Prop := u = .tuple #[] ∧ ∃ i, rw = [⟨v, 69, 4, n, i⟩] ∧ fs = [(ty69.row r i), (pureF (r.length * ty69.bytes ≤ 140737488355328))]
theorem en110 : Enters Tryz.prog 110 := ⟨_, Tryz.func110, by kernel_rfl, rfl⟩
theorem f110_spec {a0 : (List D_api_Field)} {a1 : Int} {p2 : (D_api_Field → D_api_Field → Option Int)} {w571 : Value} {n572 : Nat} {i573 : List Value} {w574 : Value} {r : (List D_api_Field)} (hr : m110 a0 a1 p2 = some r) : SpecG Tryz.prog 110 [w571, .int .i64 a1, w574] [⟨w571, 69, 4, n572, i573⟩] [(ty69.row a0 i573), (pureF (a0.length * ty69.bytes ≤ 140737488355328)), ((Ty.int .i64).fact a1 [.int .i64 a1]), (FnOk Tryz.prog w574 (sp116 p2))] (post110 w571 n572 r) := by
 refine specG_start (N := 63) Tryz.func110 (by kernel_rfl) rfl rfl rfl ?_
 intro g hS
 unfold m110 at hr
 refine at_inv 2 rfl (fun l575 => ?_)
 replace l575 : (-9223372036854775808) ≤ a1 ∧ a1 ≤ 9223372036854775807 := l575
 refine s_sr (s_as rfl (s_ntsr (s_mv rfl (s_as rfl (s_as rfl (s_nt (at_seq (at_int .i64 0 (by simp only [lo, hi]; omega) (at_int .i64 20 (by simp only [lo, hi]; omega) ?_)))))))))
 replace hr := obind hr
 obtain ⟨r583, hl584, hr⟩ := hr
 refine at_cut (V := (List Value)) (fun e => (⟨[(0, w571), (1, .int .i64 a1), (2, w574), (6, .int .i64 20), (7, .int .i64 r583.2)], [], [⟨w571, 69, 4, n572, e⟩], [(ty69.row r583.1 e), (pureF (r583.1.length * ty69.bytes ≤ 140737488355328)), ((Ty.int .i64).fact r583.2 [.int .i64 r583.2]), ((Ty.int .i64).fact a1 [.int .i64 a1]), (FnOk Tryz.prog w574 (sp116 p2))]⟩ : St)) ?_ ?_
 ·refine at_block ?_
  refine at_loopW (σ := ((List D_api_Field) × Int × Int)) (V := (List Value)) (r := r583) (fun n s => m110_l1 a1 p2 n s.1 s.2.1 s.2.2) (fun s e => (⟨[(0, w571), (1, .int .i64 a1), (2, w574), (6, .int .i64 20), (7, .int .i64 s.2.1), (8, .int .i64 s.2.2)], [], [⟨w571, 69, 4, n572, e⟩], [(ty69.row s.1 e), (pureF (s.1.length * ty69.bytes ≤ 140737488355328)), ((Ty.int .i64).fact s.2.1 [.int .i64 s.2.1]), ((Ty.int .i64).fact s.2.2 [.int .i64 s.2.2]), ((Ty.int .i64).fact a1 [.int .i64 a1]), (FnOk Tryz.prog w574 (sp116 p2))]⟩ : St)) (fun _ => rfl) _ (a0, 0, 20) i573 hl584 ⟨⟨rfl, ⟨rfl, ⟨rfl, ⟨rfl, ⟨rfl, ⟨rfl, trivial⟩⟩⟩⟩⟩⟩, ⟨[], rfl⟩, ⟨[true], rfl⟩, ⟨[2, 3, 1, 0, 4, 5], rfl⟩⟩ ?_
  clear hr hl584
  intro n s hr i579
  obtain ⟨x576, x577, x578⟩ := s
  skip
  change m110_l1 a1 p2 (n + 1) x576 x577 x578 = some r583 at hr
  change At _ _ (⟨[(0, w571), (1, .int .i64 a1), (2, w574), (6, .int .i64 20), (7, .int .i64 x577), (8, .int .i64 x578)], [], [⟨w571, 69, 4, n572, i579⟩], [(ty69.row x576 i579), (pureF (x576.length * ty69.bytes ≤ 140737488355328)), ((Ty.int .i64).fact x577 [.int .i64 x577]), ((Ty.int .i64).fact x578 [.int .i64 x578]), ((Ty.int .i64).fact a1 [.int .i64 a1]), (FnOk Tryz.prog w574 (sp116 p2))]⟩ : St) _
  rw [m110_l1] at hr
  refine at_inv 2 rfl (fun l586 => ?_)
  replace l586 : (-9223372036854775808) ≤ x577 ∧ x577 ≤ 9223372036854775807 := l586
  refine at_inv 3 rfl (fun l587 => ?_)
  replace l587 : (-9223372036854775808) ≤ x578 ∧ x578 ≤ 9223372036854775807 := l587
  refine at_seq (s_sr (s_mv rfl (s_mv rfl (at_lt (lt_leq rfl rfl) rfl (s_nt ?_)))))
  by_cases h588 : x578 ≤ a1
  ·replace hr := ipos h588 hr
   refine at_true rfl (decide_eq_true (by first | exact h588 | omega)) ?_
   refine at_skip (at_then (at_block (s_sr (s_mv rfl (s_mv rfl (s_mv rfl (s_mv rfl ?_)))))))
   replace hr := obind hr
   obtain ⟨x589, h590, hr⟩ := hr
   refine at_pure 1 rfl (fun hb591 => ?_)
   refine at_hv rfl (hv_callG0 [true] [0, 1, 2, 3, 5] (f143_spec h590) rfl rfl rfl rfl rfl rfl ?_)
   rintro _ _ _ ⟨rfl, i592, rfl, rfl⟩
   refine s_ntsr (s_mv rfl (s_as rfl (at_nil (s_tr (s_mv rfl (s_mv rfl (at_lt (lt_addw rfl rfl) rfl (s_as rfl (at_nil ?_)))))))))
   refine at_in (at_int .i64 (IntKind.i64.wrap (x578 + 20)) (wrap_bd .i64 _) ?_)
   exact at_again (σ := ((List D_api_Field) × Int × Int)) (V := (List Value)) (lp := fun n s => m110_l1 a1 p2 n s.1 s.2.1 s.2.2) (S := fun s e => (⟨[(0, w571), (1, .int .i64 a1), (2, w574), (6, .int .i64 20), (7, .int .i64 s.2.1), (8, .int .i64 s.2.2)], [], [⟨w571, 69, 4, n572, e⟩], [(ty69.row s.1 e), (pureF (s.1.length * ty69.bytes ≤ 140737488355328)), ((Ty.int .i64).fact s.2.1 [.int .i64 s.2.1]), ((Ty.int .i64).fact s.2.2 [.int .i64 s.2.2]), ((Ty.int .i64).fact a1 [.int .i64 a1]), (FnOk Tryz.prog w574 (sp116 p2))]⟩ : St)) (x589, x578, IntKind.i64.wrap (x578 + 20)) i592 hr ⟨⟨rfl, ⟨rfl, ⟨rfl, ⟨rfl, ⟨rfl, ⟨rfl, trivial⟩⟩⟩⟩⟩⟩, ⟨[], rfl⟩, ⟨[true], rfl⟩, ⟨[1, 2, 6, 0, 7, 8], rfl⟩⟩
  replace hr := ineg h588 hr
  refine at_false rfl (decide_eq_false (by first | exact h588 | omega)) ?_
  refine at_exit (at_then_exit (at_then_exit (at_in_exit ?_)))
  have hq := oinj hr
  clear hr
  subst hq
  exact at_leaf i579 ⟨⟨rfl, ⟨rfl, ⟨rfl, ⟨rfl, ⟨rfl, trivial⟩⟩⟩⟩⟩, ⟨[], rfl⟩, ⟨[true], rfl⟩, ⟨[0, 1, 2, 4, 5], rfl⟩⟩
 clear hl584
 obtain ⟨x580, x581⟩ := r583
 intro i582
 change At _ _ (⟨[(0, w571), (1, .int .i64 a1), (2, w574), (6, .int .i64 20), (7, .int .i64 x581)], [], [⟨w571, 69, 4, n572, i582⟩], [(ty69.row x580 i582), (pureF (x580.length * ty69.bytes ≤ 140737488355328)), ((Ty.int .i64).fact x581 [.int .i64 x581]), ((Ty.int .i64).fact a1 [.int .i64 a1]), (FnOk Tryz.prog w574 (sp116 p2))]⟩ : St) _
 refine at_inv 2 rfl (fun l593 => ?_)
 replace l593 : (-9223372036854775808) ≤ x581 ∧ x581 ≤ 9223372036854775807 := l593
 refine s_tsr (s_mv rfl (s_mv rfl (s_mv rfl (s_mv rfl ?_))))
 replace hr := obind hr
 obtain ⟨x594, h595, hr⟩ := hr
 refine at_pure 1 rfl (fun hb596 => ?_)
 refine at_hv rfl (hv_callG0 [true] [0, 1, 2, 3, 4] (f143_spec h595) rfl rfl rfl rfl rfl rfl ?_)
 rintro _ _ _ ⟨rfl, i597, rfl, rfl⟩
 refine s_nt (at_int .i64 20 (by simp only [lo, hi]; omega) ?_)
 replace hr := obind hr
 obtain ⟨r599, hl600, hr⟩ := hr
 refine at_cut (V := Unit) (fun e => (⟨[(0, w571)], [], [⟨w571, 69, 4, n572, i597⟩], [(ty69.row x594 i597), (pureF (x594.length * ty69.bytes ≤ 140737488355328))]⟩ : St)) ?_ ?_
 ·refine at_block ?_
  refine at_loopW (σ := Int) (V := Unit) (r := r599) (fun n s => m110_l2 a1 n s) (fun s e => (⟨[(0, w571), (1, .int .i64 a1), (2, w574), (6, .int .i64 s)], [], [⟨w571, 69, 4, n572, i597⟩], [((Ty.int .i64).fact s [.int .i64 s]), (ty69.row x594 i597), (pureF (x594.length * ty69.bytes ≤ 140737488355328)), ((Ty.int .i64).fact a1 [.int .i64 a1]), (FnOk Tryz.prog w574 (sp116 p2))]⟩ : St)) (fun _ => rfl) _ 20 () hl600 ⟨⟨rfl, ⟨rfl, ⟨rfl, ⟨rfl, trivial⟩⟩⟩⟩, ⟨[], rfl⟩, ⟨[true], rfl⟩, ⟨[0, 1, 2, 6, 7], rfl⟩⟩ ?_
  clear hr hl600
  intro n x598 hr e
  skip
  skip
  change m110_l2 a1 (n + 1) x598 = some r599 at hr
  change At _ _ (⟨[(0, w571), (1, .int .i64 a1), (2, w574), (6, .int .i64 x598)], [], [⟨w571, 69, 4, n572, i597⟩], [((Ty.int .i64).fact x598 [.int .i64 x598]), (ty69.row x594 i597), (pureF (x594.length * ty69.bytes ≤ 140737488355328)), ((Ty.int .i64).fact a1 [.int .i64 a1]), (FnOk Tryz.prog w574 (sp116 p2))]⟩ : St) _
  rw [m110_l2] at hr
  refine at_inv 0 rfl (fun l602 => ?_)
  replace l602 : (-9223372036854775808) ≤ x598 ∧ x598 ≤ 9223372036854775807 := l602
  refine at_seq (s_sr (s_mv rfl (s_mv rfl (at_lt (lt_lss rfl rfl) rfl (s_nt ?_)))))
  by_cases h603 : x598 < a1
  ·replace hr := ipos h603 hr
   refine at_true rfl (decide_eq_true (by first | exact h603 | omega)) ?_
   refine at_skip (at_then (at_block (s_sr (s_mv rfl (at_lt (lt_mulw rfl rfl) rfl (s_as rfl (s_as rfl (s_nt (at_seq ?_)))))))))
   refine at_int .i64 0 (by simp only [lo, hi]; omega) (at_int .i64 (IntKind.i64.wrap (2 * x598)) (wrap_bd .i64 _) ?_)
   replace hr := obind hr
   obtain ⟨x606, hl607, hr⟩ := hr
   refine at_cut (V := Unit) (fun e => (⟨[(0, w571), (1, .int .i64 a1), (2, w574), (6, .int .i64 x598), (7, .int .i64 x606)], [], [⟨w571, 69, 4, n572, i597⟩], [((Ty.int .i64).fact x606 [.int .i64 x606]), (ty69.row x594 i597), (pureF (x594.length * ty69.bytes ≤ 140737488355328)), ((Ty.int .i64).fact a1 [.int .i64 a1]), (FnOk Tryz.prog w574 (sp116 p2)), ((Ty.int .i64).fact x598 [.int .i64 x598])]⟩ : St)) ?_ ?_
   ·refine at_block ?_
    refine at_loopW (σ := (Int × Int)) (V := Unit) (r := x606) (fun n s => m110_l3 a1 n s.1 s.2) (fun s e => (⟨[(0, w571), (1, .int .i64 a1), (2, w574), (6, .int .i64 x598), (7, .int .i64 s.1), (8, .int .i64 s.2)], [], [⟨w571, 69, 4, n572, i597⟩], [((Ty.int .i64).fact s.1 [.int .i64 s.1]), ((Ty.int .i64).fact s.2 [.int .i64 s.2]), (ty69.row x594 i597), (pureF (x594.length * ty69.bytes ≤ 140737488355328)), ((Ty.int .i64).fact a1 [.int .i64 a1]), (FnOk Tryz.prog w574 (sp116 p2)), ((Ty.int .i64).fact x598 [.int .i64 x598])]⟩ : St)) (fun _ => rfl) _ (0, IntKind.i64.wrap (2 * x598)) () hl607 ⟨⟨rfl, ⟨rfl, ⟨rfl, ⟨rfl, ⟨rfl, ⟨rfl, trivial⟩⟩⟩⟩⟩⟩, ⟨[], rfl⟩, ⟨[true], rfl⟩, ⟨[1, 0, 3, 4, 5, 6, 2], rfl⟩⟩ ?_
    clear hr hl607
    intro n s hr e
    obtain ⟨x604, x605⟩ := s
    skip
    change m110_l3 a1 (n + 1) x604 x605 = some x606 at hr
    change At _ _ (⟨[(0, w571), (1, .int .i64 a1), (2, w574), (6, .int .i64 x598), (7, .int .i64 x604), (8, .int .i64 x605)], [], [⟨w571, 69, 4, n572, i597⟩], [((Ty.int .i64).fact x604 [.int .i64 x604]), ((Ty.int .i64).fact x605 [.int .i64 x605]), (ty69.row x594 i597), (pureF (x594.length * ty69.bytes ≤ 140737488355328)), ((Ty.int .i64).fact a1 [.int .i64 a1]), (FnOk Tryz.prog w574 (sp116 p2)), ((Ty.int .i64).fact x598 [.int .i64 x598])]⟩ : St) _
    rw [m110_l3] at hr
    refine at_inv 0 rfl (fun l609 => ?_)
    replace l609 : (-9223372036854775808) ≤ x604 ∧ x604 ≤ 9223372036854775807 := l609
    refine at_inv 1 rfl (fun l610 => ?_)
    replace l610 : (-9223372036854775808) ≤ x605 ∧ x605 ≤ 9223372036854775807 := l610
    refine at_seq (s_sr (s_mv rfl (s_mv rfl (at_lt (lt_leq rfl rfl) rfl (s_nt ?_)))))
    by_cases h611 : x605 ≤ a1
    ·replace hr := ipos h611 hr
     cases hr
    replace hr := ineg h611 hr
    refine at_false rfl (decide_eq_false (by first | exact h611 | omega)) ?_
    refine at_exit (at_then_exit (at_then_exit (at_in_exit ?_)))
    have hq := oinj hr
    clear hr
    subst hq
    exact at_leaf () ⟨⟨rfl, ⟨rfl, ⟨rfl, ⟨rfl, ⟨rfl, trivial⟩⟩⟩⟩⟩, ⟨[], rfl⟩, ⟨[true], rfl⟩, ⟨[0, 2, 3, 4, 5, 6], rfl⟩⟩
   clear hl607
   intro e
   change At _ _ (⟨[(0, w571), (1, .int .i64 a1), (2, w574), (6, .int .i64 x598), (7, .int .i64 x606)], [], [⟨w571, 69, 4, n572, i597⟩], [((Ty.int .i64).fact x606 [.int .i64 x606]), (ty69.row x594 i597), (pureF (x594.length * ty69.bytes ≤ 140737488355328)), ((Ty.int .i64).fact a1 [.int .i64 a1]), (FnOk Tryz.prog w574 (sp116 p2)), ((Ty.int .i64).fact x598 [.int .i64 x598])]⟩ : St) _
   refine at_inv 0 rfl (fun l614 => ?_)
   replace l614 : (-9223372036854775808) ≤ x606 ∧ x606 ≤ 9223372036854775807 := l614
   refine at_then (at_seq (s_sr (s_mv rfl (s_mv rfl (at_lt (lt_addw rfl rfl) rfl (s_as rfl (s_ntsr (s_mv rfl (s_mv rfl ?_)))))))))
   refine at_lt (lt_lss rfl rfl) rfl (s_nt ?_)
   replace hr := obind hr
   obtain ⟨r615, hc616, hr⟩ := hr
   refine at_cut (V := Unit) (fun e => (⟨[(0, w571), (1, .int .i64 a1), (2, w574), (6, .int .i64 x598)], [], [⟨w571, 69, 4, n572, i597⟩], [(ty69.row x594 i597), (pureF (x594.length * ty69.bytes ≤ 140737488355328)), ((Ty.int .i64).fact a1 [.int .i64 a1]), (FnOk Tryz.prog w574 (sp116 p2)), ((Ty.int .i64).fact x598 [.int .i64 x598])]⟩ : St)) ?_ ?_
   ·clear hr
    have hr := hc616
    clear hc616
    by_cases h617 : IntKind.i64.wrap (x606 + x598) < a1
    ·replace hr := ipos h617 hr
     cases hr
    replace hr := ineg h617 hr
    refine at_false rfl (decide_eq_false (by first | exact h617 | omega)) ?_
    refine at_skip ?_
    have hq := oinj hr
    clear hr
    subst hq
    exact at_leaf () ⟨⟨rfl, ⟨rfl, ⟨rfl, ⟨rfl, trivial⟩⟩⟩⟩, ⟨[], rfl⟩, ⟨[true], rfl⟩, ⟨[1, 2, 3, 4, 5], rfl⟩⟩
   clear hc616
   intro _
   change At _ _ (⟨[(0, w571), (1, .int .i64 a1), (2, w574), (6, .int .i64 x598)], [], [⟨w571, 69, 4, n572, i597⟩], [(ty69.row x594 i597), (pureF (x594.length * ty69.bytes ≤ 140737488355328)), ((Ty.int .i64).fact a1 [.int .i64 a1]), (FnOk Tryz.prog w574 (sp116 p2)), ((Ty.int .i64).fact x598 [.int .i64 x598])]⟩ : St) _
   refine s_tr (s_mv rfl (at_lt (lt_mulw rfl rfl) rfl (s_as rfl (at_nil (at_in (at_int .i64 (IntKind.i64.wrap (x598 * 2)) (wrap_bd .i64 _) ?_))))))
   exact at_again (σ := Int) (V := Unit) (lp := fun n s => m110_l2 a1 n s) (S := fun s e => (⟨[(0, w571), (1, .int .i64 a1), (2, w574), (6, .int .i64 s)], [], [⟨w571, 69, 4, n572, i597⟩], [((Ty.int .i64).fact s [.int .i64 s]), (ty69.row x594 i597), (pureF (x594.length * ty69.bytes ≤ 140737488355328)), ((Ty.int .i64).fact a1 [.int .i64 a1]), (FnOk Tryz.prog w574 (sp116 p2))]⟩ : St)) (IntKind.i64.wrap (x598 * 2)) () hr ⟨⟨rfl, ⟨rfl, ⟨rfl, ⟨rfl, trivial⟩⟩⟩⟩, ⟨[], rfl⟩, ⟨[true], rfl⟩, ⟨[0, 1, 2, 3, 4], rfl⟩⟩
  replace hr := ineg h603 hr
  refine at_false rfl (decide_eq_false (by first | exact h603 | omega)) ?_
  refine at_exit (at_then_exit (at_then_exit (at_in_exit ?_)))
  have hq := oinj hr
  clear hr
  subst hq
  exact at_leaf () ⟨⟨rfl, trivial⟩, ⟨[], rfl⟩, ⟨[true], rfl⟩, ⟨[1, 2], rfl⟩⟩
 clear hl600
 intro e
 change At _ _ (⟨[(0, w571)], [], [⟨w571, 69, 4, n572, i597⟩], [(ty69.row x594 i597), (pureF (x594.length * ty69.bytes ≤ 140737488355328))]⟩ : St) _
 have hq := oinj hr
 clear hr
 subst hq
 exact at_returnG (.tuple #[]) [true] [0, 1] hS Tryz.results110 (.nil) rfl rfl rfl ⟨rfl, _, rfl, rfl⟩
def m76 (a0 : (List D_api_Field)) (p1 : (D_api_Field → D_api_Field → Option Int)) : Option (List D_api_Field) :=
  (m110 a0 (a0.length : Int) p1).bind fun x627 =>
  some x627
def post76 (v : Value) (n : Nat) (r : (List D_api_Field)) (u : Value) (rw : List Row) (fs : List Fact) : Prop := u = .tuple #[] ∧ ∃ i, rw = [⟨v, 69, 4, n, i⟩] ∧ fs = [(ty69.row r i), (pureF (r.length * ty69.bytes ≤ 140737488355328))]
theorem en76 : Enters Tryz.prog 76 := ⟨_, Tryz.func76, by kernel_rfl, rfl⟩
theorem f76_spec {a0 : (List D_api_Field)} {p1 : (D_api_Field → D_api_Field → Option Int)} {w620 : Value} {n621 : Nat} {i622 : List Value} {w623 : Value} {r : (List D_api_Field)} (hr : m76 a0 p1 = some r) : SpecG Tryz.prog 76 [w620, w623] [⟨w620, 69, 4, n621, i622⟩] [(ty69.row a0 i622), (pureF (a0.length * ty69.bytes ≤ 140737488355328)), (FnOk Tryz.prog w623 (sp116 p1))] (post76 w620 n621 r) := by
 refine specG_start (N := 9) Tryz.func76 (by kernel_rfl) rfl rfl rfl ?_
 intro g hS
 unfold m76 at hr
 refine at_region (s_mv rfl (s_mv rfl ?_))
 refine at_pure 1 rfl (fun hb626 => ?_)
 simp only [ty69_bytes] at hb626
 refine at_rown 0 0 rfl rfl rfl (fun hn624 => ?_)
 refine at_rowv 0 rfl (fun hv625 => ?_)
 refine at_lt (lt_rlen rfl hv625 und23 hn624) rfl (s_mv rfl ?_)
 replace hr := obind hr
 obtain ⟨x627, h628, hr⟩ := hr
 refine at_pure 1 rfl (fun hb629 => ?_)
 refine at_int .i64 (a0.length : Int) (by simp only [lo, hi]; omega) (at_hv rfl (hv_callG0 [true] [1, 2, 0, 3] (f110_spec h628) rfl rfl rfl rfl rfl rfl ?_))
 rintro _ _ _ ⟨rfl, i630, rfl, rfl⟩
 refine at_nil ?_
 have hq := oinj hr
 clear hr
 subst hq
 exact at_returnG (.tuple #[]) [true] [0, 1] hS Tryz.results76 (.nil) rfl rfl rfl ⟨rfl, _, rfl, rfl⟩
def m108 (a0 : Str) : Option Bool :=
  some (!decide (a0 = a0))
def post108 (r : Bool) (v : Value) (fs : List Fact) : Prop := v = .bool r ∧ fs = []
theorem en108 : Enters Tryz.prog 108 := ⟨_, Tryz.func108, by kernel_rfl, rfl⟩
theorem f108_spec {a0 : Str} {r : Bool} (hr : m108 a0 = some r) : Spec Tryz.prog 108 [str a0] [(Ty.str.fact a0 [str a0])] (post108 r) := by
 refine spec_start (N := 6) Tryz.func108 (by kernel_rfl) rfl rfl rfl ?_
 intro g hS
 unfold m108 at hr
 refine s_sr (s_as rfl (s_ntsr (s_mv rfl (s_mv rfl (at_lt (lt_sneq rfl rfl) rfl (s_as rfl (s_nt (at_ret ?_))))))))
 have hq := oinj hr
 clear hr
 subst hq
 exact at_return (.bool (!decide (a0 = a0))) [] hS Tryz.results108 (.cons (.tmp rfl) .nil) rfl rfl ⟨rfl, rfl⟩
def m71 (a0 : Str) (a1 : Str) : Option Int :=
  (m108 a0).bind fun x631 =>
  (m108 a1).bind fun x633 =>
  if x631 = true then
   if x633 = true then
    some 0
   else
    some (-1)
  else
   if x633 = true then
    some 1
   else
    if (Op.bytesLess a0 a1) = true then
     some (-1)
    else
     if (Op.bytesLess a1 a0) = true then
      some 1
     else
      some 0
def post71 (r : Int) (v : Value) (fs : List Fact) : Prop := v = .int .i64 r ∧ fs = [((Ty.int .i64).fact r [.int .i64 r])]
theorem en71 : Enters Tryz.prog 71 := ⟨_, Tryz.func71, by kernel_rfl, rfl⟩
theorem f71_spec {a0 : Str} {a1 : Str} {r : Int} (hr : m71 a0 a1 = some r) : Spec Tryz.prog 71 [str a0, str a1] [(Ty.str.fact a0 [str a0]), (Ty.str.fact a1 [str a1])] (post71 r) := by
 refine spec_start (N := 20) Tryz.func71 (by kernel_rfl) rfl rfl rfl ?_
 intro g hS
 unfold m71 at hr
 refine s_sr (s_as rfl (s_ntsr (s_mv rfl ?_)))
 replace hr := obind hr
 obtain ⟨x631, h632, hr⟩ := hr
 refine at_hv rfl (hv_call0 [0] (f108_spec h632) rfl rfl rfl rfl ?_)
 rintro _ _ ⟨rfl, rfl⟩
 refine s_as rfl (s_ntsr (s_mv rfl ?_))
 replace hr := obind hr
 obtain ⟨x633, h634, hr⟩ := hr
 refine at_hv rfl (hv_call0 [1] (f108_spec h634) rfl rfl rfl rfl ?_)
 rintro _ _ ⟨rfl, rfl⟩
 refine s_as rfl (s_nt (at_seq (s_sr (s_mv rfl (s_nt ?_)))))
 by_cases h635 : x631 = true
 ·replace hr := ipos h635 hr
  refine at_true rfl h635 (at_seq (s_sr (s_mv rfl (s_nt ?_))))
  by_cases h636 : x633 = true
  ·replace hr := ipos h636 hr
   refine at_true rfl h636 (s_sr (s_as rfl (s_nt (at_ret ?_))))
   have hq := oinj hr
   clear hr
   subst hq
   refine at_then_ret (at_then_ret (at_int .i64 0 (by simp only [lo, hi]; omega) ?_))
   exact at_return (.int .i64 0) [0] hS Tryz.results71 (.cons (.tmp rfl) .nil) rfl rfl ⟨rfl, rfl⟩
  replace hr := ineg h636 hr
  refine at_false rfl (bf h636) (at_skip (s_tsr (s_as rfl (s_nt (at_ret ?_)))))
  have hq := oinj hr
  clear hr
  subst hq
  refine at_then_ret (at_int .i64 (-1) (by simp only [lo, hi]; omega) ?_)
  exact at_return (.int .i64 (-1)) [0] hS Tryz.results71 (.cons (.tmp rfl) .nil) rfl rfl ⟨rfl, rfl⟩
 replace hr := ineg h635 hr
 refine at_false rfl (bf h635) (at_skip (at_then (at_seq (s_sr (s_mv rfl (s_nt ?_))))))
 by_cases h637 : x633 = true
 ·replace hr := ipos h637 hr
  refine at_true rfl h637 (s_sr (s_as rfl (s_nt (at_ret ?_))))
  have hq := oinj hr
  clear hr
  subst hq
  refine at_then_ret (at_int .i64 1 (by simp only [lo, hi]; omega) ?_)
  exact at_return (.int .i64 1) [0] hS Tryz.results71 (.cons (.tmp rfl) .nil) rfl rfl ⟨rfl, rfl⟩
 replace hr := ineg h637 hr
 refine at_false rfl (bf h637) (at_skip (at_then (at_seq (s_sr (s_mv rfl (s_mv rfl (at_lt (lt_slss rfl rfl) rfl (s_nt ?_))))))))
 by_cases h638 : (Op.bytesLess a0 a1) = true
 ·replace hr := ipos h638 hr
  refine at_true rfl h638 (s_sr (s_as rfl (s_nt (at_ret ?_))))
  have hq := oinj hr
  clear hr
  subst hq
  refine at_then_ret (at_int .i64 (-1) (by simp only [lo, hi]; omega) ?_)
  exact at_return (.int .i64 (-1)) [0] hS Tryz.results71 (.cons (.tmp rfl) .nil) rfl rfl ⟨rfl, rfl⟩
 replace hr := ineg h638 hr
 refine at_false rfl (bf h638) (at_skip (at_then (at_seq (s_sr (s_mv rfl (s_mv rfl (at_lt (lt_sgtr rfl rfl) rfl (s_nt ?_))))))))
 by_cases h639 : (Op.bytesLess a1 a0) = true
 ·replace hr := ipos h639 hr
  refine at_true rfl h639 (s_sr (s_as rfl (s_nt (at_ret ?_))))
  have hq := oinj hr
  clear hr
  subst hq
  refine at_then_ret (at_int .i64 1 (by simp only [lo, hi]; omega) ?_)
  exact at_return (.int .i64 1) [0] hS Tryz.results71 (.cons (.tmp rfl) .nil) rfl rfl ⟨rfl, rfl⟩
 replace hr := ineg h639 hr
 refine at_false rfl (bf h639) (at_skip (s_tsr (s_as rfl (s_nt (at_ret ?_)))))
 have hq := oinj hr
 clear hr
 subst hq
 refine at_int .i64 0 (by simp only [lo, hi]; omega) ?_
 exact at_return (.int .i64 0) [0] hS Tryz.results71 (.cons (.tmp rfl) .nil) rfl rfl ⟨rfl, rfl⟩
def m77 (a0 : D_api_Field) (a1 : D_api_Field) : Option Int :=
  (m71 a0.Tag a1.Tag).bind fun x644 =>
  some x644
def post77 (r : Int) (v : Value) (fs : List Fact) : Prop := v = .int .i64 r ∧ fs = [((Ty.int .i64).fact r [.int .i64 r])]
theorem en77 : Enters Tryz.prog 77 := ⟨_, Tryz.func77, by kernel_rfl, rfl⟩
theorem f77_spec {a0 : D_api_Field} {a1 : D_api_Field} {s640 : Value} {s641 : Value} {r : Int} (hr : m77 a0 a1 = some r) : Spec Tryz.prog 77 [.agg #[str a0.Tag, .int .u8 (a0.Ind_0.toNat : Int), .int .u8 (a0.Ind_1.toNat : Int), s640], .agg #[str a1.Tag, .int .u8 (a1.Ind_0.toNat : Int), .int .u8 (a1.Ind_1.toNat : Int), s641]] [(ty69.fact a0 [str a0.Tag, .int .u8 (a0.Ind_0.toNat : Int), .int .u8 (a0.Ind_1.toNat : Int), s640]), (ty69.fact a1 [str a1.Tag, .int .u8 (a1.Ind_0.toNat : Int), .int .u8 (a1.Ind_1.toNat : Int), s641])] (post77 r) := by
 refine spec_start (N := 10) Tryz.func77 (by kernel_rfl) rfl rfl rfl ?_
 intro g hS
 unfold m77 at hr
 refine at_open (A := Unit) 0 rfl (fun _ => True) (fun _ => [(Ty.str.fact a0.Tag [str a0.Tag]), ((Ty.slice ty66).fact a0.Subs [s640])]) (fun F w h => ⟨(), trivial, ex69 h⟩) (fun _ _ => ?_)
 refine at_open (A := Unit) 3 rfl (fun _ => True) (fun _ => [(Ty.str.fact a1.Tag [str a1.Tag]), ((Ty.slice ty66).fact a1.Subs [s641])]) (fun F w h => ⟨(), trivial, ex69 h⟩) (fun _ _ => ?_)
 refine s_sr (at_hv rfl ?_)
 refine hv_box (cs := [str a0.Tag, .int .u8 (a0.Ind_0.toNat : Int), .int .u8 (a0.Ind_1.toNat : Int), s640]) rfl rfl rfl (fun b642 => ?_)
 refine at_hv rfl ?_
 refine hv_box (cs := [str a1.Tag, .int .u8 (a1.Ind_0.toNat : Int), .int .u8 (a1.Ind_1.toNat : Int), s641]) rfl rfl rfl (fun b643 => ?_)
 refine s_as rfl (s_ntsr (at_lt (lt_fieldAddr 0 rfl fld69_0 rfl) rfl (at_lt (lt_load_box 1 rfl ti9 rfl rfl rfl rfl rfl) rfl (at_lt (lt_fieldAddr 0 rfl fld69_0 rfl) rfl (at_lt (lt_load_box 0 rfl ti9 rfl rfl rfl rfl rfl) rfl ?_)))))
 replace hr := obind hr
 obtain ⟨x644, h645, hr⟩ := hr
 refine at_hv rfl (hv_call0 [2, 0] (f71_spec h645) rfl rfl rfl rfl ?_)
 rintro _ _ ⟨rfl, rfl⟩
 refine at_inv 0 rfl (fun l646 => ?_)
 replace l646 : (-9223372036854775808) ≤ x644 ∧ x644 ≤ 9223372036854775807 := l646
 refine s_as rfl (s_nt (at_ret ?_))
 have hq := oinj hr
 clear hr
 subst hq
 exact at_return (.int .i64 x644) [0] hS Tryz.results77 (.cons (.tmp rfl) .nil) rfl rfl ⟨rfl, rfl⟩
def m41_l2 (p3 : (D_crosswalk_Entry → UInt8 → Option (UInt8 × Bool))) (x675 : D_api_Field) (x682 : (D_crosswalk_Entry × Str × Bool)) : Nat → Nat → (List D_api_Sub) → Option (List D_api_Sub)
  | 0, _, _ => none
  | k + 1, x690, x691 =>
    if x690 < x675.Subs.length then
     (x675.Subs[x690]?).bind fun x702 =>
     (p3 (⟨x682.1.From, x682.1.To, x682.1.Codes⟩ : D_crosswalk_Entry) x702.Code).bind fun x707 =>
     Option.bind (α := (List D_api_Sub)) (
      if x682.2.2 = true then
       if x707.2 = true then
        if x691.length + 1 ≤ 5864062014805 then
         some (x691 ++ [(⟨x707.1, x702.Value⟩ : D_api_Sub)])
        else none
       else
        some x691
      else
       some x691
     ) fun x709 =>
     m41_l2 p3 x675 x682 k (x690 + 1) x709
    else
     some x691
def m41_l1 (a1 : D_api_Record) (p2 : (Str → Option (D_crosswalk_Entry × Str × Bool))) (p3 : (D_crosswalk_Entry → UInt8 → Option (UInt8 × Bool))) : Nat → Nat → (List D_api_Field) → Option (List D_api_Field)
  | 0, _, _ => none
  | k + 1, x663, x664 =>
    if x663 < a1.Fields.length then
     (a1.Fields[x663]?).bind fun x675 =>
     (p2 x675.Tag).bind fun x682 =>
     (m41_l2 p3 x675 x682 (x675.Subs.length + 1) 0 ([] : (List D_api_Sub))).bind fun x695 =>
     Option.bind (α := (List D_api_Field)) (
      if 0 < x695.length then
       if x664.length + 1 ≤ 2932031007402 then
        some (x664 ++ [(⟨x682.2.1, x675.Ind_0, x675.Ind_1, x695⟩ : D_api_Field)])
       else none
      else
       some x664
     ) fun x723 =>
     m41_l1 a1 p2 p3 k (x663 + 1) x723
    else
     some x664
def m41 (a0 : (List D_crosswalk_Entry)) (a1 : D_api_Record) (p2 : (Str → Option (D_crosswalk_Entry × Str × Bool))) (p3 : (D_crosswalk_Entry → UInt8 → Option (UInt8 × Bool))) : Option (D_api_Record × Int) :=
  (m27 a0).bind fun x654 =>
  if x654 = true then
   (m59 (⟨a1.ID, a1.Fields⟩ : D_api_Record)).bind fun x657 =>
   if x657 = true then
    (m41_l1 a1 p2 p3 (a1.Fields.length + 1) 0 ([] : (List D_api_Field))).bind fun x668 =>
    if x668.length = 0 then
     some ((⟨0, ([] : (List D_api_Field))⟩ : D_api_Record), 9)
    else
     (m76 x668 m77).bind fun x739 =>
     some ((⟨a1.ID, x739⟩ : D_api_Record), 0)
   else
    some ((⟨0, ([] : (List D_api_Field))⟩ : D_api_Record), 1)
  else
   some ((⟨0, ([] : (List D_api_Field))⟩ : D_api_Record), 1)
def post41 (r : (D_api_Record × Int)) (v : Value) (fs : List Fact) : Prop := ∃ s747 : Value, v = .tuple #[.agg #[.int .i64 r.1.ID, s747], .int .i64 r.2] ∧ fs = [(ty25.fact r.1 [.int .i64 r.1.ID, s747]), ((Ty.int .i64).fact r.2 [.int .i64 r.2])]
theorem en41 : Enters Tryz.prog 41 := ⟨_, Tryz.func41, by kernel_rfl, rfl⟩
theorem f41_spec {a0 : (List D_crosswalk_Entry)} {a1 : D_api_Record} {p2 : (Str → Option (D_crosswalk_Entry × Str × Bool))} {p3 : (D_crosswalk_Entry → UInt8 → Option (UInt8 × Bool))} {w647 : Value} {s648 : Value} {w649 : Value} {w650 : Value} {r : (D_api_Record × Int)} (hr : m41 a0 a1 p2 p3 = some r) : Spec Tryz.prog 41 [w647, .agg #[.int .i64 a1.ID, s648], w649, w650] [((Ty.slice ty76).fact a0 [w647]), (ty25.fact a1 [.int .i64 a1.ID, s648]), (FnOk Tryz.prog w649 (sp79 p2)), (FnOk Tryz.prog w650 (sp80 p3)), (utf8F 1 2)] (post41 r) := by
 refine spec_start (N := 101) Tryz.func41 (by kernel_rfl) rfl rfl rfl ?_
 intro g hS
 unfold m41 at hr
 refine at_open (A := Unit) 1 rfl (fun _ => True) (fun _ => [((Ty.int .i64).fact a1.ID [.int .i64 a1.ID]), ((Ty.slice ty69).fact a1.Fields [s648])]) (fun F w h => ⟨(), trivial, ex25 h⟩) (fun _ _ => ?_)
 refine at_inv 0 rfl (fun l651 => ?_)
 replace l651 : (-9223372036854775808) ≤ a1.ID ∧ a1.ID ≤ 9223372036854775807 := l651
 refine s_sr (at_hv rfl ?_)
 refine hv_box (cs := [.int .i64 a1.ID, s648]) rfl rfl rfl (fun b652 => ?_)
 refine at_hv rfl ?_
 refine hv_alloc (cs := [.int .i64 0, (.slice none 0 0)]) ti25 rfl rfl (fun b653 => ?_)
 refine s_as rfl (s_nt (at_seq (s_sr (s_mv rfl ?_))))
 replace hr := obind hr
 obtain ⟨x654, h655, hr⟩ := hr
 refine at_hv rfl (hv_call0 [2] (f27_spec h655) rfl rfl rfl rfl ?_)
 rintro _ _ ⟨rfl, rfl⟩
 refine at_lt (lt_not rfl) rfl (s_mv rfl ?_)
 by_cases h656 : x654 = true
 ·replace hr := ipos h656 hr
  refine at_on rfl rfl (nt h656) (at_lt (lt_load_box 1 rfl ti25 rfl rfl rfl rfl rfl) rfl ?_)
  replace hr := obind hr
  obtain ⟨x657, h658, hr⟩ := hr
  refine at_derive [0, 1] (ty25.fact (⟨a1.ID, a1.Fields⟩ : D_api_Record) [.int .i64 a1.ID, s648]) rfl (fun F w h => mk25 (x := (⟨a1.ID, a1.Fields⟩ : D_api_Record)) h) ?_
  refine at_on rfl rfl (nt h656) (at_hv rfl (hv_call0 [0, 7] (f59_spec h658) rfl rfl rfl rfl ?_))
  rintro _ _ ⟨rfl, rfl⟩
  refine at_on rfl rfl (nt h656) (at_lt (lt_not rfl) rfl (at_lt (lt_pick false rfl (nt h656) rfl) rfl (s_nt ?_)))
  by_cases h659 : x657 = true
  ·replace hr := ipos h659 hr
   refine at_false rfl (nt h659) (at_skip (s_tsr (at_lt (lt_fieldAddr 0 rfl fld25_0 rfl) rfl (at_lt (lt_load_box 1 rfl ti3 rfl rfl rfl rfl rfl) rfl (at_lt (lt_build (cs := [.int .i64 a1.ID, (.slice none 0 0)]) rfl ti25 pl25 rfl) rfl (at_hv rfl ?_))))))
   refine hv_alloc (cs := [.int .i64 0, (.slice none 0 0)]) ti25 rfl rfl (fun b660 => ?_)
   refine at_hv rfl (hv_store_box 0 (cs' := [.int .i64 a1.ID, (.slice none 0 0)]) rfl rfl ti25 rfl rfl rfl rfl rfl (s_nt (at_seq (s_sr (at_lt (lt_fieldAddr 1 rfl fld25_1 rfl) rfl (at_lt (lt_load_box 2 rfl ti23 rfl rfl rfl rfl rfl) rfl ?_))))))
   refine at_inv 2 rfl (fun i661 => ?_)
   have l662 := slice_len i661
   refine at_lt (lt_flen 2 rfl rfl und23) rfl (s_mv rfl (s_nt (at_int .i64 0 (by simp only [lo, hi]; omega) (at_rownew none 69 4 (at_rownil ty69 ?_)))))
   refine at_mkpure (q := (([] : (List D_api_Field)).length * ty69.bytes ≤ 140737488355328)) (by simp only [List.nil_append, List.cons_append, List.length_cons, List.length_nil, ty69_bytes] <;> omega) ?_
   replace hr := obind hr
   obtain ⟨x668, hl672, hr⟩ := hr
   refine at_cut (V := Value × Nat × (List Value)) (fun e => (⟨[(8, .pointer (some (Addr.add ⟨b653, 0, none⟩ 0))), (10, .pointer (some (Addr.add ⟨b660, 0, none⟩ 0)))], [⟨b660, [.int .i64 a1.ID, e.1], 25⟩, ⟨b653, [.int .i64 0, (.slice none 0 0)], 25⟩], [⟨e.1, 69, 4, e.2.1, e.2.2⟩], [(ty69.row x668 e.2.2), (pureF (x668.length * ty69.bytes ≤ 140737488355328)), ((Ty.int .i64).fact a1.ID [.int .i64 a1.ID]), (utf8F 1 2)]⟩ : St)) ?_ ?_
   ·refine at_block ?_
    refine at_loopW (σ := (Nat × (List D_api_Field))) (V := Value × Nat × (List Value)) (r := x668) (fun n s => m41_l1 a1 p2 p3 n s.1 s.2) (fun s e => (⟨[(2, w649), (3, w650), (8, .pointer (some (Addr.add ⟨b653, 0, none⟩ 0))), (10, .pointer (some (Addr.add ⟨b660, 0, none⟩ 0))), (34, s648), (35, .int .i64 (a1.Fields.length : Int)), (36, .int .i64 (s.1 : Int))], [⟨b660, [.int .i64 a1.ID, e.1], 25⟩, ⟨b653, [.int .i64 0, (.slice none 0 0)], 25⟩], [⟨e.1, 69, 4, e.2.1, e.2.2⟩], [((Ty.int .i64).fact (s.1 : Int) [.int .i64 (s.1 : Int)]), (ty69.row s.2 e.2.2), (pureF (s.2.length * ty69.bytes ≤ 140737488355328)), (FnOk Tryz.prog w649 (sp79 p2)), (FnOk Tryz.prog w650 (sp80 p3)), ((Ty.slice ty69).fact a1.Fields [s648]), ((Ty.int .i64).fact a1.ID [.int .i64 a1.ID]), (utf8F 1 2)]⟩ : St)) (fun _ => rfl) _ (0, ([] : (List D_api_Field))) ((.slice none 0 0), 0, []) hl672 ⟨⟨rfl, ⟨rfl, ⟨rfl, ⟨rfl, ⟨rfl, ⟨rfl, ⟨rfl, trivial⟩⟩⟩⟩⟩⟩⟩, ⟨[true, true, false], rfl⟩, ⟨[true], rfl⟩, ⟨[2, 1, 0, 8, 9, 5, 4, 10], rfl⟩⟩ ?_
    clear hr hl672
    intro n s hr e
    obtain ⟨x663, x664⟩ := s
    obtain ⟨v665, n666, i667⟩ := e
    change m41_l1 a1 p2 p3 (n + 1) x663 x664 = some x668 at hr
    change At _ _ (⟨[(2, w649), (3, w650), (8, .pointer (some (Addr.add ⟨b653, 0, none⟩ 0))), (10, .pointer (some (Addr.add ⟨b660, 0, none⟩ 0))), (34, s648), (35, .int .i64 (a1.Fields.length : Int)), (36, .int .i64 (x663 : Int))], [⟨b660, [.int .i64 a1.ID, v665], 25⟩, ⟨b653, [.int .i64 0, (.slice none 0 0)], 25⟩], [⟨v665, 69, 4, n666, i667⟩], [((Ty.int .i64).fact (x663 : Int) [.int .i64 (x663 : Int)]), (ty69.row x664 i667), (pureF (x664.length * ty69.bytes ≤ 140737488355328)), (FnOk Tryz.prog w649 (sp79 p2)), (FnOk Tryz.prog w650 (sp80 p3)), ((Ty.slice ty69).fact a1.Fields [s648]), ((Ty.int .i64).fact a1.ID [.int .i64 a1.ID]), (utf8F 1 2)]⟩ : St) _
    rw [m41_l1] at hr
    refine s_sr (at_lt (lt_lss rfl rfl) rfl (s_nt (at_seq ?_)))
    by_cases h674 : x663 < a1.Fields.length
    ·replace hr := ipos h674 hr
     refine at_true rfl (decide_eq_true (by omega)) ?_
     refine at_skip (at_then (at_seq (at_block (s_sr ?_))))
     replace hr := obind hr
     obtain ⟨x675, h676, hr⟩ := hr
     have := (List.getElem?_eq_some_iff.1 h676).1
     refine at_elem 5 rfl (nat_at' h676) (fun p678 ec pa679 => ?_)
     refine at_open (A := Value) 0 rfl _ _ (fun F w h => op69 h) ?_
     rintro s677 rfl
     refine at_lt (lt_idx rfl rfl pa679 und23 ti69) rfl (at_lt (lt_load_peek 3 rfl ti69 rfl rfl rfl rfl rfl) rfl (at_hv rfl ?_))
     refine hv_alloc (cs := [str ([] : Str), .int .u8 0, .int .u8 0, (.slice none 0 0)]) ti69 rfl rfl (fun b680 => ?_)
     refine at_one 1 rfl (fun ho681 => ?_)
     refine at_hv rfl (hv_store_box 0 (cs' := [str x675.Tag, .int .u8 (x675.Ind_0.toNat : Int), .int .u8 (x675.Ind_1.toNat : Int), s677]) rfl rfl ti69 rfl rfl rfl rfl (allc rfl (allc rfl (allc rfl (allc ho681 rfl)))) (s_ntsr (s_mv rfl (at_lt (lt_fieldAddr 0 rfl fld69_0 rfl) rfl (at_lt (lt_load_box 0 rfl ti9 rfl rfl rfl rfl rfl) rfl ?_)))))
     replace hr := obind hr
     obtain ⟨x682, h683, hr⟩ := hr
     refine at_hv rfl ?_
     refine hv_callf 7 [0] rfl rfl rfl ⟨x675.Tag, x682, h683, rfl, rfl, rfl⟩ rfl rfl ?_
     rintro _ _ ⟨s684, rfl, rfl⟩
     refine at_open (A := Unit) 0 rfl (fun _ => True) (fun _ => [(Ty.str.fact x682.1.From [str x682.1.From]), (Ty.str.fact x682.1.To [str x682.1.To]), ((Ty.slice ty82).fact x682.1.Codes [s684])]) (fun F w h => ⟨(), trivial, ex76 h⟩) (fun _ _ => ?_)
     refine s_mv rfl (at_lt (lt_extract rfl rfl) rfl (at_lt (lt_extract rfl rfl) rfl (at_lt (lt_extract rfl rfl) rfl (at_hv rfl ?_))))
     refine hv_alloc (cs := [str ([] : Str), str ([] : Str), (.slice none 0 0)]) ti76 rfl rfl (fun b685 => ?_)
     refine at_one 2 rfl (fun ho686 => ?_)
     refine at_hv rfl (hv_store_box 0 (cs' := [str x682.1.From, str x682.1.To, s684]) rfl rfl ti76 rfl rfl rfl rfl (allc rfl (allc rfl (allc ho686 rfl))) (s_as rfl (s_as rfl (s_ntsr (s_mv rfl (at_lt (lt_fieldAddr 1 rfl fld69_1 rfl) rfl (at_lt (lt_load_box 1 rfl ti64 rfl rfl rfl rfl rfl) rfl (at_lt (lt_build (cs := [str x682.2.1, .int .u8 (x675.Ind_0.toNat : Int), .int .u8 (x675.Ind_1.toNat : Int), (.slice none 0 0)]) rfl ti69 pl69 rfl) rfl (at_hv rfl ?_)))))))))
     refine hv_alloc (cs := [str ([] : Str), .int .u8 0, .int .u8 0, (.slice none 0 0)]) ti69 rfl rfl (fun b687 => ?_)
     refine at_hv rfl (hv_store_box 0 (cs' := [str x682.2.1, .int .u8 (x675.Ind_0.toNat : Int), .int .u8 (x675.Ind_1.toNat : Int), (.slice none 0 0)]) rfl rfl ti69 rfl rfl rfl rfl rfl (s_nt (at_seq (s_sr (at_lt (lt_fieldAddr 3 rfl fld69_2 rfl) rfl (at_lt (lt_load_box 2 rfl ti67 rfl rfl rfl rfl rfl) rfl ?_))))))
     refine at_inv 6 rfl (fun i688 => ?_)
     have l689 := slice_len i688
     refine at_lt (lt_flen 6 rfl rfl und67) rfl (s_mv rfl (s_nt (at_int .i64 0 (by simp only [lo, hi]; omega) (at_rownew none 66 2 (at_rownil ty66 ?_)))))
     refine at_mkpure (q := (([] : (List D_api_Sub)).length * ty66.bytes ≤ 140737488355328)) (by simp only [List.nil_append, List.cons_append, List.length_cons, List.length_nil, ty66_bytes] <;> omega) ?_
     replace hr := obind hr
     obtain ⟨x695, hl699, hr⟩ := hr
     refine at_cut (V := Value × Nat × (List Value)) (fun e => (⟨[(2, w649), (3, w650), (8, .pointer (some (Addr.add ⟨b653, 0, none⟩ 0))), (10, .pointer (some (Addr.add ⟨b660, 0, none⟩ 0))), (16, .pointer (some (Addr.add ⟨b687, 0, none⟩ 0))), (34, s648), (35, .int .i64 (a1.Fields.length : Int)), (36, .int .i64 (x663 : Int))], [⟨b687, [str x682.2.1, .int .u8 (x675.Ind_0.toNat : Int), .int .u8 (x675.Ind_1.toNat : Int), e.1], 69⟩, ⟨b660, [.int .i64 a1.ID, v665], 25⟩, ⟨b653, [.int .i64 0, (.slice none 0 0)], 25⟩], [⟨e.1, 66, 2, e.2.1, e.2.2⟩, ⟨v665, 69, 4, n666, i667⟩], [(ty66.row x695 e.2.2), (pureF (x695.length * ty66.bytes ≤ 140737488355328)), (FnOk Tryz.prog w649 (sp79 p2)), (FnOk Tryz.prog w650 (sp80 p3)), ((Ty.slice ty69).fact a1.Fields [s648]), ((Ty.int .i64).fact (x663 : Int) [.int .i64 (x663 : Int)]), ((Ty.int .i64).fact a1.ID [.int .i64 a1.ID]), (ty69.row x664 i667), (pureF (x664.length * ty69.bytes ≤ 140737488355328)), (Ty.str.fact x682.2.1 [str x682.2.1]), (utf8F 1 2)]⟩ : St)) ?_ ?_
     ·refine at_block ?_
      refine at_loopW (σ := (Nat × (List D_api_Sub))) (V := Value × Nat × (List Value)) (r := x695) (fun n s => m41_l2 p3 x675 x682 n s.1 s.2) (fun s e => (⟨[(2, w649), (3, w650), (8, .pointer (some (Addr.add ⟨b653, 0, none⟩ 0))), (10, .pointer (some (Addr.add ⟨b660, 0, none⟩ 0))), (13, .pointer (some (Addr.add ⟨b685, 0, none⟩ 0))), (15, .bool x682.2.2), (16, .pointer (some (Addr.add ⟨b687, 0, none⟩ 0))), (34, s648), (35, .int .i64 (a1.Fields.length : Int)), (36, .int .i64 (x663 : Int)), (53, s677), (54, .int .i64 (x675.Subs.length : Int)), (55, .int .i64 (s.1 : Int))], [⟨b687, [str x682.2.1, .int .u8 (x675.Ind_0.toNat : Int), .int .u8 (x675.Ind_1.toNat : Int), e.1], 69⟩, ⟨b685, [str x682.1.From, str x682.1.To, s684], 76⟩, ⟨b660, [.int .i64 a1.ID, v665], 25⟩, ⟨b653, [.int .i64 0, (.slice none 0 0)], 25⟩], [⟨e.1, 66, 2, e.2.1, e.2.2⟩, ⟨v665, 69, 4, n666, i667⟩], [((Ty.int .i64).fact (s.1 : Int) [.int .i64 (s.1 : Int)]), (ty66.row s.2 e.2.2), (pureF (s.2.length * ty66.bytes ≤ 140737488355328)), (FnOk Tryz.prog w649 (sp79 p2)), (FnOk Tryz.prog w650 (sp80 p3)), ((Ty.slice ty69).fact a1.Fields [s648]), ((Ty.int .i64).fact (x663 : Int) [.int .i64 (x663 : Int)]), ((Ty.slice ty66).fact x675.Subs [s677]), (Ty.str.fact x682.1.From [str x682.1.From]), (Ty.str.fact x682.1.To [str x682.1.To]), ((Ty.slice ty82).fact x682.1.Codes [s684]), ((Ty.int .i64).fact a1.ID [.int .i64 a1.ID]), (ty69.row x664 i667), (pureF (x664.length * ty69.bytes ≤ 140737488355328)), (Ty.str.fact x682.2.1 [str x682.2.1]), (utf8F 1 2)]⟩ : St)) (fun _ => rfl) _ (0, ([] : (List D_api_Sub))) ((.slice none 0 0), 0, []) hl699 ⟨⟨rfl, ⟨rfl, ⟨rfl, ⟨rfl, ⟨rfl, ⟨rfl, ⟨rfl, ⟨rfl, ⟨rfl, ⟨rfl, ⟨rfl, ⟨rfl, ⟨rfl, trivial⟩⟩⟩⟩⟩⟩⟩⟩⟩⟩⟩⟩⟩, ⟨[true, true, false, true, true], rfl⟩, ⟨[true, true], rfl⟩, ⟨[2, 1, 0, 15, 16, 17, 12, 9, 3, 4, 5, 18, 13, 14, 7, 19], rfl⟩⟩ ?_
      clear hr hl699
      intro n s hr e
      obtain ⟨x690, x691⟩ := s
      obtain ⟨v692, n693, i694⟩ := e
      change m41_l2 p3 x675 x682 (n + 1) x690 x691 = some x695 at hr
      change At _ _ (⟨[(2, w649), (3, w650), (8, .pointer (some (Addr.add ⟨b653, 0, none⟩ 0))), (10, .pointer (some (Addr.add ⟨b660, 0, none⟩ 0))), (13, .pointer (some (Addr.add ⟨b685, 0, none⟩ 0))), (15, .bool x682.2.2), (16, .pointer (some (Addr.add ⟨b687, 0, none⟩ 0))), (34, s648), (35, .int .i64 (a1.Fields.length : Int)), (36, .int .i64 (x663 : Int)), (53, s677), (54, .int .i64 (x675.Subs.length : Int)), (55, .int .i64 (x690 : Int))], [⟨b687, [str x682.2.1, .int .u8 (x675.Ind_0.toNat : Int), .int .u8 (x675.Ind_1.toNat : Int), v692], 69⟩, ⟨b685, [str x682.1.From, str x682.1.To, s684], 76⟩, ⟨b660, [.int .i64 a1.ID, v665], 25⟩, ⟨b653, [.int .i64 0, (.slice none 0 0)], 25⟩], [⟨v692, 66, 2, n693, i694⟩, ⟨v665, 69, 4, n666, i667⟩], [((Ty.int .i64).fact (x690 : Int) [.int .i64 (x690 : Int)]), (ty66.row x691 i694), (pureF (x691.length * ty66.bytes ≤ 140737488355328)), (FnOk Tryz.prog w649 (sp79 p2)), (FnOk Tryz.prog w650 (sp80 p3)), ((Ty.slice ty69).fact a1.Fields [s648]), ((Ty.int .i64).fact (x663 : Int) [.int .i64 (x663 : Int)]), ((Ty.slice ty66).fact x675.Subs [s677]), (Ty.str.fact x682.1.From [str x682.1.From]), (Ty.str.fact x682.1.To [str x682.1.To]), ((Ty.slice ty82).fact x682.1.Codes [s684]), ((Ty.int .i64).fact a1.ID [.int .i64 a1.ID]), (ty69.row x664 i667), (pureF (x664.length * ty69.bytes ≤ 140737488355328)), (Ty.str.fact x682.2.1 [str x682.2.1]), (utf8F 1 2)]⟩ : St) _
      rw [m41_l2] at hr
      refine s_sr (at_lt (lt_lss rfl rfl) rfl (s_nt (at_seq ?_)))
      by_cases h701 : x690 < x675.Subs.length
      ·replace hr := ipos h701 hr
       refine at_true rfl (decide_eq_true (by omega)) ?_
       refine at_skip (at_then (at_seq (at_block (s_sr ?_))))
       replace hr := obind hr
       obtain ⟨x702, h703, hr⟩ := hr
       have := (List.getElem?_eq_some_iff.1 h703).1
       refine at_elem 7 rfl (nat_at' h703) (fun p704 ec pa705 => ?_)
       refine at_open (A := Unit) 0 rfl _ _ (fun F w h => op66 h) ?_
       rintro _ rfl
       refine at_lt (lt_idx rfl rfl pa705 und67 ti66) rfl (at_lt (lt_load_peek 2 rfl ti66 rfl rfl rfl rfl rfl) rfl (at_hv rfl ?_))
       refine hv_alloc (cs := [.int .u8 0, str ([] : Str)]) ti66 rfl rfl (fun b706 => ?_)
       refine at_hv rfl (hv_store_box 0 (cs' := [.int .u8 (x702.Code.toNat : Int), str x702.Value]) rfl rfl ti66 rfl rfl rfl rfl rfl (s_ntsr (s_mv rfl (at_lt (lt_load_box 2 rfl ti76 rfl rfl rfl rfl rfl) rfl (at_lt (lt_fieldAddr 0 rfl fld66_0 rfl) rfl (at_lt (lt_load_box 0 rfl ti5 rfl rfl rfl rfl rfl) rfl ?_))))))
       replace hr := obind hr
       obtain ⟨x707, h708, hr⟩ := hr
       refine at_derive [11, 12, 13] (ty76.fact (⟨x682.1.From, x682.1.To, x682.1.Codes⟩ : D_crosswalk_Entry) [str x682.1.From, str x682.1.To, s684]) rfl (fun F w h => mk76 (x := (⟨x682.1.From, x682.1.To, x682.1.Codes⟩ : D_crosswalk_Entry)) h) ?_
       refine at_hv rfl ?_
       refine hv_callf 8 [0] rfl rfl rfl ⟨(⟨x682.1.From, x682.1.To, x682.1.Codes⟩ : D_crosswalk_Entry), x702.Code, x707, s684, h708, rfl, rfl, rfl⟩ rfl rfl ?_
       rintro _ _ ⟨rfl, rfl⟩
       refine s_mv rfl (at_lt (lt_extract rfl rfl) rfl (at_lt (lt_extract rfl rfl) rfl (s_as rfl (s_as rfl (s_nt (at_seq ?_))))))
       replace hr := obind hr
       obtain ⟨x709, hc713, hr⟩ := hr
       refine at_cutR1 (V := Value × Nat × (List Value)) (fun e => (⟨[(2, w649), (3, w650), (8, .pointer (some (Addr.add ⟨b653, 0, none⟩ 0))), (10, .pointer (some (Addr.add ⟨b660, 0, none⟩ 0))), (13, .pointer (some (Addr.add ⟨b685, 0, none⟩ 0))), (15, .bool x682.2.2), (16, .pointer (some (Addr.add ⟨b687, 0, none⟩ 0))), (34, s648), (35, .int .i64 (a1.Fields.length : Int)), (36, .int .i64 (x663 : Int)), (53, s677), (54, .int .i64 (x675.Subs.length : Int)), (55, .int .i64 (x690 : Int))], [⟨b687, [str x682.2.1, .int .u8 (x675.Ind_0.toNat : Int), .int .u8 (x675.Ind_1.toNat : Int), e.1], 69⟩, ⟨b685, [str x682.1.From, str x682.1.To, s684], 76⟩, ⟨b660, [.int .i64 a1.ID, v665], 25⟩, ⟨b653, [.int .i64 0, (.slice none 0 0)], 25⟩], [⟨e.1, 66, 2, e.2.1, e.2.2⟩, ⟨v665, 69, 4, n666, i667⟩], [(ty66.row x709 e.2.2), (pureF (x709.length * ty66.bytes ≤ 140737488355328)), (FnOk Tryz.prog w649 (sp79 p2)), (FnOk Tryz.prog w650 (sp80 p3)), ((Ty.slice ty69).fact a1.Fields [s648]), ((Ty.int .i64).fact (x663 : Int) [.int .i64 (x663 : Int)]), ((Ty.slice ty66).fact x675.Subs [s677]), ((Ty.int .i64).fact (x690 : Int) [.int .i64 (x690 : Int)]), (Ty.str.fact x682.1.From [str x682.1.From]), (Ty.str.fact x682.1.To [str x682.1.To]), ((Ty.slice ty82).fact x682.1.Codes [s684]), ((Ty.int .i64).fact a1.ID [.int .i64 a1.ID]), (ty69.row x664 i667), (pureF (x664.length * ty69.bytes ≤ 140737488355328)), (Ty.str.fact x682.2.1 [str x682.2.1]), (utf8F 1 2)]⟩ : St)) ?_ ?_
       ·clear hr
        have hr := hc713
        clear hc713
        refine at_region (s_mv rfl (s_mv rfl ?_))
        by_cases h714 : x682.2.2 = true
        ·replace hr := ipos h714 hr
         refine at_on rfl rfl h714 (s_mv rfl (at_lt (lt_pick true rfl h714 rfl) rfl (s_nt ?_)))
         by_cases h715 : x707.2 = true
         ·replace hr := ipos h715 hr
          refine at_true rfl h715 (at_region (at_lt (lt_fieldAddr 3 rfl fld69_2 rfl) rfl (at_lt (lt_load_box 1 rfl ti67 rfl rfl rfl rfl rfl) rfl (s_mv rfl (at_lt (lt_fieldAddr 1 rfl fld66_1 rfl) rfl (at_lt (lt_load_box 0 rfl ti9 rfl rfl rfl rfl rfl) rfl (at_lt (lt_build (cs := [.int .u8 (x707.1.toNat : Int), str x702.Value]) rfl ti66 pl66 rfl) rfl (at_hv rfl ?_))))))))
          refine hv_bslice (cs := [.int .u8 (x707.1.toNat : Int), str x702.Value]) rfl und67 ti66 rfl rfl rfl rfl rfl (fun s716 => ?_)
          replace hr := imust hr
          obtain ⟨h717, hr⟩ := hr
          refine at_derive [1] (ty66.fact (⟨x707.1, x702.Value⟩ : D_api_Sub) [.int .u8 (x707.1.toNat : Int), str x702.Value]) rfl (fun F w h => mk66 (x := (⟨x707.1, x702.Value⟩ : D_api_Sub)) h) ?_
          refine at_rown 1 6 rfl rfl rfl (fun hn719 => ?_)
          refine at_hv rfl ?_
          refine hv_append 1 0 rfl rfl rfl rfl und67 ti66 rfl rfl rfl (by omega) (by omega) rfl (fun s718 => ?_)
          refine at_rowsnoc 6 0 rfl rfl (at_lt (lt_fieldAddr 3 rfl fld69_2 rfl) rfl ?_)
          refine at_rowv 1 rfl (fun ho720 => ?_)
          replace ho720 := row_one (by obtain ⟨a, c, h⟩ := ho720; exact ⟨a, _, c, h⟩)
          refine at_hv rfl (hv_store1 1 (cs' := [str x682.2.1, .int .u8 (x675.Ind_0.toNat : Int), .int .u8 (x675.Ind_1.toNat : Int), s718]) rfl rfl ti67 rfl rfl rfl rfl ho720 (at_nil ?_))
          have hq := oinj hr
          clear hr
          subst hq
          refine at_mkpure (q := ((x691 ++ [(⟨x707.1, x702.Value⟩ : D_api_Sub)]).length * ty66.bytes ≤ 140737488355328)) (by simp only [List.length_append, List.length_cons, List.length_nil, ty66_bytes] <;> omega) ?_
          exact at_leaf (s718, n693 + 1, i694 ++ [.int .u8 (x707.1.toNat : Int), str x702.Value]) ⟨⟨rfl, ⟨rfl, ⟨rfl, ⟨rfl, ⟨rfl, ⟨rfl, ⟨rfl, ⟨rfl, ⟨rfl, ⟨rfl, ⟨rfl, ⟨rfl, ⟨rfl, trivial⟩⟩⟩⟩⟩⟩⟩⟩⟩⟩⟩⟩⟩, ⟨[false, true, true, true, true], rfl⟩, ⟨[false, true, true], rfl⟩, ⟨[1, 0, 10, 11, 12, 13, 14, 7, 15, 16, 17, 18, 19, 20, 21, 22], rfl⟩⟩
         replace hr := ineg h715 hr
         refine at_false rfl (bf h715) (at_skip ?_)
         have hq := oinj hr
         clear hr
         subst hq
         exact at_leaf (v692, n693, i694) ⟨⟨rfl, ⟨rfl, ⟨rfl, ⟨rfl, ⟨rfl, ⟨rfl, ⟨rfl, ⟨rfl, ⟨rfl, ⟨rfl, ⟨rfl, ⟨rfl, ⟨rfl, trivial⟩⟩⟩⟩⟩⟩⟩⟩⟩⟩⟩⟩⟩, ⟨[false, true, true, true, true], rfl⟩, ⟨[true, true], rfl⟩, ⟨[5, 6, 7, 8, 9, 10, 11, 4, 12, 13, 14, 15, 16, 17, 18, 19], rfl⟩⟩
        replace hr := ineg h714 hr
        refine at_off rfl rfl (bf h714) rfl (at_lt (lt_pick false rfl (bf h714) rfl) rfl (s_nt (at_false rfl rfl (at_skip ?_))))
        have hq := oinj hr
        clear hr
        subst hq
        exact at_leaf (v692, n693, i694) ⟨⟨rfl, ⟨rfl, ⟨rfl, ⟨rfl, ⟨rfl, ⟨rfl, ⟨rfl, ⟨rfl, ⟨rfl, ⟨rfl, ⟨rfl, ⟨rfl, ⟨rfl, trivial⟩⟩⟩⟩⟩⟩⟩⟩⟩⟩⟩⟩⟩, ⟨[false, true, true, true, true], rfl⟩, ⟨[true, true], rfl⟩, ⟨[5, 6, 7, 8, 9, 10, 11, 4, 12, 13, 14, 15, 16, 17, 18, 19], rfl⟩⟩
       clear hc713
       intro e
       obtain ⟨v710, n711, i712⟩ := e
       change At _ _ (⟨[(2, w649), (3, w650), (8, .pointer (some (Addr.add ⟨b653, 0, none⟩ 0))), (10, .pointer (some (Addr.add ⟨b660, 0, none⟩ 0))), (13, .pointer (some (Addr.add ⟨b685, 0, none⟩ 0))), (15, .bool x682.2.2), (16, .pointer (some (Addr.add ⟨b687, 0, none⟩ 0))), (34, s648), (35, .int .i64 (a1.Fields.length : Int)), (36, .int .i64 (x663 : Int)), (53, s677), (54, .int .i64 (x675.Subs.length : Int)), (55, .int .i64 (x690 : Int))], [⟨b687, [str x682.2.1, .int .u8 (x675.Ind_0.toNat : Int), .int .u8 (x675.Ind_1.toNat : Int), v710], 69⟩, ⟨b685, [str x682.1.From, str x682.1.To, s684], 76⟩, ⟨b660, [.int .i64 a1.ID, v665], 25⟩, ⟨b653, [.int .i64 0, (.slice none 0 0)], 25⟩], [⟨v710, 66, 2, n711, i712⟩, ⟨v665, 69, 4, n666, i667⟩], [(ty66.row x709 i712), (pureF (x709.length * ty66.bytes ≤ 140737488355328)), (FnOk Tryz.prog w649 (sp79 p2)), (FnOk Tryz.prog w650 (sp80 p3)), ((Ty.slice ty69).fact a1.Fields [s648]), ((Ty.int .i64).fact (x663 : Int) [.int .i64 (x663 : Int)]), ((Ty.slice ty66).fact x675.Subs [s677]), ((Ty.int .i64).fact (x690 : Int) [.int .i64 (x690 : Int)]), (Ty.str.fact x682.1.From [str x682.1.From]), (Ty.str.fact x682.1.To [str x682.1.To]), ((Ty.slice ty82).fact x682.1.Codes [s684]), ((Ty.int .i64).fact a1.ID [.int .i64 a1.ID]), (ty69.row x664 i667), (pureF (x664.length * ty69.bytes ≤ 140737488355328)), (Ty.str.fact x682.2.1 [str x682.2.1]), (utf8F 1 2)]⟩ : St) _
       refine at_in (s_tr (at_lt (lt_add rfl rfl (by simp only [lo, hi]; omega)) rfl (s_mv rfl (at_nil (at_int .i64 (x690 + 1 : Int) (by simp only [lo, hi]; omega) ?_)))))
       exact at_again (σ := (Nat × (List D_api_Sub))) (V := Value × Nat × (List Value)) (lp := fun n s => m41_l2 p3 x675 x682 n s.1 s.2) (S := fun s e => (⟨[(2, w649), (3, w650), (8, .pointer (some (Addr.add ⟨b653, 0, none⟩ 0))), (10, .pointer (some (Addr.add ⟨b660, 0, none⟩ 0))), (13, .pointer (some (Addr.add ⟨b685, 0, none⟩ 0))), (15, .bool x682.2.2), (16, .pointer (some (Addr.add ⟨b687, 0, none⟩ 0))), (34, s648), (35, .int .i64 (a1.Fields.length : Int)), (36, .int .i64 (x663 : Int)), (53, s677), (54, .int .i64 (x675.Subs.length : Int)), (55, .int .i64 (s.1 : Int))], [⟨b687, [str x682.2.1, .int .u8 (x675.Ind_0.toNat : Int), .int .u8 (x675.Ind_1.toNat : Int), e.1], 69⟩, ⟨b685, [str x682.1.From, str x682.1.To, s684], 76⟩, ⟨b660, [.int .i64 a1.ID, v665], 25⟩, ⟨b653, [.int .i64 0, (.slice none 0 0)], 25⟩], [⟨e.1, 66, 2, e.2.1, e.2.2⟩, ⟨v665, 69, 4, n666, i667⟩], [((Ty.int .i64).fact (s.1 : Int) [.int .i64 (s.1 : Int)]), (ty66.row s.2 e.2.2), (pureF (s.2.length * ty66.bytes ≤ 140737488355328)), (FnOk Tryz.prog w649 (sp79 p2)), (FnOk Tryz.prog w650 (sp80 p3)), ((Ty.slice ty69).fact a1.Fields [s648]), ((Ty.int .i64).fact (x663 : Int) [.int .i64 (x663 : Int)]), ((Ty.slice ty66).fact x675.Subs [s677]), (Ty.str.fact x682.1.From [str x682.1.From]), (Ty.str.fact x682.1.To [str x682.1.To]), ((Ty.slice ty82).fact x682.1.Codes [s684]), ((Ty.int .i64).fact a1.ID [.int .i64 a1.ID]), (ty69.row x664 i667), (pureF (x664.length * ty69.bytes ≤ 140737488355328)), (Ty.str.fact x682.2.1 [str x682.2.1]), (utf8F 1 2)]⟩ : St)) (x690 + 1, x709) (v710, n711, i712) hr ⟨⟨rfl, ⟨rfl, ⟨rfl, ⟨rfl, ⟨rfl, ⟨rfl, ⟨rfl, ⟨rfl, ⟨rfl, ⟨rfl, ⟨rfl, ⟨rfl, ⟨rfl, trivial⟩⟩⟩⟩⟩⟩⟩⟩⟩⟩⟩⟩⟩, ⟨[true, true, true, true], rfl⟩, ⟨[true, true], rfl⟩, ⟨[0, 1, 2, 3, 4, 5, 6, 7, 9, 10, 11, 12, 13, 14, 15, 16], rfl⟩⟩
      replace hr := ineg h701 hr
      refine at_false rfl (decide_eq_false (by omega)) ?_
      refine at_exit (at_then_exit (at_then_exit (at_in_exit ?_)))
      have hq := oinj hr
      clear hr
      subst hq
      exact at_leaf (v692, n693, i694) ⟨⟨rfl, ⟨rfl, ⟨rfl, ⟨rfl, ⟨rfl, ⟨rfl, ⟨rfl, ⟨rfl, trivial⟩⟩⟩⟩⟩⟩⟩⟩, ⟨[true, false, true, true], rfl⟩, ⟨[true, true], rfl⟩, ⟨[1, 2, 3, 4, 5, 6, 11, 12, 13, 14, 15], rfl⟩⟩
     clear hl699
     intro e
     obtain ⟨v696, n697, i698⟩ := e
     change At _ _ (⟨[(2, w649), (3, w650), (8, .pointer (some (Addr.add ⟨b653, 0, none⟩ 0))), (10, .pointer (some (Addr.add ⟨b660, 0, none⟩ 0))), (16, .pointer (some (Addr.add ⟨b687, 0, none⟩ 0))), (34, s648), (35, .int .i64 (a1.Fields.length : Int)), (36, .int .i64 (x663 : Int))], [⟨b687, [str x682.2.1, .int .u8 (x675.Ind_0.toNat : Int), .int .u8 (x675.Ind_1.toNat : Int), v696], 69⟩, ⟨b660, [.int .i64 a1.ID, v665], 25⟩, ⟨b653, [.int .i64 0, (.slice none 0 0)], 25⟩], [⟨v696, 66, 2, n697, i698⟩, ⟨v665, 69, 4, n666, i667⟩], [(ty66.row x695 i698), (pureF (x695.length * ty66.bytes ≤ 140737488355328)), (FnOk Tryz.prog w649 (sp79 p2)), (FnOk Tryz.prog w650 (sp80 p3)), ((Ty.slice ty69).fact a1.Fields [s648]), ((Ty.int .i64).fact (x663 : Int) [.int .i64 (x663 : Int)]), ((Ty.int .i64).fact a1.ID [.int .i64 a1.ID]), (ty69.row x664 i667), (pureF (x664.length * ty69.bytes ≤ 140737488355328)), (Ty.str.fact x682.2.1 [str x682.2.1]), (utf8F 1 2)]⟩ : St) _
     refine s_tsr (at_lt (lt_fieldAddr 3 rfl fld69_2 rfl) rfl (at_lt (lt_load_box 0 rfl ti67 rfl rfl rfl rfl rfl) rfl ?_))
     refine at_rown 0 0 rfl rfl rfl (fun hn721 => ?_)
     refine at_rowv 0 rfl (fun hv722 => ?_)
     refine at_lt (lt_rlen rfl hv722 und67 hn721) rfl (at_lt (lt_gtr rfl rfl) rfl (s_nt ?_))
     replace hr := obind hr
     obtain ⟨x723, hc727, hr⟩ := hr
     refine at_cut (V := Value × Nat × (List Value)) (fun e => (⟨[(2, w649), (3, w650), (8, .pointer (some (Addr.add ⟨b653, 0, none⟩ 0))), (10, .pointer (some (Addr.add ⟨b660, 0, none⟩ 0))), (34, s648), (35, .int .i64 (a1.Fields.length : Int)), (36, .int .i64 (x663 : Int))], [⟨b660, [.int .i64 a1.ID, e.1], 25⟩, ⟨b653, [.int .i64 0, (.slice none 0 0)], 25⟩], [⟨e.1, 69, 4, e.2.1, e.2.2⟩], [(ty69.row x723 e.2.2), (pureF (x723.length * ty69.bytes ≤ 140737488355328)), (FnOk Tryz.prog w649 (sp79 p2)), (FnOk Tryz.prog w650 (sp80 p3)), ((Ty.slice ty69).fact a1.Fields [s648]), ((Ty.int .i64).fact (x663 : Int) [.int .i64 (x663 : Int)]), ((Ty.int .i64).fact a1.ID [.int .i64 a1.ID]), (utf8F 1 2)]⟩ : St)) ?_ ?_
     ·clear hr
      have hr := hc727
      clear hc727
      by_cases h728 : 0 < x695.length
      ·replace hr := ipos h728 hr
       refine at_true rfl (decide_eq_true (by omega)) ?_
       refine at_region (at_lt (lt_fieldAddr 1 rfl fld25_1 rfl) rfl (at_lt (lt_load_box 1 rfl ti23 rfl rfl rfl rfl rfl) rfl (at_lt (lt_load_box 0 rfl ti69 rfl rfl rfl rfl rfl) rfl (at_hv rfl ?_))))
       refine hv_bslice (cs := [str x682.2.1, .int .u8 (x675.Ind_0.toNat : Int), .int .u8 (x675.Ind_1.toNat : Int), v696]) rfl und23 ti69 rfl rfl rfl rfl rfl (fun s729 => ?_)
       replace hr := imust hr
       obtain ⟨h730, hr⟩ := hr
       refine at_pure 1 rfl (fun hb732 => ?_)
       refine at_release 1 0 rfl rfl rfl hb732 ?_
       refine at_derive [10, 0] (ty69.fact (⟨x682.2.1, x675.Ind_0, x675.Ind_1, x695⟩ : D_api_Field) [str x682.2.1, .int .u8 (x675.Ind_0.toNat : Int), .int .u8 (x675.Ind_1.toNat : Int), v696]) rfl (fun F w h => mk69 (x := (⟨x682.2.1, x675.Ind_0, x675.Ind_1, x695⟩ : D_api_Field)) h) ?_
       refine at_rown 1 9 rfl rfl rfl (fun hn733 => ?_)
       refine at_one 1 rfl (fun ho734 => ?_)
       refine at_hv rfl ?_
       refine hv_append 1 0 rfl rfl rfl rfl und23 ti69 rfl rfl (allc rfl (allc rfl (allc rfl (allc ho734 rfl)))) (by omega) (by omega) rfl (fun s731 => ?_)
       refine at_rowsnoc 9 0 rfl rfl (at_lt (lt_fieldAddr 1 rfl fld25_1 rfl) rfl ?_)
       refine at_rowv 1 rfl (fun ho735 => ?_)
       replace ho735 := row_one (by obtain ⟨a, c, h⟩ := ho735; exact ⟨a, _, c, h⟩)
       refine at_hv rfl (hv_store1 1 (cs' := [.int .i64 a1.ID, s731]) rfl rfl ti23 rfl rfl rfl rfl ho735 (at_nil ?_))
       have hq := oinj hr
       clear hr
       subst hq
       refine at_mkpure (q := ((x664 ++ [(⟨x682.2.1, x675.Ind_0, x675.Ind_1, x695⟩ : D_api_Field)]).length * ty69.bytes ≤ 140737488355328)) (by simp only [List.length_append, List.length_cons, List.length_nil, ty69_bytes] <;> omega) ?_
       exact at_leaf (s731, n666 + 1, i667 ++ [str x682.2.1, .int .u8 (x675.Ind_0.toNat : Int), .int .u8 (x675.Ind_1.toNat : Int), v696]) ⟨⟨rfl, ⟨rfl, ⟨rfl, ⟨rfl, ⟨rfl, ⟨rfl, ⟨rfl, trivial⟩⟩⟩⟩⟩⟩⟩, ⟨[false, true, true], rfl⟩, ⟨[false, true], rfl⟩, ⟨[1, 0, 6, 7, 8, 9, 10, 14], rfl⟩⟩
      replace hr := ineg h728 hr
      refine at_false rfl (decide_eq_false (by omega)) ?_
      refine at_skip ?_
      have hq := oinj hr
      clear hr
      subst hq
      exact at_leaf (v665, n666, i667) ⟨⟨rfl, ⟨rfl, ⟨rfl, ⟨rfl, ⟨rfl, ⟨rfl, ⟨rfl, trivial⟩⟩⟩⟩⟩⟩⟩, ⟨[false, true, true], rfl⟩, ⟨[false, true], rfl⟩, ⟨[7, 8, 2, 3, 4, 5, 6, 10], rfl⟩⟩
     clear hc727
     intro e
     obtain ⟨v724, n725, i726⟩ := e
     change At _ _ (⟨[(2, w649), (3, w650), (8, .pointer (some (Addr.add ⟨b653, 0, none⟩ 0))), (10, .pointer (some (Addr.add ⟨b660, 0, none⟩ 0))), (34, s648), (35, .int .i64 (a1.Fields.length : Int)), (36, .int .i64 (x663 : Int))], [⟨b660, [.int .i64 a1.ID, v724], 25⟩, ⟨b653, [.int .i64 0, (.slice none 0 0)], 25⟩], [⟨v724, 69, 4, n725, i726⟩], [(ty69.row x723 i726), (pureF (x723.length * ty69.bytes ≤ 140737488355328)), (FnOk Tryz.prog w649 (sp79 p2)), (FnOk Tryz.prog w650 (sp80 p3)), ((Ty.slice ty69).fact a1.Fields [s648]), ((Ty.int .i64).fact (x663 : Int) [.int .i64 (x663 : Int)]), ((Ty.int .i64).fact a1.ID [.int .i64 a1.ID]), (utf8F 1 2)]⟩ : St) _
     refine at_in (s_tr (at_lt (lt_add rfl rfl (by simp only [lo, hi]; omega)) rfl (s_mv rfl (at_nil (at_int .i64 (x663 + 1 : Int) (by simp only [lo, hi]; omega) ?_)))))
     exact at_again (σ := (Nat × (List D_api_Field))) (V := Value × Nat × (List Value)) (lp := fun n s => m41_l1 a1 p2 p3 n s.1 s.2) (S := fun s e => (⟨[(2, w649), (3, w650), (8, .pointer (some (Addr.add ⟨b653, 0, none⟩ 0))), (10, .pointer (some (Addr.add ⟨b660, 0, none⟩ 0))), (34, s648), (35, .int .i64 (a1.Fields.length : Int)), (36, .int .i64 (s.1 : Int))], [⟨b660, [.int .i64 a1.ID, e.1], 25⟩, ⟨b653, [.int .i64 0, (.slice none 0 0)], 25⟩], [⟨e.1, 69, 4, e.2.1, e.2.2⟩], [((Ty.int .i64).fact (s.1 : Int) [.int .i64 (s.1 : Int)]), (ty69.row s.2 e.2.2), (pureF (s.2.length * ty69.bytes ≤ 140737488355328)), (FnOk Tryz.prog w649 (sp79 p2)), (FnOk Tryz.prog w650 (sp80 p3)), ((Ty.slice ty69).fact a1.Fields [s648]), ((Ty.int .i64).fact a1.ID [.int .i64 a1.ID]), (utf8F 1 2)]⟩ : St)) (x663 + 1, x723) (v724, n725, i726) hr ⟨⟨rfl, ⟨rfl, ⟨rfl, ⟨rfl, ⟨rfl, ⟨rfl, ⟨rfl, trivial⟩⟩⟩⟩⟩⟩⟩, ⟨[true, true], rfl⟩, ⟨[true], rfl⟩, ⟨[0, 1, 2, 3, 4, 5, 7, 8], rfl⟩⟩
    replace hr := ineg h674 hr
    refine at_false rfl (decide_eq_false (by omega)) ?_
    refine at_exit (at_then_exit (at_then_exit (at_in_exit ?_)))
    have hq := oinj hr
    clear hr
    subst hq
    exact at_leaf (v665, n666, i667) ⟨⟨rfl, ⟨rfl, trivial⟩⟩, ⟨[true, true], rfl⟩, ⟨[true], rfl⟩, ⟨[1, 2, 6, 7], rfl⟩⟩
   clear hl672
   intro e
   obtain ⟨v669, n670, i671⟩ := e
   change At _ _ (⟨[(8, .pointer (some (Addr.add ⟨b653, 0, none⟩ 0))), (10, .pointer (some (Addr.add ⟨b660, 0, none⟩ 0)))], [⟨b660, [.int .i64 a1.ID, v669], 25⟩, ⟨b653, [.int .i64 0, (.slice none 0 0)], 25⟩], [⟨v669, 69, 4, n670, i671⟩], [(ty69.row x668 i671), (pureF (x668.length * ty69.bytes ≤ 140737488355328)), ((Ty.int .i64).fact a1.ID [.int .i64 a1.ID]), (utf8F 1 2)]⟩ : St) _
   refine at_then (at_seq (s_sr (at_lt (lt_fieldAddr 1 rfl fld25_1 rfl) rfl (at_lt (lt_load_box 0 rfl ti23 rfl rfl rfl rfl rfl) rfl ?_))))
   refine at_rown 0 0 rfl rfl rfl (fun hn736 => ?_)
   refine at_rowv 0 rfl (fun hv737 => ?_)
   refine at_lt (lt_rlen rfl hv737 und23 hn736) rfl (at_lt (lt_eql rfl rfl) rfl (s_nt ?_))
   by_cases h738 : x668.length = 0
   ·replace hr := ipos h738 hr
    refine at_true rfl (decide_eq_true (by omega)) ?_
    refine s_sr (at_lt (lt_build (cs := [.int .i64 0, (.slice none 0 0)]) rfl ti25 pl25 rfl) rfl (at_hv rfl (hv_store_box 1 (cs' := [.int .i64 0, (.slice none 0 0)]) rfl rfl ti25 rfl rfl rfl rfl rfl (s_as rfl (s_nt (at_ret ?_))))))
    have hq := oinj hr
    clear hr
    subst hq
    refine at_then_ret (at_int .i64 0 (by simp only [lo, hi]; omega) (at_fnil ty69 none ?_))
    refine at_derive [1, 0] (ty25.fact (⟨0, ([] : (List D_api_Field))⟩ : D_api_Record) [.int .i64 0, (.slice none 0 0)]) rfl (fun F w h => mk25 (x := (⟨0, ([] : (List D_api_Field))⟩ : D_api_Record)) h) ?_
    refine at_int .i64 9 (by simp only [lo, hi]; omega) ?_
    exact at_return (.tuple #[.agg #[.int .i64 0, (.slice none 0 0)], .int .i64 9]) [1, 0] hS Tryz.results41 (.cons (.cell 1 rfl ti25 rfl rfl rfl rfl) (.cons (.tmp rfl) .nil)) rfl rfl ⟨((.slice none 0 0)), rfl, rfl⟩
   replace hr := ineg h738 hr
   refine at_false rfl (decide_eq_false (by omega)) ?_
   refine at_skip (s_tsr (at_lt (lt_fieldAddr 1 rfl fld25_1 rfl) rfl (at_lt (lt_load_box 0 rfl ti23 rfl rfl rfl rfl rfl) rfl ?_)))
   replace hr := obind hr
   obtain ⟨x739, h740, hr⟩ := hr
   refine at_fn 77 [] [] (sp116 m77) en77 rfl (by rintro _ _ _ ⟨a0, a1, r, s741, s742, h, rfl, rfl, rfl⟩; exact f77_spec h) ?_
   refine at_pure 2 rfl (fun hb743 => ?_)
   refine at_hv rfl (hv_callG0 [true] [1, 2, 0] (f76_spec h740) rfl rfl rfl rfl rfl rfl ?_)
   rintro _ _ _ ⟨rfl, i744, rfl, rfl⟩
   refine s_ntsr (at_lt (lt_load_box 0 rfl ti25 rfl rfl rfl rfl rfl) rfl ?_)
   refine at_rowv 0 rfl (fun ho745 => ?_)
   replace ho745 := row_one (by obtain ⟨a, c, h⟩ := ho745; exact ⟨a, _, c, h⟩)
   refine at_hv rfl (hv_store_box 1 (cs' := [.int .i64 a1.ID, v669]) rfl rfl ti25 rfl rfl rfl rfl (allc rfl (allc ho745 rfl)) (s_as rfl (s_nt (at_ret ?_))))
   have hq := oinj hr
   clear hr
   subst hq
   refine at_pure 1 rfl (fun hb746 => ?_)
   refine at_release 0 0 rfl rfl rfl hb746 ?_
   refine at_derive [6, 0] (ty25.fact (⟨a1.ID, x739⟩ : D_api_Record) [.int .i64 a1.ID, v669]) rfl (fun F w h => mk25 (x := (⟨a1.ID, x739⟩ : D_api_Record)) h) ?_
   refine at_int .i64 0 (by simp only [lo, hi]; omega) ?_
   exact at_return (.tuple #[.agg #[.int .i64 a1.ID, v669], .int .i64 0]) [1, 0] hS Tryz.results41 (.cons (.cell 1 rfl ti25 rfl rfl rfl rfl) (.cons (.tmp rfl) .nil)) rfl rfl ⟨v669, rfl, rfl⟩
  replace hr := ineg h659 hr
  refine at_true rfl (nf (bf h659)) (s_sr (at_lt (lt_build (cs := [.int .i64 0, (.slice none 0 0)]) rfl ti25 pl25 rfl) rfl (at_hv rfl (hv_store_box 0 (cs' := [.int .i64 0, (.slice none 0 0)]) rfl rfl ti25 rfl rfl rfl rfl rfl (s_as rfl (s_nt (at_ret ?_)))))))
  have hq := oinj hr
  clear hr
  subst hq
  refine at_then_ret (at_int .i64 0 (by simp only [lo, hi]; omega) (at_fnil ty69 none ?_))
  refine at_derive [1, 0] (ty25.fact (⟨0, ([] : (List D_api_Field))⟩ : D_api_Record) [.int .i64 0, (.slice none 0 0)]) rfl (fun F w h => mk25 (x := (⟨0, ([] : (List D_api_Field))⟩ : D_api_Record)) h) ?_
  refine at_int .i64 1 (by simp only [lo, hi]; omega) ?_
  exact at_return (.tuple #[.agg #[.int .i64 0, (.slice none 0 0)], .int .i64 1]) [1, 0] hS Tryz.results41 (.cons (.cell 0 rfl ti25 rfl rfl rfl rfl) (.cons (.tmp rfl) .nil)) rfl rfl ⟨((.slice none 0 0)), rfl, rfl⟩
 replace hr := ineg h656 hr
 refine at_off rfl rfl (nf (bf h656)) rfl (at_off rfl rfl (nf (bf h656)) rfl (at_off rfl rfl (nf (bf h656)) rfl (at_lt (lt_pick true rfl (nf (bf h656)) rfl) rfl (s_nt (at_true rfl rfl (s_sr (at_lt (lt_build (cs := [.int .i64 0, (.slice none 0 0)]) rfl ti25 pl25 rfl) rfl (at_hv rfl (hv_store_box 0 (cs' := [.int .i64 0, (.slice none 0 0)]) rfl rfl ti25 rfl rfl rfl rfl rfl ?_)))))))))
 refine s_as rfl (s_nt (at_ret ?_))
 have hq := oinj hr
 clear hr
 subst hq
 refine at_then_ret (at_int .i64 0 (by simp only [lo, hi]; omega) (at_fnil ty69 none ?_))
 refine at_derive [1, 0] (ty25.fact (⟨0, ([] : (List D_api_Field))⟩ : D_api_Record) [.int .i64 0, (.slice none 0 0)]) rfl (fun F w h => mk25 (x := (⟨0, ([] : (List D_api_Field))⟩ : D_api_Record)) h) ?_
 refine at_int .i64 1 (by simp only [lo, hi]; omega) ?_
 exact at_return (.tuple #[.agg #[.int .i64 0, (.slice none 0 0)], .int .i64 1]) [1, 0] hS Tryz.results41 (.cons (.cell 0 rfl ti25 rfl rfl rfl rfl) (.cons (.tmp rfl) .nil)) rfl rfl ⟨((.slice none 0 0)), rfl, rfl⟩
def m111_l1 (a0 : (List D_crosswalk_Entry)) (p1 : (D_crosswalk_Entry → Option Bool)) : Nat → Nat → Option (Fl Int Unit)
  | 0, _ => none
  | k + 1, x752 =>
    if x752 < a0.length then
     (a0[x752]?).bind fun x757 =>
     (p1 x757).bind fun x762 =>
     if x762 = true then
      some (Fl.ret (x752 : Int))
     else
      m111_l1 a0 p1 k (x752 + 1)
    else
     some (Fl.go ())
def m111 (a0 : (List D_crosswalk_Entry)) (p1 : (D_crosswalk_Entry → Option Bool)) : Option Int :=
  (m111_l1 a0 p1 (a0.length + 1) 0).bind fun r => match r with
  | .ret x => some x
  | .go _ =>
   some (-1)
def post111 (r : Int) (v : Value) (fs : List Fact) : Prop := v = .int .i64 r ∧ fs = [((Ty.int .i64).fact r [.int .i64 r])]
theorem en111 : Enters Tryz.prog 111 := ⟨_, Tryz.func111, by kernel_rfl, rfl⟩
theorem f111_spec {a0 : (List D_crosswalk_Entry)} {p1 : (D_crosswalk_Entry → Option Bool)} {w748 : Value} {w749 : Value} {r : Int} (hr : m111 a0 p1 = some r) : Spec Tryz.prog 111 [w748, w749] [((Ty.slice ty76).fact a0 [w748]), (FnOk Tryz.prog w749 (sp98 p1))] (post111 r) := by
 refine spec_start (N := 19) Tryz.func111 (by kernel_rfl) rfl rfl rfl ?_
 intro g hS
 unfold m111 at hr
 refine s_sr (s_as rfl (s_nt (at_seq (s_sr (s_mv rfl ?_)))))
 refine at_inv 0 rfl (fun i750 => ?_)
 have l751 := slice_len i750
 refine at_lt (lt_flen 0 rfl rfl und33) rfl (s_mv rfl (s_nt (at_int .i64 0 (by simp only [lo, hi]; omega) ?_)))
 replace hr := obind hr
 obtain ⟨r753, hl754, hk755⟩ := hr
 refine at_cutP (V := (Unit) × (Unit)) (fun v => r753 = Fl.go v.1) (fun v => (⟨[], [], [], []⟩ : St)) ?_ ?_
 ·refine at_block ?_
  refine at_loopW (σ := Nat) (V := Unit) (r := r753) (fun n s => m111_l1 a0 p1 n s) (fun s e => (⟨[(0, w748), (1, w749), (7, .int .i64 (a0.length : Int)), (8, .int .i64 (s : Int))], [], [], [((Ty.int .i64).fact (s : Int) [.int .i64 (s : Int)]), ((Ty.slice ty76).fact a0 [w748]), (FnOk Tryz.prog w749 (sp98 p1))]⟩ : St)) (fun _ => rfl) _ 0 () hl754 ⟨⟨rfl, ⟨rfl, ⟨rfl, ⟨rfl, trivial⟩⟩⟩⟩, ⟨[], rfl⟩, ⟨[], rfl⟩, ⟨[0, 1, 2], rfl⟩⟩ ?_
  clear hl754
  intro n x752 hr e
  skip
  skip
  change m111_l1 a0 p1 (n + 1) x752 = some r753 at hr
  change At _ _ (⟨[(0, w748), (1, w749), (7, .int .i64 (a0.length : Int)), (8, .int .i64 (x752 : Int))], [], [], [((Ty.int .i64).fact (x752 : Int) [.int .i64 (x752 : Int)]), ((Ty.slice ty76).fact a0 [w748]), (FnOk Tryz.prog w749 (sp98 p1))]⟩ : St) _
  rw [m111_l1] at hr
  refine s_sr (at_lt (lt_lss rfl rfl) rfl (s_nt (at_seq ?_)))
  by_cases h756 : x752 < a0.length
  ·replace hr := ipos h756 hr
   refine at_true rfl (decide_eq_true (by omega)) ?_
   refine at_skip (at_then (at_seq (at_block (s_sr (s_mv rfl (s_as rfl (s_ntsr (s_mv rfl (s_mv rfl ?_)))))))))
   refine s_mv rfl ?_
   replace hr := obind hr
   obtain ⟨x757, h758, hr⟩ := hr
   have := (List.getElem?_eq_some_iff.1 h758).1
   refine at_elem 1 rfl (nat_at' h758) (fun p760 ec pa761 => ?_)
   refine at_open (A := Value) 0 rfl _ _ (fun F w h => op76 h) ?_
   rintro s759 rfl
   refine at_lt (lt_idx rfl rfl pa761 und33 ti76) rfl (at_lt (lt_load_peek 4 rfl ti76 rfl rfl rfl rfl rfl) rfl ?_)
   replace hr := obind hr
   obtain ⟨x762, h763, hr⟩ := hr
   refine at_hv rfl ?_
   refine hv_callf 7 [3] rfl rfl rfl ⟨x757, x762, s759, h763, rfl, rfl, rfl⟩ rfl rfl ?_
   rintro _ _ ⟨rfl, rfl⟩
   refine s_nt ?_
   by_cases h764 : x762 = true
   ·replace hr := ipos h764 hr
    refine at_true rfl h764 (s_sr (s_mv rfl (s_as rfl (s_nt (at_ret ?_)))))
    have hq := oinj hr
    clear hr
    subst hq
    have hq := oinj hk755
    clear hk755
    subst hq
    refine at_in_ret (at_then_ret (at_then_ret (at_in_ret (at_then_ret (at_then_ret ?_)))))
    exact at_return (.int .i64 (x752 : Int)) [5] hS Tryz.results111 (.cons (.tmp rfl) .nil) rfl rfl ⟨rfl, rfl⟩
   replace hr := ineg h764 hr
   refine at_false rfl (bf h764) (at_skip (at_in (s_tr (at_lt (lt_add rfl rfl (by simp only [lo, hi]; omega)) rfl (s_mv rfl (at_nil (at_int .i64 (x752 + 1 : Int) (by simp only [lo, hi]; omega) ?_)))))))
   exact at_again (σ := Nat) (V := Unit) (lp := fun n s => m111_l1 a0 p1 n s) (S := fun s e => (⟨[(0, w748), (1, w749), (7, .int .i64 (a0.length : Int)), (8, .int .i64 (s : Int))], [], [], [((Ty.int .i64).fact (s : Int) [.int .i64 (s : Int)]), ((Ty.slice ty76).fact a0 [w748]), (FnOk Tryz.prog w749 (sp98 p1))]⟩ : St)) (x752 + 1) () hr ⟨⟨rfl, ⟨rfl, ⟨rfl, ⟨rfl, trivial⟩⟩⟩⟩, ⟨[], rfl⟩, ⟨[], rfl⟩, ⟨[0, 7, 8], rfl⟩⟩
  replace hr := ineg h756 hr
  refine at_false rfl (decide_eq_false (by omega)) ?_
  refine at_exit (at_then_exit (at_then_exit (at_in_exit ?_)))
  have hq := oinj hr
  clear hr
  subst hq
  exact at_leafP ((), ()) rfl ⟨trivial, ⟨[], rfl⟩, ⟨[], rfl⟩, ⟨[], rfl⟩⟩
 rintro ⟨_, _⟩ hp
 replace hr := hk755
 subst hp
 clear hl754
 change At _ _ (⟨[], [], [], []⟩ : St) _
 refine s_tsr (s_as rfl (s_nt (at_ret ?_)))
 have hq := oinj hr
 clear hr
 subst hq
 refine at_int .i64 (-1) (by simp only [lo, hi]; omega) ?_
 exact at_return (.int .i64 (-1)) [0] hS Tryz.results111 (.cons (.tmp rfl) .nil) rfl rfl ⟨rfl, rfl⟩
def m78 (a0 : (List D_crosswalk_Entry)) (p1 : (D_crosswalk_Entry → Option Bool)) : Option (D_crosswalk_Entry × Bool) :=
  (m111 a0 p1).bind fun x768 =>
  if (0 : Int) ≤ x768 then
   (at? a0 x768).bind fun x772 =>
   some ((⟨x772.From, x772.To, x772.Codes⟩ : D_crosswalk_Entry), true)
  else
   some ((⟨([] : Str), ([] : Str), ([] : (List D_crosswalk_Pair))⟩ : D_crosswalk_Entry), false)
def post78 (r : (D_crosswalk_Entry × Bool)) (v : Value) (fs : List Fact) : Prop := ∃ s779 : Value, v = .tuple #[.agg #[str r.1.From, str r.1.To, s779], .bool r.2] ∧ fs = [(ty76.fact r.1 [str r.1.From, str r.1.To, s779])]
theorem en78 : Enters Tryz.prog 78 := ⟨_, Tryz.func78, by kernel_rfl, rfl⟩
theorem f78_spec {a0 : (List D_crosswalk_Entry)} {p1 : (D_crosswalk_Entry → Option Bool)} {w765 : Value} {w766 : Value} {r : (D_crosswalk_Entry × Bool)} (hr : m78 a0 p1 = some r) : Spec Tryz.prog 78 [w765, w766] [((Ty.slice ty76).fact a0 [w765]), (FnOk Tryz.prog w766 (sp98 p1))] (post78 r) := by
 refine spec_start (N := 18) Tryz.func78 (by kernel_rfl) rfl rfl rfl ?_
 intro g hS
 unfold m78 at hr
 refine s_sr (at_hv rfl ?_)
 refine hv_alloc (cs := [str ([] : Str), str ([] : Str), (.slice none 0 0)]) ti76 rfl rfl (fun b767 => ?_)
 refine s_as rfl (s_nt (at_seq (s_sr (s_mv rfl (s_mv rfl ?_)))))
 replace hr := obind hr
 obtain ⟨x768, h769, hr⟩ := hr
 refine at_hv rfl (hv_call0 [0, 1] (f111_spec h769) rfl rfl rfl rfl ?_)
 rintro _ _ ⟨rfl, rfl⟩
 refine at_inv 0 rfl (fun l770 => ?_)
 replace l770 : (-9223372036854775808) ≤ x768 ∧ x768 ≤ 9223372036854775807 := l770
 refine s_as rfl (s_ntsr (s_mv rfl (at_lt (lt_geq rfl rfl) rfl (s_nt ?_))))
 by_cases h771 : (0 : Int) ≤ x768
 ·replace hr := ipos h771 hr
  refine at_true rfl (decide_eq_true (by first | exact h771 | omega)) ?_
  refine s_sr (s_mv rfl (s_mv rfl ?_))
  replace hr := obind hr
  obtain ⟨x772, h773, hr⟩ := hr
  have := at?_lt h773
  refine at_elem 1 rfl h773 (fun p775 ec pa776 => ?_)
  refine at_open (A := Value) 0 rfl _ _ (fun F w h => op76 h) ?_
  rintro s774 rfl
  refine at_lt (lt_idx rfl rfl pa776 und33 ti76) rfl (at_lt (lt_load_peek 4 rfl ti76 rfl rfl rfl rfl rfl) rfl ?_)
  refine at_one 2 rfl (fun ho777 => ?_)
  refine at_hv rfl (hv_store_box 0 (cs' := [str x772.From, str x772.To, s774]) rfl rfl ti76 rfl rfl rfl rfl (allc rfl (allc rfl (allc ho777 rfl))) (s_as rfl (s_nt (at_ret ?_))))
  have hq := oinj hr
  clear hr
  subst hq
  refine at_then_ret ?_
  refine at_derive [0, 1, 2] (ty76.fact (⟨x772.From, x772.To, x772.Codes⟩ : D_crosswalk_Entry) [str x772.From, str x772.To, s774]) rfl (fun F w h => mk76 (x := (⟨x772.From, x772.To, x772.Codes⟩ : D_crosswalk_Entry)) h) ?_
  exact at_return (.tuple #[.agg #[str x772.From, str x772.To, s774], .bool true]) [0] hS Tryz.results78 (.cons (.cell 0 rfl ti76 rfl rfl rfl rfl) (.cons (.tmp rfl) .nil)) rfl rfl ⟨s774, rfl, rfl⟩
 replace hr := ineg h771 hr
 refine at_false rfl (decide_eq_false (by first | exact h771 | omega)) ?_
 refine at_skip (s_tsr (at_hv rfl ?_))
 refine hv_alloc (cs := [str ([] : Str), str ([] : Str), (.slice none 0 0)]) ti76 rfl rfl (fun b778 => ?_)
 refine s_ntsr (at_lt (lt_load_box 0 rfl ti76 rfl rfl rfl rfl rfl) rfl (at_hv rfl (hv_store_box 1 (cs' := [str ([] : Str), str ([] : Str), (.slice none 0 0)]) rfl rfl ti76 rfl rfl rfl rfl rfl (s_as rfl (s_nt (at_ret ?_))))))
 have hq := oinj hr
 clear hr
 subst hq
 refine at_str ([] : Str) (by decide) ?_
 refine at_fnil ty82 none ?_
 refine at_derive [1, 1, 0] (ty76.fact (⟨([] : Str), ([] : Str), ([] : (List D_crosswalk_Pair))⟩ : D_crosswalk_Entry) [str ([] : Str), str ([] : Str), (.slice none 0 0)]) rfl (fun F w h => mk76 (x := (⟨([] : Str), ([] : Str), ([] : (List D_crosswalk_Pair))⟩ : D_crosswalk_Entry)) h) ?_
 exact at_return (.tuple #[.agg #[str ([] : Str), str ([] : Str), (.slice none 0 0)], .bool false]) [0] hS Tryz.results78 (.cons (.cell 1 rfl ti76 rfl rfl rfl rfl) (.cons (.tmp rfl) .nil)) rfl rfl ⟨((.slice none 0 0)), rfl, rfl⟩
def m79 (a0 : D_crosswalk_Entry) (c0 : Str) : Option Bool :=
  some (decide (a0.From = c0))
def post79 (r : Bool) (v : Value) (fs : List Fact) : Prop := v = .bool r ∧ fs = []
theorem en79 : Enters Tryz.prog 79 := ⟨_, Tryz.func79, by kernel_rfl, rfl⟩
theorem f79_spec {a0 : D_crosswalk_Entry} {c0 : Str} {s780 : Value} {b781 : Nat} {r : Bool} (hr : m79 a0 c0 = some r) : Spec Tryz.prog 79 [.agg #[str a0.From, str a0.To, s780], .pointer (some (Addr.add ⟨b781, 0, none⟩ 0))] [(ty76.fact a0 [str a0.From, str a0.To, s780]), (peek ⟨b781, 0, none⟩ [str c0]), (Ty.str.fact c0 [str c0])] (post79 r) := by
 refine spec_start (N := 8) Tryz.func79 (by kernel_rfl) rfl rfl rfl ?_
 intro g hS
 unfold m79 at hr
 refine at_open (A := Unit) 0 rfl (fun _ => True) (fun _ => [(Ty.str.fact a0.From [str a0.From]), (Ty.str.fact a0.To [str a0.To]), ((Ty.slice ty82).fact a0.Codes [s780])]) (fun F w h => ⟨(), trivial, ex76 h⟩) (fun _ _ => ?_)
 refine s_sr (at_hv rfl ?_)
 refine hv_box (cs := [str a0.From, str a0.To, s780]) rfl rfl rfl (fun b782 => ?_)
 refine s_as rfl (s_ntsr (at_lt (lt_fieldAddr 0 rfl fld76_0 rfl) rfl (at_lt (lt_load_box 0 rfl ti9 rfl rfl rfl rfl rfl) rfl (at_lt (lt_load_peek 4 rfl ti9 rfl rfl rfl rfl rfl) rfl (at_lt (lt_seql rfl rfl) rfl (s_as rfl (s_nt (at_ret ?_))))))))
 have hq := oinj hr
 clear hr
 subst hq
 exact at_return (.bool (decide (a0.From = c0))) [] hS Tryz.results79 (.cons (.tmp rfl) .nil) rfl rfl ⟨rfl, rfl⟩
def m43 (a0 : (List D_crosswalk_Entry)) (a1 : Str) : Option (D_crosswalk_Entry × Bool) :=
  (m78 a0 (fun y0 => m79 y0 a1)).bind fun x786 =>
  some ((⟨x786.1.From, x786.1.To, x786.1.Codes⟩ : D_crosswalk_Entry), x786.2)
def post43 (r : (D_crosswalk_Entry × Bool)) (v : Value) (fs : List Fact) : Prop := ∃ s791 : Value, v = .tuple #[.agg #[str r.1.From, str r.1.To, s791], .bool r.2] ∧ fs = [(ty76.fact r.1 [str r.1.From, str r.1.To, s791])]
theorem en43 : Enters Tryz.prog 43 := ⟨_, Tryz.func43, by kernel_rfl, rfl⟩
theorem f43_spec {a0 : (List D_crosswalk_Entry)} {a1 : Str} {w783 : Value} {r : (D_crosswalk_Entry × Bool)} (hr : m43 a0 a1 = some r) : Spec Tryz.prog 43 [w783, str a1] [((Ty.slice ty76).fact a0 [w783]), (Ty.str.fact a1 [str a1])] (post43 r) := by
 refine spec_start (N := 11) Tryz.func43 (by kernel_rfl) rfl rfl rfl ?_
 intro g hS
 unfold m43 at hr
 refine s_sr (at_hv rfl ?_)
 refine hv_box (cs := [str a1]) rfl rfl rfl (fun b784 => ?_)
 refine at_hv rfl ?_
 refine hv_alloc (cs := [str ([] : Str), str ([] : Str), (.slice none 0 0)]) ti76 rfl rfl (fun b785 => ?_)
 refine s_as rfl (s_ntsr (s_mv rfl (at_lt (lt_makeFunc rfl) rfl ?_)))
 replace hr := obind hr
 obtain ⟨x786, h787, hr⟩ := hr
 refine at_freeze 1 rfl ?_
 refine at_fn 79 [.pointer (some (Addr.add ⟨b784, 0, none⟩ 0))] [0, 2] (sp98 (fun y0 => m79 y0 a1)) en79 rfl (by rintro _ _ _ ⟨a0, r, s789, h, rfl, rfl, rfl⟩; exact f79_spec h) ?_
 refine at_hv rfl (hv_call0 [2, 0] (f78_spec h787) rfl rfl rfl rfl ?_)
 rintro _ _ ⟨s788, rfl, rfl⟩
 refine at_open (A := Unit) 0 rfl (fun _ => True) (fun _ => [(Ty.str.fact x786.1.From [str x786.1.From]), (Ty.str.fact x786.1.To [str x786.1.To]), ((Ty.slice ty82).fact x786.1.Codes [s788])]) (fun F w h => ⟨(), trivial, ex76 h⟩) (fun _ _ => ?_)
 refine at_lt (lt_extract rfl rfl) rfl (at_lt (lt_extract rfl rfl) rfl ?_)
 refine at_one 2 rfl (fun ho790 => ?_)
 refine at_hv rfl (hv_store_box 0 (cs' := [str x786.1.From, str x786.1.To, s788]) rfl rfl ti76 rfl rfl rfl rfl (allc rfl (allc rfl (allc ho790 rfl))) (s_as rfl (s_nt (at_ret ?_))))
 have hq := oinj hr
 clear hr
 subst hq
 refine at_derive [0, 1, 2] (ty76.fact (⟨x786.1.From, x786.1.To, x786.1.Codes⟩ : D_crosswalk_Entry) [str x786.1.From, str x786.1.To, s788]) rfl (fun F w h => mk76 (x := (⟨x786.1.From, x786.1.To, x786.1.Codes⟩ : D_crosswalk_Entry)) h) ?_
 exact at_return (.tuple #[.agg #[str x786.1.From, str x786.1.To, s788], .bool x786.2]) [0] hS Tryz.results43 (.cons (.cell 0 rfl ti76 rfl rfl rfl rfl) (.cons (.tmp rfl) .nil)) rfl rfl ⟨s788, rfl, rfl⟩
def m42 (a0 : Str) (c0 : (List D_crosswalk_Entry)) : Option (D_crosswalk_Entry × Str × Bool) :=
  (m43 c0 a0).bind fun x795 =>
  some ((⟨x795.1.From, x795.1.To, x795.1.Codes⟩ : D_crosswalk_Entry), x795.1.To, x795.2)
def post42 (r : (D_crosswalk_Entry × Str × Bool)) (v : Value) (fs : List Fact) : Prop := ∃ s800 : Value, v = .tuple #[.agg #[str r.1.From, str r.1.To, s800], str r.2.1, .bool r.2.2] ∧ fs = [(ty76.fact r.1 [str r.1.From, str r.1.To, s800]), (Ty.str.fact r.2.1 [str r.2.1])]
theorem en42 : Enters Tryz.prog 42 := ⟨_, Tryz.func42, by kernel_rfl, rfl⟩
theorem f42_spec {a0 : Str} {c0 : (List D_crosswalk_Entry)} {b792 : Nat} {w793 : Value} {r : (D_crosswalk_Entry × Str × Bool)} (hr : m42 a0 c0 = some r) : Spec Tryz.prog 42 [str a0, .pointer (some (Addr.add ⟨b792, 0, none⟩ 0))] [(Ty.str.fact a0 [str a0]), (peek ⟨b792, 0, none⟩ [w793]), ((Ty.slice ty76).fact c0 [w793])] (post42 r) := by
 refine spec_start (N := 18) Tryz.func42 (by kernel_rfl) rfl rfl rfl ?_
 intro g hS
 unfold m42 at hr
 refine s_sr (at_hv rfl ?_)
 refine hv_alloc (cs := [str ([] : Str), str ([] : Str), (.slice none 0 0)]) ti76 rfl rfl (fun b794 => ?_)
 refine s_as rfl (s_as rfl (s_ntsr (at_lt (lt_load_peek 1 rfl ti34 rfl rfl rfl rfl rfl) rfl (s_mv rfl ?_))))
 replace hr := obind hr
 obtain ⟨x795, h796, hr⟩ := hr
 refine at_hv rfl (hv_call0 [2, 0] (f43_spec h796) rfl rfl rfl rfl ?_)
 rintro _ _ ⟨s797, rfl, rfl⟩
 refine at_open (A := Unit) 0 rfl (fun _ => True) (fun _ => [(Ty.str.fact x795.1.From [str x795.1.From]), (Ty.str.fact x795.1.To [str x795.1.To]), ((Ty.slice ty82).fact x795.1.Codes [s797])]) (fun F w h => ⟨(), trivial, ex76 h⟩) (fun _ _ => ?_)
 refine s_mv rfl (at_lt (lt_extract rfl rfl) rfl (at_lt (lt_extract rfl rfl) rfl (at_hv rfl ?_)))
 refine hv_alloc (cs := [str ([] : Str), str ([] : Str), (.slice none 0 0)]) ti76 rfl rfl (fun b798 => ?_)
 refine at_one 2 rfl (fun ho799 => ?_)
 refine at_hv rfl (hv_store_box 0 (cs' := [str x795.1.From, str x795.1.To, s797]) rfl rfl ti76 rfl rfl rfl rfl (allc rfl (allc rfl (allc ho799 rfl))) (s_as rfl (s_nt (at_seq ?_))))
 refine aa_start 4 (by kernel_rfl) ?_
 refine aa_l 0 rfl (lt_load_box 0 rfl ti76 rfl rfl rfl rfl rfl) (aa_p 1 rfl (lt_fieldAddr 1 rfl fld76_1 rfl) (aa_p 3 rfl (lt_move rfl) ?_))
 refine aa_all (rs := [2, 4]) (by kernel_rfl) rfl (ts_in 0 0 rfl rfl) (List.forall_mem_cons.2 ⟨?_, (List.forall_mem_singleton.2 ?_)⟩)
 ·refine aa_op rfl rfl ?_
  refine hv_lt (lt_load_box 0 rfl ti9 rfl rfl rfl rfl rfl) rfl (aa_one 4 (aa_op rfl rfl (hv_store_box 1 (cs' := [str x795.1.From, str x795.1.To, s797]) rfl rfl ti76 rfl rfl rfl rfl (allc rfl (allc rfl (allc ho799 rfl))) ?_)))
  refine aa_all (rs := [5]) (by kernel_rfl) rfl (ts_out rfl) (List.forall_mem_singleton.2 ?_)
  refine aa_op rfl rfl (hv_lt (lt_assign rfl) rfl ?_)
  refine aa_all (rs := [6]) (by kernel_rfl) rfl (ts_out rfl) (List.forall_mem_singleton.2 ?_)
  refine aa_op rfl rfl (hv_lt (lt_assign rfl) rfl ?_)
  refine aa_done (by kernel_rfl) (ts_out rfl) ?_
  refine at_then (at_ret ?_)
  have hq := oinj hr
  clear hr
  subst hq
  refine at_derive [0, 1, 2] (ty76.fact (⟨x795.1.From, x795.1.To, x795.1.Codes⟩ : D_crosswalk_Entry) [str x795.1.From, str x795.1.To, s797]) rfl (fun F w h => mk76 (x := (⟨x795.1.From, x795.1.To, x795.1.Codes⟩ : D_crosswalk_Entry)) h) ?_
  exact at_return (.tuple #[.agg #[str x795.1.From, str x795.1.To, s797], str x795.1.To, .bool x795.2]) [0, 2] hS Tryz.results42 (.cons (.cell 1 rfl ti76 rfl rfl rfl rfl) (.cons (.tmp rfl) (.cons (.tmp rfl) .nil))) rfl rfl ⟨s797, rfl, rfl⟩
 ·refine aa_op rfl rfl ?_
  refine hv_store_box 1 (cs' := [str x795.1.From, str x795.1.To, s797]) rfl rfl ti76 rfl rfl rfl rfl (allc rfl (allc rfl (allc ho799 rfl))) ?_
  refine aa_all (rs := [2]) (by kernel_rfl) rfl (ts_out rfl) (List.forall_mem_singleton.2 ?_)
  refine aa_op rfl rfl (hv_lt (lt_load_box 0 rfl ti9 rfl rfl rfl rfl rfl) rfl ?_)
  refine aa_all (rs := [5]) (by kernel_rfl) rfl (ts_out rfl) (List.forall_mem_singleton.2 ?_)
  refine aa_op rfl rfl (hv_lt (lt_assign rfl) rfl ?_)
  refine aa_all (rs := [6]) (by kernel_rfl) rfl (ts_out rfl) (List.forall_mem_singleton.2 ?_)
  refine aa_op rfl rfl (hv_lt (lt_assign rfl) rfl ?_)
  refine aa_done (by kernel_rfl) (ts_out rfl) ?_
  refine at_then (at_ret ?_)
  have hq := oinj hr
  clear hr
  subst hq
  refine at_derive [0, 1, 2] (ty76.fact (⟨x795.1.From, x795.1.To, x795.1.Codes⟩ : D_crosswalk_Entry) [str x795.1.From, str x795.1.To, s797]) rfl (fun F w h => mk76 (x := (⟨x795.1.From, x795.1.To, x795.1.Codes⟩ : D_crosswalk_Entry)) h) ?_
  exact at_return (.tuple #[.agg #[str x795.1.From, str x795.1.To, s797], str x795.1.To, .bool x795.2]) [0, 2] hS Tryz.results42 (.cons (.cell 1 rfl ti76 rfl rfl rfl rfl) (.cons (.tmp rfl) (.cons (.tmp rfl) .nil))) rfl rfl ⟨s797, rfl, rfl⟩
def m112_l1 (a0 : (List D_crosswalk_Pair)) (p1 : (D_crosswalk_Pair → Option Bool)) : Nat → Nat → Option (Fl Int Unit)
  | 0, _ => none
  | k + 1, x805 =>
    if x805 < a0.length then
     (a0[x805]?).bind fun x810 =>
     (p1 x810).bind fun x814 =>
     if x814 = true then
      some (Fl.ret (x805 : Int))
     else
      m112_l1 a0 p1 k (x805 + 1)
    else
     some (Fl.go ())
def m112 (a0 : (List D_crosswalk_Pair)) (p1 : (D_crosswalk_Pair → Option Bool)) : Option Int :=
  (m112_l1 a0 p1 (a0.length + 1) 0).bind fun r => match r with
  | .ret x => some x
  | .go _ =>
   some (-1)
def post112 (r : Int) (v : Value) (fs : List Fact) : Prop := v = .int .i64 r ∧ fs = [((Ty.int .i64).fact r [.int .i64 r])]
theorem en112 : Enters Tryz.prog 112 := ⟨_, Tryz.func112, by kernel_rfl, rfl⟩
theorem f112_spec {a0 : (List D_crosswalk_Pair)} {p1 : (D_crosswalk_Pair → Option Bool)} {w801 : Value} {w802 : Value} {r : Int} (hr : m112 a0 p1 = some r) : Spec Tryz.prog 112 [w801, w802] [((Ty.slice ty82).fact a0 [w801]), (FnOk Tryz.prog w802 (sp120 p1))] (post112 r) := by
 refine spec_start (N := 19) Tryz.func112 (by kernel_rfl) rfl rfl rfl ?_
 intro g hS
 unfold m112 at hr
 refine s_sr (s_as rfl (s_nt (at_seq (s_sr (s_mv rfl ?_)))))
 refine at_inv 0 rfl (fun i803 => ?_)
 have l804 := slice_len i803
 refine at_lt (lt_flen 0 rfl rfl und74) rfl (s_mv rfl (s_nt (at_int .i64 0 (by simp only [lo, hi]; omega) ?_)))
 replace hr := obind hr
 obtain ⟨r806, hl807, hk808⟩ := hr
 refine at_cutP (V := (Unit) × (Unit)) (fun v => r806 = Fl.go v.1) (fun v => (⟨[], [], [], []⟩ : St)) ?_ ?_
 ·refine at_block ?_
  refine at_loopW (σ := Nat) (V := Unit) (r := r806) (fun n s => m112_l1 a0 p1 n s) (fun s e => (⟨[(0, w801), (1, w802), (7, .int .i64 (a0.length : Int)), (8, .int .i64 (s : Int))], [], [], [((Ty.int .i64).fact (s : Int) [.int .i64 (s : Int)]), ((Ty.slice ty82).fact a0 [w801]), (FnOk Tryz.prog w802 (sp120 p1))]⟩ : St)) (fun _ => rfl) _ 0 () hl807 ⟨⟨rfl, ⟨rfl, ⟨rfl, ⟨rfl, trivial⟩⟩⟩⟩, ⟨[], rfl⟩, ⟨[], rfl⟩, ⟨[0, 1, 2], rfl⟩⟩ ?_
  clear hl807
  intro n x805 hr e
  skip
  skip
  change m112_l1 a0 p1 (n + 1) x805 = some r806 at hr
  change At _ _ (⟨[(0, w801), (1, w802), (7, .int .i64 (a0.length : Int)), (8, .int .i64 (x805 : Int))], [], [], [((Ty.int .i64).fact (x805 : Int) [.int .i64 (x805 : Int)]), ((Ty.slice ty82).fact a0 [w801]), (FnOk Tryz.prog w802 (sp120 p1))]⟩ : St) _
  rw [m112_l1] at hr
  refine s_sr (at_lt (lt_lss rfl rfl) rfl (s_nt (at_seq ?_)))
  by_cases h809 : x805 < a0.length
  ·replace hr := ipos h809 hr
   refine at_true rfl (decide_eq_true (by omega)) ?_
   refine at_skip (at_then (at_seq (at_block (s_sr (s_mv rfl (s_as rfl (s_ntsr (s_mv rfl (s_mv rfl ?_)))))))))
   refine s_mv rfl ?_
   replace hr := obind hr
   obtain ⟨x810, h811, hr⟩ := hr
   have := (List.getElem?_eq_some_iff.1 h811).1
   refine at_elem 1 rfl (nat_at' h811) (fun p812 ec pa813 => ?_)
   refine at_open (A := Unit) 0 rfl _ _ (fun F w h => op82 h) ?_
   rintro _ rfl
   refine at_lt (lt_idx rfl rfl pa813 und74 ti82) rfl (at_lt (lt_load_peek 1 rfl ti82 rfl rfl rfl rfl rfl) rfl ?_)
   replace hr := obind hr
   obtain ⟨x814, h815, hr⟩ := hr
   refine at_hv rfl ?_
   refine hv_callf 4 [0] rfl rfl rfl ⟨x810, x814, h815, rfl, rfl, rfl⟩ rfl rfl ?_
   rintro _ _ ⟨rfl, rfl⟩
   refine s_nt ?_
   by_cases h816 : x814 = true
   ·replace hr := ipos h816 hr
    refine at_true rfl h816 (s_sr (s_mv rfl (s_as rfl (s_nt (at_ret ?_)))))
    have hq := oinj hr
    clear hr
    subst hq
    have hq := oinj hk808
    clear hk808
    subst hq
    refine at_in_ret (at_then_ret (at_then_ret (at_in_ret (at_then_ret (at_then_ret ?_)))))
    exact at_return (.int .i64 (x805 : Int)) [2] hS Tryz.results112 (.cons (.tmp rfl) .nil) rfl rfl ⟨rfl, rfl⟩
   replace hr := ineg h816 hr
   refine at_false rfl (bf h816) (at_skip (at_in (s_tr (at_lt (lt_add rfl rfl (by simp only [lo, hi]; omega)) rfl (s_mv rfl (at_nil (at_int .i64 (x805 + 1 : Int) (by simp only [lo, hi]; omega) ?_)))))))
   exact at_again (σ := Nat) (V := Unit) (lp := fun n s => m112_l1 a0 p1 n s) (S := fun s e => (⟨[(0, w801), (1, w802), (7, .int .i64 (a0.length : Int)), (8, .int .i64 (s : Int))], [], [], [((Ty.int .i64).fact (s : Int) [.int .i64 (s : Int)]), ((Ty.slice ty82).fact a0 [w801]), (FnOk Tryz.prog w802 (sp120 p1))]⟩ : St)) (x805 + 1) () hr ⟨⟨rfl, ⟨rfl, ⟨rfl, ⟨rfl, trivial⟩⟩⟩⟩, ⟨[], rfl⟩, ⟨[], rfl⟩, ⟨[0, 4, 5], rfl⟩⟩
  replace hr := ineg h809 hr
  refine at_false rfl (decide_eq_false (by omega)) ?_
  refine at_exit (at_then_exit (at_then_exit (at_in_exit ?_)))
  have hq := oinj hr
  clear hr
  subst hq
  exact at_leafP ((), ()) rfl ⟨trivial, ⟨[], rfl⟩, ⟨[], rfl⟩, ⟨[], rfl⟩⟩
 rintro ⟨_, _⟩ hp
 replace hr := hk808
 subst hp
 clear hl807
 change At _ _ (⟨[], [], [], []⟩ : St) _
 refine s_tsr (s_as rfl (s_nt (at_ret ?_)))
 have hq := oinj hr
 clear hr
 subst hq
 refine at_int .i64 (-1) (by simp only [lo, hi]; omega) ?_
 exact at_return (.int .i64 (-1)) [0] hS Tryz.results112 (.cons (.tmp rfl) .nil) rfl rfl ⟨rfl, rfl⟩
def m80 (a0 : (List D_crosswalk_Pair)) (p1 : (D_crosswalk_Pair → Option Bool)) : Option (D_crosswalk_Pair × Bool) :=
  (m112 a0 p1).bind fun x820 =>
  if (0 : Int) ≤ x820 then
   (at? a0 x820).bind fun x824 =>
   some ((⟨x824.From, x824.To⟩ : D_crosswalk_Pair), true)
  else
   some ((⟨0, 0⟩ : D_crosswalk_Pair), false)
def post80 (r : (D_crosswalk_Pair × Bool)) (v : Value) (fs : List Fact) : Prop := v = .tuple #[.agg #[.int .u8 (r.1.From.toNat : Int), .int .u8 (r.1.To.toNat : Int)], .bool r.2] ∧ fs = [(ty82.fact r.1 [.int .u8 (r.1.From.toNat : Int), .int .u8 (r.1.To.toNat : Int)])]
theorem en80 : Enters Tryz.prog 80 := ⟨_, Tryz.func80, by kernel_rfl, rfl⟩
theorem f80_spec {a0 : (List D_crosswalk_Pair)} {p1 : (D_crosswalk_Pair → Option Bool)} {w817 : Value} {w818 : Value} {r : (D_crosswalk_Pair × Bool)} (hr : m80 a0 p1 = some r) : Spec Tryz.prog 80 [w817, w818] [((Ty.slice ty82).fact a0 [w817]), (FnOk Tryz.prog w818 (sp120 p1))] (post80 r) := by
 refine spec_start (N := 18) Tryz.func80 (by kernel_rfl) rfl rfl rfl ?_
 intro g hS
 unfold m80 at hr
 refine s_sr (at_hv rfl ?_)
 refine hv_alloc (cs := [.int .u8 0, .int .u8 0]) ti82 rfl rfl (fun b819 => ?_)
 refine s_as rfl (s_nt (at_seq (s_sr (s_mv rfl (s_mv rfl ?_)))))
 replace hr := obind hr
 obtain ⟨x820, h821, hr⟩ := hr
 refine at_hv rfl (hv_call0 [0, 1] (f112_spec h821) rfl rfl rfl rfl ?_)
 rintro _ _ ⟨rfl, rfl⟩
 refine at_inv 0 rfl (fun l822 => ?_)
 replace l822 : (-9223372036854775808) ≤ x820 ∧ x820 ≤ 9223372036854775807 := l822
 refine s_as rfl (s_ntsr (s_mv rfl (at_lt (lt_geq rfl rfl) rfl (s_nt ?_))))
 by_cases h823 : (0 : Int) ≤ x820
 ·replace hr := ipos h823 hr
  refine at_true rfl (decide_eq_true (by first | exact h823 | omega)) ?_
  refine s_sr (s_mv rfl (s_mv rfl ?_))
  replace hr := obind hr
  obtain ⟨x824, h825, hr⟩ := hr
  have := at?_lt h825
  refine at_elem 1 rfl h825 (fun p826 ec pa827 => ?_)
  refine at_open (A := Unit) 0 rfl _ _ (fun F w h => op82 h) ?_
  rintro _ rfl
  refine at_lt (lt_idx rfl rfl pa827 und74 ti82) rfl (at_lt (lt_load_peek 1 rfl ti82 rfl rfl rfl rfl rfl) rfl (at_hv rfl (hv_store_box 0 (cs' := [.int .u8 (x824.From.toNat : Int), .int .u8 (x824.To.toNat : Int)]) rfl rfl ti82 rfl rfl rfl rfl rfl (s_as rfl (s_nt (at_ret ?_))))))
  have hq := oinj hr
  clear hr
  subst hq
  refine at_then_ret ?_
  refine at_derive [] (ty82.fact (⟨x824.From, x824.To⟩ : D_crosswalk_Pair) [.int .u8 (x824.From.toNat : Int), .int .u8 (x824.To.toNat : Int)]) rfl (fun F w h => mk82 (x := (⟨x824.From, x824.To⟩ : D_crosswalk_Pair)) h) ?_
  exact at_return (.tuple #[.agg #[.int .u8 (x824.From.toNat : Int), .int .u8 (x824.To.toNat : Int)], .bool true]) [0] hS Tryz.results80 (.cons (.cell 0 rfl ti82 rfl rfl rfl rfl) (.cons (.tmp rfl) .nil)) rfl rfl ⟨rfl, rfl⟩
 replace hr := ineg h823 hr
 refine at_false rfl (decide_eq_false (by first | exact h823 | omega)) ?_
 refine at_skip (s_tsr (at_hv rfl ?_))
 refine hv_alloc (cs := [.int .u8 0, .int .u8 0]) ti82 rfl rfl (fun b828 => ?_)
 refine s_ntsr (at_lt (lt_load_box 0 rfl ti82 rfl rfl rfl rfl rfl) rfl (at_hv rfl (hv_store_box 1 (cs' := [.int .u8 0, .int .u8 0]) rfl rfl ti82 rfl rfl rfl rfl rfl (s_as rfl (s_nt (at_ret ?_))))))
 have hq := oinj hr
 clear hr
 subst hq
 refine at_derive [] (ty82.fact (⟨0, 0⟩ : D_crosswalk_Pair) [.int .u8 0, .int .u8 0]) rfl (fun F w h => mk82 (x := (⟨0, 0⟩ : D_crosswalk_Pair)) h) ?_
 exact at_return (.tuple #[.agg #[.int .u8 0, .int .u8 0], .bool false]) [0] hS Tryz.results80 (.cons (.cell 1 rfl ti82 rfl rfl rfl rfl) (.cons (.tmp rfl) .nil)) rfl rfl ⟨rfl, rfl⟩
def m81 (a0 : D_crosswalk_Pair) (c0 : UInt8) : Option Bool :=
  some (decide ((a0.From.toNat : Int) = (c0.toNat : Int)))
def post81 (r : Bool) (v : Value) (fs : List Fact) : Prop := v = .bool r ∧ fs = []
theorem en81 : Enters Tryz.prog 81 := ⟨_, Tryz.func81, by kernel_rfl, rfl⟩
theorem f81_spec {a0 : D_crosswalk_Pair} {c0 : UInt8} {b829 : Nat} {r : Bool} (hr : m81 a0 c0 = some r) : Spec Tryz.prog 81 [.agg #[.int .u8 (a0.From.toNat : Int), .int .u8 (a0.To.toNat : Int)], .pointer (some (Addr.add ⟨b829, 0, none⟩ 0))] [(ty82.fact a0 [.int .u8 (a0.From.toNat : Int), .int .u8 (a0.To.toNat : Int)]), (peek ⟨b829, 0, none⟩ [.int .u8 (c0.toNat : Int)])] (post81 r) := by
 refine spec_start (N := 8) Tryz.func81 (by kernel_rfl) rfl rfl rfl ?_
 intro g hS
 unfold m81 at hr
 refine s_sr (at_hv rfl ?_)
 refine hv_box (cs := [.int .u8 (a0.From.toNat : Int), .int .u8 (a0.To.toNat : Int)]) rfl rfl rfl (fun b830 => ?_)
 refine s_as rfl (s_ntsr (at_lt (lt_fieldAddr 0 rfl fld82_0 rfl) rfl (at_lt (lt_load_box 0 rfl ti5 rfl rfl rfl rfl rfl) rfl (at_lt (lt_load_peek 1 rfl ti5 rfl rfl rfl rfl rfl) rfl (at_lt (lt_eql rfl rfl) rfl (s_as rfl (s_nt (at_ret ?_))))))))
 have hq := oinj hr
 clear hr
 subst hq
 exact at_return (.bool (decide ((a0.From.toNat : Int) = (c0.toNat : Int)))) [] hS Tryz.results81 (.cons (.tmp rfl) .nil) rfl rfl ⟨rfl, rfl⟩
def m44 (a0 : D_crosswalk_Entry) (a1 : UInt8) : Option (UInt8 × Bool) :=
  (m80 a0.Codes (fun y0 => m81 y0 a1)).bind fun x834 =>
  some (x834.1.To, x834.2)
def post44 (r : (UInt8 × Bool)) (v : Value) (fs : List Fact) : Prop := v = .tuple #[.int .u8 (r.1.toNat : Int), .bool r.2] ∧ fs = []
theorem en44 : Enters Tryz.prog 44 := ⟨_, Tryz.func44, by kernel_rfl, rfl⟩
theorem f44_spec {a0 : D_crosswalk_Entry} {a1 : UInt8} {s831 : Value} {r : (UInt8 × Bool)} (hr : m44 a0 a1 = some r) : Spec Tryz.prog 44 [.agg #[str a0.From, str a0.To, s831], .int .u8 (a1.toNat : Int)] [(ty76.fact a0 [str a0.From, str a0.To, s831])] (post44 r) := by
 refine spec_start (N := 18) Tryz.func44 (by kernel_rfl) rfl rfl rfl ?_
 intro g hS
 unfold m44 at hr
 refine at_open (A := Unit) 0 rfl (fun _ => True) (fun _ => [(Ty.str.fact a0.From [str a0.From]), (Ty.str.fact a0.To [str a0.To]), ((Ty.slice ty82).fact a0.Codes [s831])]) (fun F w h => ⟨(), trivial, ex76 h⟩) (fun _ _ => ?_)
 refine s_sr (at_hv rfl ?_)
 refine hv_box (cs := [str a0.From, str a0.To, s831]) rfl rfl rfl (fun b832 => ?_)
 refine at_hv rfl ?_
 refine hv_box (cs := [.int .u8 (a1.toNat : Int)]) rfl rfl rfl (fun b833 => ?_)
 refine s_as rfl (s_as rfl (s_ntsr (at_lt (lt_fieldAddr 2 rfl fld76_2 rfl) rfl (at_lt (lt_load_box 1 rfl ti74 rfl rfl rfl rfl rfl) rfl (at_lt (lt_makeFunc rfl) rfl ?_)))))
 replace hr := obind hr
 obtain ⟨x834, h835, hr⟩ := hr
 refine at_freeze 0 rfl ?_
 refine at_fn 81 [.pointer (some (Addr.add ⟨b833, 0, none⟩ 0))] [0] (sp120 (fun y0 => m81 y0 a1)) en81 rfl (by rintro _ _ _ ⟨a0, r, h, rfl, rfl, rfl⟩; exact f81_spec h) ?_
 refine at_hv rfl (hv_call0 [4, 0] (f80_spec h835) rfl rfl rfl rfl ?_)
 rintro _ _ ⟨rfl, rfl⟩
 refine s_mv rfl (at_lt (lt_extract rfl rfl) rfl (at_lt (lt_extract rfl rfl) rfl (at_hv rfl ?_)))
 refine hv_alloc (cs := [.int .u8 0, .int .u8 0]) ti82 rfl rfl (fun b836 => ?_)
 refine at_hv rfl (hv_store_box 0 (cs' := [.int .u8 (x834.1.From.toNat : Int), .int .u8 (x834.1.To.toNat : Int)]) rfl rfl ti82 rfl rfl rfl rfl rfl (s_as rfl (s_ntsr (at_lt (lt_fieldAddr 1 rfl fld82_1 rfl) rfl (at_lt (lt_load_box 0 rfl ti5 rfl rfl rfl rfl rfl) rfl (s_mv rfl (s_as rfl (s_as rfl (s_nt ?_)))))))))
 refine at_ret ?_
 have hq := oinj hr
 clear hr
 subst hq
 exact at_return (.tuple #[.int .u8 (x834.1.To.toNat : Int), .bool x834.2]) [] hS Tryz.results44 (.cons (.tmp rfl) (.cons (.tmp rfl) .nil)) rfl rfl ⟨rfl, rfl⟩
def m14 (a0 : (List D_crosswalk_Entry)) (a1 : D_api_Record) : Option (D_api_Record × Int) :=
  (m41 a0 (⟨a1.ID, a1.Fields⟩ : D_api_Record) (fun y0 => m42 y0 a0) m44).bind fun x844 =>
  some ((⟨x844.1.ID, x844.1.Fields⟩ : D_api_Record), x844.2)
def post14 (r : (D_api_Record × Int)) (v : Value) (fs : List Fact) : Prop := ∃ s851 : Value, v = .tuple #[.agg #[.int .i64 r.1.ID, s851], .int .i64 r.2] ∧ fs = [(ty25.fact r.1 [.int .i64 r.1.ID, s851]), ((Ty.int .i64).fact r.2 [.int .i64 r.2])]
theorem en14 : Enters Tryz.prog 14 := ⟨_, Tryz.func14, by kernel_rfl, rfl⟩
theorem f14_spec {a0 : (List D_crosswalk_Entry)} {a1 : D_api_Record} {w837 : Value} {s838 : Value} {r : (D_api_Record × Int)} (hr : m14 a0 a1 = some r) : Spec Tryz.prog 14 [w837, .agg #[.int .i64 a1.ID, s838]] [((Ty.slice ty76).fact a0 [w837]), (ty25.fact a1 [.int .i64 a1.ID, s838]), (utf8F 1 2)] (post14 r) := by
 refine spec_start (N := 12) Tryz.func14 (by kernel_rfl) rfl rfl rfl ?_
 intro g hS
 unfold m14 at hr
 refine at_open (A := Unit) 1 rfl (fun _ => True) (fun _ => [((Ty.int .i64).fact a1.ID [.int .i64 a1.ID]), ((Ty.slice ty69).fact a1.Fields [s838])]) (fun F w h => ⟨(), trivial, ex25 h⟩) (fun _ _ => ?_)
 refine at_inv 0 rfl (fun l839 => ?_)
 replace l839 : (-9223372036854775808) ≤ a1.ID ∧ a1.ID ≤ 9223372036854775807 := l839
 refine s_sr ?_
 refine at_one 2 rfl (fun ho841 => ?_)
 refine at_hv rfl ?_
 refine hv_box (cs := [w837]) rfl (cells_one ho841) rfl (fun b840 => ?_)
 refine at_hv rfl ?_
 refine hv_box (cs := [.int .i64 a1.ID, s838]) rfl rfl rfl (fun b842 => ?_)
 refine at_hv rfl ?_
 refine hv_alloc (cs := [.int .i64 0, (.slice none 0 0)]) ti25 rfl rfl (fun b843 => ?_)
 refine s_as rfl (s_ntsr (at_lt (lt_load_box 2 rfl ti34 rfl rfl rfl rfl rfl) rfl (at_lt (lt_load_box 1 rfl ti25 rfl rfl rfl rfl rfl) rfl (at_lt (lt_makeFunc rfl) rfl ?_))))
 replace hr := obind hr
 obtain ⟨x844, h845, hr⟩ := hr
 refine at_freeze 2 rfl ?_
 refine at_fn 42 [.pointer (some (Addr.add ⟨b840, 0, none⟩ 0))] [0, 3] (sp79 (fun y0 => m42 y0 a0)) en42 rfl (by rintro _ _ _ ⟨a0, r, h, rfl, rfl, rfl⟩; exact f42_spec h) ?_
 refine at_fn 44 [] [] (sp80 m44) en44 rfl (by rintro _ _ _ ⟨a0, a1, r, s847, h, rfl, rfl, rfl⟩; exact f44_spec h) ?_
 refine at_derive [3, 4] (ty25.fact (⟨a1.ID, a1.Fields⟩ : D_api_Record) [.int .i64 a1.ID, s838]) rfl (fun F w h => mk25 (x := (⟨a1.ID, a1.Fields⟩ : D_api_Record)) h) ?_
 refine at_hv rfl (hv_call0 [6, 0, 2, 1, 8] (f41_spec h845) rfl rfl rfl rfl ?_)
 rintro _ _ ⟨s846, rfl, rfl⟩
 refine at_open (A := Unit) 0 rfl (fun _ => True) (fun _ => [((Ty.int .i64).fact x844.1.ID [.int .i64 x844.1.ID]), ((Ty.slice ty69).fact x844.1.Fields [s846])]) (fun F w h => ⟨(), trivial, ex25 h⟩) (fun _ _ => ?_)
 refine at_inv 0 rfl (fun l848 => ?_)
 replace l848 : (-9223372036854775808) ≤ x844.1.ID ∧ x844.1.ID ≤ 9223372036854775807 := l848
 refine at_inv 3 rfl (fun l849 => ?_)
 replace l849 : (-9223372036854775808) ≤ x844.2 ∧ x844.2 ≤ 9223372036854775807 := l849
 refine at_lt (lt_extract rfl rfl) rfl (at_lt (lt_extract rfl rfl) rfl ?_)
 refine at_one 1 rfl (fun ho850 => ?_)
 refine at_hv rfl (hv_store_box 0 (cs' := [.int .i64 x844.1.ID, s846]) rfl rfl ti25 rfl rfl rfl rfl (allc rfl (allc ho850 rfl)) (s_as rfl (s_nt (at_ret ?_))))
 have hq := oinj hr
 clear hr
 subst hq
 refine at_derive [0, 1] (ty25.fact (⟨x844.1.ID, x844.1.Fields⟩ : D_api_Record) [.int .i64 x844.1.ID, s846]) rfl (fun F w h => mk25 (x := (⟨x844.1.ID, x844.1.Fields⟩ : D_api_Record)) h) ?_
 exact at_return (.tuple #[.agg #[.int .i64 x844.1.ID, s846], .int .i64 x844.2]) [0, 4] hS Tryz.results14 (.cons (.cell 0 rfl ti25 rfl rfl rfl rfl) (.cons (.tmp rfl) .nil)) rfl rfl ⟨s846, rfl, rfl⟩
def m82 (a0 : D_crosswalk_Entry) (c0 : Str) : Option Bool :=
  some (decide (a0.To = c0))
def post82 (r : Bool) (v : Value) (fs : List Fact) : Prop := v = .bool r ∧ fs = []
theorem en82 : Enters Tryz.prog 82 := ⟨_, Tryz.func82, by kernel_rfl, rfl⟩
theorem f82_spec {a0 : D_crosswalk_Entry} {c0 : Str} {s852 : Value} {b853 : Nat} {r : Bool} (hr : m82 a0 c0 = some r) : Spec Tryz.prog 82 [.agg #[str a0.From, str a0.To, s852], .pointer (some (Addr.add ⟨b853, 0, none⟩ 0))] [(ty76.fact a0 [str a0.From, str a0.To, s852]), (peek ⟨b853, 0, none⟩ [str c0]), (Ty.str.fact c0 [str c0])] (post82 r) := by
 refine spec_start (N := 8) Tryz.func82 (by kernel_rfl) rfl rfl rfl ?_
 intro g hS
 unfold m82 at hr
 refine at_open (A := Unit) 0 rfl (fun _ => True) (fun _ => [(Ty.str.fact a0.From [str a0.From]), (Ty.str.fact a0.To [str a0.To]), ((Ty.slice ty82).fact a0.Codes [s852])]) (fun F w h => ⟨(), trivial, ex76 h⟩) (fun _ _ => ?_)
 refine s_sr (at_hv rfl ?_)
 refine hv_box (cs := [str a0.From, str a0.To, s852]) rfl rfl rfl (fun b854 => ?_)
 refine s_as rfl (s_ntsr (at_lt (lt_fieldAddr 1 rfl fld76_1 rfl) rfl (at_lt (lt_load_box 0 rfl ti9 rfl rfl rfl rfl rfl) rfl (at_lt (lt_load_peek 4 rfl ti9 rfl rfl rfl rfl rfl) rfl (at_lt (lt_seql rfl rfl) rfl (s_as rfl (s_nt (at_ret ?_))))))))
 have hq := oinj hr
 clear hr
 subst hq
 exact at_return (.bool (decide (a0.To = c0))) [] hS Tryz.results82 (.cons (.tmp rfl) .nil) rfl rfl ⟨rfl, rfl⟩
def m46 (a0 : (List D_crosswalk_Entry)) (a1 : Str) : Option (D_crosswalk_Entry × Bool) :=
  (m78 a0 (fun y0 => m82 y0 a1)).bind fun x858 =>
  some ((⟨x858.1.From, x858.1.To, x858.1.Codes⟩ : D_crosswalk_Entry), x858.2)
def post46 (r : (D_crosswalk_Entry × Bool)) (v : Value) (fs : List Fact) : Prop := ∃ s863 : Value, v = .tuple #[.agg #[str r.1.From, str r.1.To, s863], .bool r.2] ∧ fs = [(ty76.fact r.1 [str r.1.From, str r.1.To, s863])]
theorem en46 : Enters Tryz.prog 46 := ⟨_, Tryz.func46, by kernel_rfl, rfl⟩
theorem f46_spec {a0 : (List D_crosswalk_Entry)} {a1 : Str} {w855 : Value} {r : (D_crosswalk_Entry × Bool)} (hr : m46 a0 a1 = some r) : Spec Tryz.prog 46 [w855, str a1] [((Ty.slice ty76).fact a0 [w855]), (Ty.str.fact a1 [str a1])] (post46 r) := by
 refine spec_start (N := 11) Tryz.func46 (by kernel_rfl) rfl rfl rfl ?_
 intro g hS
 unfold m46 at hr
 refine s_sr (at_hv rfl ?_)
 refine hv_box (cs := [str a1]) rfl rfl rfl (fun b856 => ?_)
 refine at_hv rfl ?_
 refine hv_alloc (cs := [str ([] : Str), str ([] : Str), (.slice none 0 0)]) ti76 rfl rfl (fun b857 => ?_)
 refine s_as rfl (s_ntsr (s_mv rfl (at_lt (lt_makeFunc rfl) rfl ?_)))
 replace hr := obind hr
 obtain ⟨x858, h859, hr⟩ := hr
 refine at_freeze 1 rfl ?_
 refine at_fn 82 [.pointer (some (Addr.add ⟨b856, 0, none⟩ 0))] [0, 2] (sp98 (fun y0 => m82 y0 a1)) en82 rfl (by rintro _ _ _ ⟨a0, r, s861, h, rfl, rfl, rfl⟩; exact f82_spec h) ?_
 refine at_hv rfl (hv_call0 [2, 0] (f78_spec h859) rfl rfl rfl rfl ?_)
 rintro _ _ ⟨s860, rfl, rfl⟩
 refine at_open (A := Unit) 0 rfl (fun _ => True) (fun _ => [(Ty.str.fact x858.1.From [str x858.1.From]), (Ty.str.fact x858.1.To [str x858.1.To]), ((Ty.slice ty82).fact x858.1.Codes [s860])]) (fun F w h => ⟨(), trivial, ex76 h⟩) (fun _ _ => ?_)
 refine at_lt (lt_extract rfl rfl) rfl (at_lt (lt_extract rfl rfl) rfl ?_)
 refine at_one 2 rfl (fun ho862 => ?_)
 refine at_hv rfl (hv_store_box 0 (cs' := [str x858.1.From, str x858.1.To, s860]) rfl rfl ti76 rfl rfl rfl rfl (allc rfl (allc rfl (allc ho862 rfl))) (s_as rfl (s_nt (at_ret ?_))))
 have hq := oinj hr
 clear hr
 subst hq
 refine at_derive [0, 1, 2] (ty76.fact (⟨x858.1.From, x858.1.To, x858.1.Codes⟩ : D_crosswalk_Entry) [str x858.1.From, str x858.1.To, s860]) rfl (fun F w h => mk76 (x := (⟨x858.1.From, x858.1.To, x858.1.Codes⟩ : D_crosswalk_Entry)) h) ?_
 exact at_return (.tuple #[.agg #[str x858.1.From, str x858.1.To, s860], .bool x858.2]) [0] hS Tryz.results46 (.cons (.cell 0 rfl ti76 rfl rfl rfl rfl) (.cons (.tmp rfl) .nil)) rfl rfl ⟨s860, rfl, rfl⟩
def m83 (a0 : D_crosswalk_Pair) (c0 : UInt8) : Option Bool :=
  some (decide ((a0.To.toNat : Int) = (c0.toNat : Int)))
def post83 (r : Bool) (v : Value) (fs : List Fact) : Prop := v = .bool r ∧ fs = []
theorem en83 : Enters Tryz.prog 83 := ⟨_, Tryz.func83, by kernel_rfl, rfl⟩
theorem f83_spec {a0 : D_crosswalk_Pair} {c0 : UInt8} {b864 : Nat} {r : Bool} (hr : m83 a0 c0 = some r) : Spec Tryz.prog 83 [.agg #[.int .u8 (a0.From.toNat : Int), .int .u8 (a0.To.toNat : Int)], .pointer (some (Addr.add ⟨b864, 0, none⟩ 0))] [(ty82.fact a0 [.int .u8 (a0.From.toNat : Int), .int .u8 (a0.To.toNat : Int)]), (peek ⟨b864, 0, none⟩ [.int .u8 (c0.toNat : Int)])] (post83 r) := by
 refine spec_start (N := 8) Tryz.func83 (by kernel_rfl) rfl rfl rfl ?_
 intro g hS
 unfold m83 at hr
 refine s_sr (at_hv rfl ?_)
 refine hv_box (cs := [.int .u8 (a0.From.toNat : Int), .int .u8 (a0.To.toNat : Int)]) rfl rfl rfl (fun b865 => ?_)
 refine s_as rfl (s_ntsr (at_lt (lt_fieldAddr 1 rfl fld82_1 rfl) rfl (at_lt (lt_load_box 0 rfl ti5 rfl rfl rfl rfl rfl) rfl (at_lt (lt_load_peek 1 rfl ti5 rfl rfl rfl rfl rfl) rfl (at_lt (lt_eql rfl rfl) rfl (s_as rfl (s_nt (at_ret ?_))))))))
 have hq := oinj hr
 clear hr
 subst hq
 exact at_return (.bool (decide ((a0.To.toNat : Int) = (c0.toNat : Int)))) [] hS Tryz.results83 (.cons (.tmp rfl) .nil) rfl rfl ⟨rfl, rfl⟩
def m47 (a0 : D_crosswalk_Entry) (a1 : UInt8) : Option (UInt8 × Bool) :=
  (m80 a0.Codes (fun y0 => m83 y0 a1)).bind fun x869 =>
  some (x869.1.From, x869.2)
def post47 (r : (UInt8 × Bool)) (v : Value) (fs : List Fact) : Prop := v = .tuple #[.int .u8 (r.1.toNat : Int), .bool r.2] ∧ fs = []
theorem en47 : Enters Tryz.prog 47 := ⟨_, Tryz.func47, by kernel_rfl, rfl⟩
theorem f47_spec {a0 : D_crosswalk_Entry} {a1 : UInt8} {s866 : Value} {r : (UInt8 × Bool)} (hr : m47 a0 a1 = some r) : Spec Tryz.prog 47 [.agg #[str a0.From, str a0.To, s866], .int .u8 (a1.toNat : Int)] [(ty76.fact a0 [str a0.From, str a0.To, s866])] (post47 r) := by
 refine spec_start (N := 18) Tryz.func47 (by kernel_rfl) rfl rfl rfl ?_
 intro g hS
 unfold m47 at hr
 refine at_open (A := Unit) 0 rfl (fun _ => True) (fun _ => [(Ty.str.fact a0.From [str a0.From]), (Ty.str.fact a0.To [str a0.To]), ((Ty.slice ty82).fact a0.Codes [s866])]) (fun F w h => ⟨(), trivial, ex76 h⟩) (fun _ _ => ?_)
 refine s_sr (at_hv rfl ?_)
 refine hv_box (cs := [str a0.From, str a0.To, s866]) rfl rfl rfl (fun b867 => ?_)
 refine at_hv rfl ?_
 refine hv_box (cs := [.int .u8 (a1.toNat : Int)]) rfl rfl rfl (fun b868 => ?_)
 refine s_as rfl (s_as rfl (s_ntsr (at_lt (lt_fieldAddr 2 rfl fld76_2 rfl) rfl (at_lt (lt_load_box 1 rfl ti74 rfl rfl rfl rfl rfl) rfl (at_lt (lt_makeFunc rfl) rfl ?_)))))
 replace hr := obind hr
 obtain ⟨x869, h870, hr⟩ := hr
 refine at_freeze 0 rfl ?_
 refine at_fn 83 [.pointer (some (Addr.add ⟨b868, 0, none⟩ 0))] [0] (sp120 (fun y0 => m83 y0 a1)) en83 rfl (by rintro _ _ _ ⟨a0, r, h, rfl, rfl, rfl⟩; exact f83_spec h) ?_
 refine at_hv rfl (hv_call0 [4, 0] (f80_spec h870) rfl rfl rfl rfl ?_)
 rintro _ _ ⟨rfl, rfl⟩
 refine s_mv rfl (at_lt (lt_extract rfl rfl) rfl (at_lt (lt_extract rfl rfl) rfl (at_hv rfl ?_)))
 refine hv_alloc (cs := [.int .u8 0, .int .u8 0]) ti82 rfl rfl (fun b871 => ?_)
 refine at_hv rfl (hv_store_box 0 (cs' := [.int .u8 (x869.1.From.toNat : Int), .int .u8 (x869.1.To.toNat : Int)]) rfl rfl ti82 rfl rfl rfl rfl rfl (s_as rfl (s_ntsr (at_lt (lt_fieldAddr 0 rfl fld82_0 rfl) rfl (at_lt (lt_load_box 0 rfl ti5 rfl rfl rfl rfl rfl) rfl (s_mv rfl (s_as rfl (s_as rfl (s_nt ?_)))))))))
 refine at_ret ?_
 have hq := oinj hr
 clear hr
 subst hq
 exact at_return (.tuple #[.int .u8 (x869.1.From.toNat : Int), .bool x869.2]) [] hS Tryz.results47 (.cons (.tmp rfl) (.cons (.tmp rfl) .nil)) rfl rfl ⟨rfl, rfl⟩
def m64 (a0 : Str) (a1 : UInt8) : Option (D_api_Record × Bool) :=
  some ((⟨1, [(⟨a0, 32, 32, [(⟨a1, ([120] : Str)⟩ : D_api_Sub)]⟩ : D_api_Field)]⟩ : D_api_Record), true)
def post64 (r : (D_api_Record × Bool)) (v : Value) (fs : List Fact) : Prop := ∃ s877 : Value, v = .tuple #[.agg #[.int .i64 r.1.ID, s877], .bool r.2] ∧ fs = [(ty25.fact r.1 [.int .i64 r.1.ID, s877])]
theorem en64 : Enters Tryz.prog 64 := ⟨_, Tryz.func64, by kernel_rfl, rfl⟩
theorem f64_spec {a0 : Str} {a1 : UInt8} {r : (D_api_Record × Bool)} (hr : m64 a0 a1 = some r) : Spec Tryz.prog 64 [str a0, .int .u8 (a1.toNat : Int)] [(Ty.str.fact a0 [str a0])] (post64 r) := by
 refine spec_start (N := 14) Tryz.func64 (by kernel_rfl) rfl rfl rfl ?_
 intro g hS
 unfold m64 at hr
 refine s_sr (at_hv rfl ?_)
 refine hv_alloc (cs := [.int .i64 0, (.slice none 0 0)]) ti25 rfl rfl (fun b872 => ?_)
 refine s_as rfl (s_ntsr (s_mv rfl (at_lt (lt_abuild (cs := [.int .u8 32, .int .u8 32]) rfl ti64 und64 ti5 rfl) rfl (s_mv rfl (at_lt (lt_build (cs := [.int .u8 (a1.toNat : Int), str ([120] : Str)]) rfl ti66 pl66 rfl) rfl (at_hv rfl ?_))))))
 refine hv_bslice (cs := [.int .u8 (a1.toNat : Int), str ([120] : Str)]) rfl und67 ti66 rfl rfl rfl rfl rfl (fun s873 => ?_)
 refine at_rowv 0 rfl (fun ho874 => ?_)
 replace ho874 := row_one (by obtain ⟨a, c, h⟩ := ho874; exact ⟨a, _, c, h⟩)
 refine at_lt (lt_buildc (cs := [str a0, .int .u8 32, .int .u8 32, s873]) [(0, [str a0]), (1, [.int .u8 32, .int .u8 32]), (2, [s873])] rfl ti69 pl69 ⟨rfl, rfl, ⟨rfl, rfl, ⟨rfl, cells_one ho874, trivial⟩⟩⟩ rfl) rfl ?_
 refine at_hv rfl ?_
 refine hv_bslice (cs := [str a0, .int .u8 32, .int .u8 32, s873]) rfl und23 ti69 rfl rfl rfl rfl rfl (fun s875 => ?_)
 refine at_rowv 0 rfl (fun ho876 => ?_)
 replace ho876 := row_one (by obtain ⟨a, c, h⟩ := ho876; exact ⟨a, _, c, h⟩)
 refine at_lt (lt_buildc (cs := [.int .i64 1, s875]) [(0, [.int .i64 1]), (1, [s875])] rfl ti25 pl25 ⟨rfl, rfl, ⟨rfl, cells_one ho876, trivial⟩⟩ rfl) rfl ?_
 refine at_hv rfl (hv_store_box 0 (cs' := [.int .i64 1, s875]) rfl rfl ti25 rfl rfl rfl rfl (allc rfl (allc ho876 rfl)) (s_as rfl (s_nt (at_ret ?_))))
 have hq := oinj hr
 clear hr
 subst hq
 refine at_int .i64 1 (by simp only [lo, hi]; omega) (at_rownil ty69 (at_rownil ty66 ?_))
 refine at_str ([120] : Str) (by decide) ?_
 refine at_derive [0] (ty66.fact (⟨a1, ([120] : Str)⟩ : D_api_Sub) [.int .u8 (a1.toNat : Int), str ([120] : Str)]) rfl (fun F w h => mk66 (x := (⟨a1, ([120] : Str)⟩ : D_api_Sub)) h) ?_
 refine at_rowsnoc 2 0 rfl rfl ?_
 refine at_release 1 0 rfl rfl rfl (by simp only [List.nil_append, List.cons_append, List.length_cons, List.length_nil, ty66_bytes] <;> omega) ?_
 refine at_derive [7, 0] (ty69.fact (⟨a0, 32, 32, [(⟨a1, ([120] : Str)⟩ : D_api_Sub)]⟩ : D_api_Field) [str a0, .int .u8 32, .int .u8 32, s873]) rfl (fun F w h => mk69 (x := (⟨a0, 32, 32, [(⟨a1, ([120] : Str)⟩ : D_api_Sub)]⟩ : D_api_Field)) h) ?_
 refine at_rowsnoc 6 0 rfl rfl ?_
 refine at_release 0 0 rfl rfl rfl (by simp only [List.nil_append, List.cons_append, List.length_cons, List.length_nil, ty69_bytes] <;> omega) ?_
 refine at_derive [9, 0] (ty25.fact (⟨1, [(⟨a0, 32, 32, [(⟨a1, ([120] : Str)⟩ : D_api_Sub)]⟩ : D_api_Field)]⟩ : D_api_Record) [.int .i64 1, s875]) rfl (fun F w h => mk25 (x := (⟨1, [(⟨a0, 32, 32, [(⟨a1, ([120] : Str)⟩ : D_api_Sub)]⟩ : D_api_Field)]⟩ : D_api_Record)) h) ?_
 exact at_return (.tuple #[.agg #[.int .i64 1, s875], .bool true]) [0] hS Tryz.results64 (.cons (.cell 0 rfl ti25 rfl rfl rfl rfl) (.cons (.tmp rfl) .nil)) rfl rfl ⟨s875, rfl, rfl⟩
def m31_l1 (a0 : (List D_crosswalk_Entry)) : Nat → Nat → Int → (List D_api_Field) → Option (Fl (D_api_Record × Bool) (Int × (List D_api_Field)))
  | 0, _, _, _ => none
  | k + 1, x885, x886, x887 =>
    if x885 < a0.length then
     (a0[x885]?).bind fun x897 =>
     Option.bind (α := Bool) (
      if x885 ≤ a0.length then
       (m46 (a0.take x885) x897.To).bind fun x917 =>
       some x917.2
      else none
     ) fun x912 =>
     if x912 = true then
      (x897.Codes[0]?).bind fun x927 =>
      (m64 x897.From x927.From).bind fun x931 =>
      some (Fl.ret ((⟨x931.1.ID, x931.1.Fields⟩ : D_api_Record), x931.2))
     else
      m31_l1 a0 k (x885 + 1) x886 x887
    else
     some (Fl.go (x886, x887))
def m31_l3 (x951 : D_crosswalk_Entry) : Nat → Nat → Int → (List D_api_Field) → Option (Fl (Fl (D_api_Record × Bool) (Int × (List D_api_Field))) (Int × (List D_api_Field)))
  | 0, _, _, _ => none
  | k + 1, x960, x961, x962 =>
    if x960 < x951.Codes.length then
     (x951.Codes[x960]?).bind fun x972 =>
     if x960 ≤ x951.Codes.length then
      (m47 (⟨([] : Str), ([] : Str), x951.Codes.take x960⟩ : D_crosswalk_Entry) x972.To).bind fun x981 =>
      if x981.2 = true then
       (m64 x951.From x972.From).bind fun x984 =>
       some (Fl.ret (Fl.ret ((⟨x984.1.ID, x984.1.Fields⟩ : D_api_Record), x984.2)))
      else
       m31_l3 x951 k (x960 + 1) x961 x962
     else none
    else
     some (Fl.go (x961, x962))
def m31_l2 (a0 : (List D_crosswalk_Entry)) : Nat → Nat → Int → (List D_api_Field) → Option (Fl (D_api_Record × Bool) (Int × (List D_api_Field)))
  | 0, _, _, _ => none
  | k + 1, x939, x940, x941 =>
    if x939 < a0.length then
     (a0[x939]?).bind fun x951 =>
     (m31_l3 x951 (x951.Codes.length + 1) 0 x940 x941).bind fun r => match r with
     | .ret x => some x
     | .go (x964, x965) =>
      m31_l2 a0 k (x939 + 1) x964 x965
    else
     some (Fl.go (x940, x941))
def m31 (a0 : (List D_crosswalk_Entry)) : Option (D_api_Record × Bool) :=
  (m27 a0).bind fun x880 =>
  if x880 = true then
   (m31_l1 a0 (a0.length + 1) 0 0 ([] : (List D_api_Field))).bind fun r => match r with
   | .ret x => some x
   | .go (x889, x890) =>
    (m31_l2 a0 (a0.length + 1) 0 x889 x890).bind fun r => match r with
    | .ret x => some x
    | .go (x943, x944) =>
     some ((⟨0, ([] : (List D_api_Field))⟩ : D_api_Record), false)
  else
   some ((⟨0, ([] : (List D_api_Field))⟩ : D_api_Record), false)
def post31 (r : (D_api_Record × Bool)) (v : Value) (fs : List Fact) : Prop := ∃ s991 : Value, v = .tuple #[.agg #[.int .i64 r.1.ID, s991], .bool r.2] ∧ fs = [(ty25.fact r.1 [.int .i64 r.1.ID, s991])]
theorem en31 : Enters Tryz.prog 31 := ⟨_, Tryz.func31, by kernel_rfl, rfl⟩
theorem f31_spec {a0 : (List D_crosswalk_Entry)} {w878 : Value} {r : (D_api_Record × Bool)} (hr : m31 a0 = some r) : Spec Tryz.prog 31 [w878] [((Ty.slice ty76).fact a0 [w878])] (post31 r) := by
 refine spec_start (N := 85) Tryz.func31 (by kernel_rfl) rfl rfl rfl ?_
 intro g hS
 unfold m31 at hr
 refine s_sr (at_hv rfl ?_)
 refine hv_alloc (cs := [.int .i64 0, (.slice none 0 0)]) ti25 rfl rfl (fun b879 => ?_)
 refine s_as rfl (s_nt (at_seq (s_sr (s_mv rfl ?_))))
 replace hr := obind hr
 obtain ⟨x880, h881, hr⟩ := hr
 refine at_hv rfl (hv_call0 [0] (f27_spec h881) rfl rfl rfl rfl ?_)
 rintro _ _ ⟨rfl, rfl⟩
 refine at_lt (lt_not rfl) rfl (s_nt ?_)
 by_cases h882 : x880 = true
 ·replace hr := ipos h882 hr
  refine at_false rfl (nt h882) (at_skip (s_tsr (s_as rfl (s_nt (at_seq (s_sr (s_mv rfl ?_)))))))
  refine at_inv 0 rfl (fun i883 => ?_)
  have l884 := slice_len i883
  refine at_lt (lt_flen 0 rfl rfl und34) rfl (s_mv rfl (s_nt (at_int .i64 0 (by simp only [lo, hi]; omega) (at_fnil ty69 none ?_))))
  replace hr := obind hr
  obtain ⟨r892, hl893, hk894⟩ := hr
  refine at_cutP (V := ((Int × (List D_api_Field))) × (Value)) (fun v => r892 = Fl.go v.1) (fun v => (⟨[(0, w878), (2, .pointer (some (Addr.add ⟨b879, 0, none⟩ 0))), (4, (.func (.func 64) #[] #[]))], [⟨b879, [.int .i64 v.1.1, v.2], 25⟩], [], [((Ty.int .i64).fact v.1.1 [.int .i64 v.1.1]), ((Ty.slice ty69).fact v.1.2 [v.2]), ((Ty.slice ty76).fact a0 [w878])]⟩ : St)) ?_ ?_
  ·refine at_block ?_
   refine at_loopW (σ := (Nat × Int × (List D_api_Field))) (V := Value) (r := r892) (fun n s => m31_l1 a0 n s.1 s.2.1 s.2.2) (fun s e => (⟨[(0, w878), (2, .pointer (some (Addr.add ⟨b879, 0, none⟩ 0))), (4, (.func (.func 64) #[] #[])), (19, w878), (20, .int .i64 (a0.length : Int)), (21, .int .i64 (s.1 : Int))], [⟨b879, [.int .i64 s.2.1, e], 25⟩], [], [((Ty.int .i64).fact (s.1 : Int) [.int .i64 (s.1 : Int)]), ((Ty.int .i64).fact s.2.1 [.int .i64 s.2.1]), ((Ty.slice ty69).fact s.2.2 [e]), ((Ty.slice ty76).fact a0 [w878])]⟩ : St)) (fun _ => rfl) _ (0, 0, ([] : (List D_api_Field))) (.slice none 0 0) hl893 ⟨⟨rfl, ⟨rfl, ⟨rfl, ⟨rfl, ⟨rfl, ⟨rfl, trivial⟩⟩⟩⟩⟩⟩, ⟨[true], rfl⟩, ⟨[], rfl⟩, ⟨[1, 1, 0, 2], rfl⟩⟩ ?_
   clear hl893
   intro n s hr v888
   obtain ⟨x885, x886, x887⟩ := s
   skip
   change m31_l1 a0 (n + 1) x885 x886 x887 = some r892 at hr
   change At _ _ (⟨[(0, w878), (2, .pointer (some (Addr.add ⟨b879, 0, none⟩ 0))), (4, (.func (.func 64) #[] #[])), (19, w878), (20, .int .i64 (a0.length : Int)), (21, .int .i64 (x885 : Int))], [⟨b879, [.int .i64 x886, v888], 25⟩], [], [((Ty.int .i64).fact (x885 : Int) [.int .i64 (x885 : Int)]), ((Ty.int .i64).fact x886 [.int .i64 x886]), ((Ty.slice ty69).fact x887 [v888]), ((Ty.slice ty76).fact a0 [w878])]⟩ : St) _
   rw [m31_l1] at hr
   refine at_inv 1 rfl (fun l895 => ?_)
   replace l895 : (-9223372036854775808) ≤ x886 ∧ x886 ≤ 9223372036854775807 := l895
   refine s_sr (at_lt (lt_lss rfl rfl) rfl (s_nt (at_seq ?_)))
   by_cases h896 : x885 < a0.length
   ·replace hr := ipos h896 hr
    refine at_true rfl (decide_eq_true (by omega)) ?_
    refine at_skip (at_then (at_seq (at_block (s_sr (s_mv rfl ?_)))))
    replace hr := obind hr
    obtain ⟨x897, h898, hr⟩ := hr
    have := (List.getElem?_eq_some_iff.1 h898).1
    refine at_elem 3 rfl (nat_at' h898) (fun p900 ec pa901 => ?_)
    refine at_open (A := Value) 0 rfl _ _ (fun F w h => op76 h) ?_
    rintro s899 rfl
    refine at_lt (lt_idx rfl rfl pa901 und34 ti76) rfl (at_lt (lt_load_peek 4 rfl ti76 rfl rfl rfl rfl rfl) rfl (at_hv rfl ?_))
    refine hv_alloc (cs := [str ([] : Str), str ([] : Str), (.slice none 0 0)]) ti76 rfl rfl (fun b902 => ?_)
    refine s_as rfl ?_
    refine at_one 2 rfl (fun ho903 => ?_)
    refine at_hv rfl (hv_store_box 0 (cs' := [str x897.From, str x897.To, s899]) rfl rfl ti76 rfl rfl rfl rfl (allc rfl (allc rfl (allc ho903 rfl))) (s_nt (at_seq ?_)))
    replace hr := obind hr
    obtain ⟨x912, hc913, hr⟩ := hr
    refine at_cut (V := Unit) (fun e => (⟨[(0, w878), (2, .pointer (some (Addr.add ⟨b879, 0, none⟩ 0))), (4, (.func (.func 64) #[] #[])), (6, .pointer (some (Addr.add ⟨b902, 0, none⟩ 0))), (8, .bool x912), (19, w878), (20, .int .i64 (a0.length : Int)), (21, .int .i64 (x885 : Int))], [⟨b902, [str x897.From, str x897.To, s899], 76⟩, ⟨b879, [.int .i64 x886, v888], 25⟩], [], [((Ty.slice ty76).fact a0 [w878]), ((Ty.int .i64).fact (x885 : Int) [.int .i64 (x885 : Int)]), ((Ty.int .i64).fact x886 [.int .i64 x886]), ((Ty.slice ty69).fact x887 [v888]), (Ty.str.fact x897.From [str x897.From]), (Ty.str.fact x897.To [str x897.To]), ((Ty.slice ty82).fact x897.Codes [s899])]⟩ : St)) ?_ ?_
    ·clear hr
     have hr := hc913
     clear hc913
     replace hr := imust hr
     obtain ⟨h914, hr⟩ := hr
     refine at_cutf_h 8 x885 rfl (by omega) (fun s915 hc916 => ?_)
     replace hr := obind hr
     obtain ⟨x917, h918, hr⟩ := hr
     refine aa_start 12 (by kernel_rfl) ?_
     refine aa_p 0 rfl (lt_move rfl) (aa_p 1 rfl (lt_move rfl) ?_)
     refine aa_p 2 rfl (lt_cut_h x885 rfl rfl (by omega) und34 ti76 hc916) ?_
     refine aa_p 3 rfl (lt_fieldAddr 1 rfl fld76_1 rfl) (aa_l 4 rfl (lt_load_box 0 rfl ti9 rfl rfl rfl rfl rfl) ?_)
     refine aa_all (rs := [5, 9]) (by kernel_rfl) rfl (ts_in 0 0 rfl rfl) (List.forall_mem_cons.2 ⟨?_, (List.forall_mem_singleton.2 ?_)⟩)
     ·refine aa_op rfl rfl ?_
      refine hv_call0 [0, 2] (f46_spec h918) rfl rfl rfl rfl ?_
      rintro _ _ ⟨s919, rfl, rfl⟩
      refine at_open (A := Unit) 0 rfl (fun _ => True) (fun _ => [(Ty.str.fact x917.1.From [str x917.1.From]), (Ty.str.fact x917.1.To [str x917.1.To]), ((Ty.slice ty82).fact x917.1.Codes [s919])]) (fun F w h => ⟨(), trivial, ex76 h⟩) (fun _ _ => ?_)
      refine aa_pure 6 rfl (by kernel_rfl) rfl rfl (lt_move rfl) rfl (ts_in 0 4 rfl rfl) ?_
      refine aa_pure 7 rfl (by kernel_rfl) rfl rfl (lt_extract rfl rfl) rfl (ts_in 0 4 rfl rfl) ?_
      refine aa_pure 8 rfl (by kernel_rfl) rfl rfl (lt_extract rfl rfl) rfl (ts_in 0 4 rfl rfl) ?_
      refine aa_all (rs := [9]) (by kernel_rfl) rfl (ts_in 0 4 rfl rfl) (List.forall_mem_singleton.2 ?_)
      refine aa_op rfl rfl ?_
      refine hv_alloc (cs := [str ([] : Str), str ([] : Str), (.slice none 0 0)]) ti76 rfl rfl (fun b922 => ?_)
      refine aa_all (rs := [10]) (by kernel_rfl) rfl (ts_in 1 4 rfl rfl) (List.forall_mem_singleton.2 ?_)
      refine at_one 2 rfl (fun ho923 => ?_)
      refine aa_op rfl rfl (hv_store_box 0 (cs' := [str x917.1.From, str x917.1.To, s919]) rfl rfl ti76 rfl rfl rfl rfl (allc rfl (allc rfl (allc ho923 rfl))) ?_)
      refine aa_pure 11 rfl (by kernel_rfl) rfl rfl (lt_assign rfl) rfl (ts_in 1 4 rfl rfl) ?_
      refine aa_done (by kernel_rfl) (ts_in 1 4 rfl rfl) ?_
      have hq := oinj hr
      clear hr
      subst hq
      exact at_leaf () ⟨⟨rfl, ⟨rfl, ⟨rfl, ⟨rfl, ⟨rfl, ⟨rfl, ⟨rfl, ⟨rfl, trivial⟩⟩⟩⟩⟩⟩⟩⟩, ⟨[false, true, true], rfl⟩, ⟨[], rfl⟩, ⟨[13, 10, 11, 12, 5, 6, 7], rfl⟩⟩
     ·refine aa_op rfl rfl ?_
      refine hv_alloc (cs := [str ([] : Str), str ([] : Str), (.slice none 0 0)]) ti76 rfl rfl (fun b924 => ?_)
      refine aa_all (rs := [5]) (by kernel_rfl) rfl (ts_in 1 0 rfl rfl) (List.forall_mem_singleton.2 ?_)
      refine aa_op rfl rfl (hv_call0 [0, 2] (f46_spec h918) rfl rfl rfl rfl ?_)
      rintro _ _ ⟨s919, rfl, rfl⟩
      refine at_open (A := Unit) 0 rfl (fun _ => True) (fun _ => [(Ty.str.fact x917.1.From [str x917.1.From]), (Ty.str.fact x917.1.To [str x917.1.To]), ((Ty.slice ty82).fact x917.1.Codes [s919])]) (fun F w h => ⟨(), trivial, ex76 h⟩) (fun _ _ => ?_)
      refine aa_pure 6 rfl (by kernel_rfl) rfl rfl (lt_move rfl) rfl (ts_in 1 4 rfl rfl) ?_
      refine aa_pure 7 rfl (by kernel_rfl) rfl rfl (lt_extract rfl rfl) rfl (ts_in 1 4 rfl rfl) ?_
      refine aa_pure 8 rfl (by kernel_rfl) rfl rfl (lt_extract rfl rfl) rfl (ts_in 1 4 rfl rfl) ?_
      refine aa_all (rs := [10]) (by kernel_rfl) rfl (ts_in 1 4 rfl rfl) (List.forall_mem_singleton.2 ?_)
      refine at_one 2 rfl (fun ho925 => ?_)
      refine aa_op rfl rfl (hv_store_box 0 (cs' := [str x917.1.From, str x917.1.To, s919]) rfl rfl ti76 rfl rfl rfl rfl (allc rfl (allc rfl (allc ho925 rfl))) ?_)
      refine aa_pure 11 rfl (by kernel_rfl) rfl rfl (lt_assign rfl) rfl (ts_in 1 4 rfl rfl) ?_
      refine aa_done (by kernel_rfl) (ts_in 1 4 rfl rfl) ?_
      have hq := oinj hr
      clear hr
      subst hq
      exact at_leaf () ⟨⟨rfl, ⟨rfl, ⟨rfl, ⟨rfl, ⟨rfl, ⟨rfl, ⟨rfl, ⟨rfl, trivial⟩⟩⟩⟩⟩⟩⟩⟩, ⟨[false, true, true], rfl⟩, ⟨[], rfl⟩, ⟨[13, 10, 11, 12, 5, 6, 7], rfl⟩⟩
    clear hc913
    intro _
    change At _ _ (⟨[(0, w878), (2, .pointer (some (Addr.add ⟨b879, 0, none⟩ 0))), (4, (.func (.func 64) #[] #[])), (6, .pointer (some (Addr.add ⟨b902, 0, none⟩ 0))), (8, .bool x912), (19, w878), (20, .int .i64 (a0.length : Int)), (21, .int .i64 (x885 : Int))], [⟨b902, [str x897.From, str x897.To, s899], 76⟩, ⟨b879, [.int .i64 x886, v888], 25⟩], [], [((Ty.slice ty76).fact a0 [w878]), ((Ty.int .i64).fact (x885 : Int) [.int .i64 (x885 : Int)]), ((Ty.int .i64).fact x886 [.int .i64 x886]), ((Ty.slice ty69).fact x887 [v888]), (Ty.str.fact x897.From [str x897.From]), (Ty.str.fact x897.To [str x897.To]), ((Ty.slice ty82).fact x897.Codes [s899])]⟩ : St) _
    refine s_tsr (s_mv rfl (s_nt ?_))
    by_cases h926 : x912 = true
    ·replace hr := ipos h926 hr
     refine at_true rfl h926 (at_seq ?_)
     replace hr := obind hr
     obtain ⟨x927, h928, hr⟩ := hr
     have := (List.getElem?_eq_some_iff.1 h928).1
     refine at_elem 6 rfl (nat_at' (i := 0) h928) (fun p929 ec pa930 => ?_)
     refine at_open (A := Unit) 0 rfl _ _ (fun F w h => op82 h) ?_
     rintro _ rfl
     replace hr := obind hr
     obtain ⟨x931, h932, hr⟩ := hr
     refine aa_start 11 (by kernel_rfl) ?_
     refine aa_p 0 rfl (lt_move rfl) (aa_p 1 rfl (lt_fieldAddr 0 rfl fld76_0 rfl) (aa_l 2 rfl (lt_load_box 0 rfl ti9 rfl rfl rfl rfl rfl) (aa_p 3 rfl (lt_fieldAddr 2 rfl fld76_2 rfl) (aa_l 4 rfl (lt_load_box 0 rfl ti74 rfl rfl rfl rfl rfl) (aa_p 5 rfl (lt_idx rfl rfl pa930 und74 ti82) (aa_p 6 rfl (lt_fieldAddr 0 rfl fld82_0 rfl) (aa_l 7 rfl (lt_load_peek 1 rfl ti5 rfl rfl rfl rfl rfl) (aa_one 8 (aa_op rfl rfl ?_)))))))))
     refine hv_call0 [6] (f64_spec h932) rfl rfl rfl rfl ?_
     rintro _ _ ⟨s933, rfl, rfl⟩
     refine at_open (A := Unit) 0 rfl (fun _ => True) (fun _ => [((Ty.int .i64).fact x931.1.ID [.int .i64 x931.1.ID]), ((Ty.slice ty69).fact x931.1.Fields [s933])]) (fun F w h => ⟨(), trivial, ex25 h⟩) (fun _ _ => ?_)
     refine at_inv 0 rfl (fun l936 => ?_)
     replace l936 : (-9223372036854775808) ≤ x931.1.ID ∧ x931.1.ID ≤ 9223372036854775807 := l936
     refine aa_pure 9 rfl (by kernel_rfl) rfl rfl (lt_extract rfl rfl) rfl (ts_in 0 3 rfl rfl) ?_
     refine aa_pure 10 rfl (by kernel_rfl) rfl rfl (lt_extract rfl rfl) rfl (ts_in 0 3 rfl rfl) ?_
     refine aa_all (rs := [11]) (by kernel_rfl) rfl (ts_in 0 3 rfl rfl) (List.forall_mem_singleton.2 ?_)
     refine at_one 1 rfl (fun ho937 => ?_)
     refine aa_op rfl rfl (hv_store_box 1 (cs' := [.int .i64 x931.1.ID, s933]) rfl rfl ti25 rfl rfl rfl rfl (allc rfl (allc ho937 rfl)) ?_)
     refine aa_all (rs := [12]) (by kernel_rfl) rfl (ts_out rfl) (List.forall_mem_singleton.2 ?_)
     refine aa_op rfl rfl (hv_lt (lt_assign rfl) rfl ?_)
     refine aa_done (by kernel_rfl) (ts_out rfl) ?_
     refine at_then (at_ret ?_)
     have hq := oinj hr
     clear hr
     subst hq
     have hq := oinj hk894
     clear hk894
     subst hq
     refine at_in_ret (at_then_ret (at_then_ret (at_in_ret (at_then_ret (at_then_ret ?_)))))
     refine at_derive [0, 1] (ty25.fact (⟨x931.1.ID, x931.1.Fields⟩ : D_api_Record) [.int .i64 x931.1.ID, s933]) rfl (fun F w h => mk25 (x := (⟨x931.1.ID, x931.1.Fields⟩ : D_api_Record)) h) ?_
     exact at_return (.tuple #[.agg #[.int .i64 x931.1.ID, s933], .bool x931.2]) [0] hS Tryz.results31 (.cons (.cell 1 rfl ti25 rfl rfl rfl rfl) (.cons (.tmp rfl) .nil)) rfl rfl ⟨s933, rfl, rfl⟩
    replace hr := ineg h926 hr
    refine at_false rfl (bf h926) (at_skip (at_in (s_tr (at_lt (lt_add rfl rfl (by simp only [lo, hi]; omega)) rfl (s_mv rfl (at_nil (at_int .i64 (x885 + 1 : Int) (by simp only [lo, hi]; omega) ?_)))))))
    exact at_again (σ := (Nat × Int × (List D_api_Field))) (V := Value) (lp := fun n s => m31_l1 a0 n s.1 s.2.1 s.2.2) (S := fun s e => (⟨[(0, w878), (2, .pointer (some (Addr.add ⟨b879, 0, none⟩ 0))), (4, (.func (.func 64) #[] #[])), (19, w878), (20, .int .i64 (a0.length : Int)), (21, .int .i64 (s.1 : Int))], [⟨b879, [.int .i64 s.2.1, e], 25⟩], [], [((Ty.int .i64).fact (s.1 : Int) [.int .i64 (s.1 : Int)]), ((Ty.int .i64).fact s.2.1 [.int .i64 s.2.1]), ((Ty.slice ty69).fact s.2.2 [e]), ((Ty.slice ty76).fact a0 [w878])]⟩ : St)) (x885 + 1, x886, x887) v888 hr ⟨⟨rfl, ⟨rfl, ⟨rfl, ⟨rfl, ⟨rfl, ⟨rfl, trivial⟩⟩⟩⟩⟩⟩, ⟨[false, true], rfl⟩, ⟨[], rfl⟩, ⟨[0, 3, 4, 1], rfl⟩⟩
   replace hr := ineg h896 hr
   refine at_false rfl (decide_eq_false (by omega)) ?_
   refine at_exit (at_then_exit (at_then_exit (at_in_exit ?_)))
   have hq := oinj hr
   clear hr
   subst hq
   exact at_leafP ((x886, x887), v888) rfl ⟨⟨rfl, ⟨rfl, ⟨rfl, trivial⟩⟩⟩, ⟨[true], rfl⟩, ⟨[], rfl⟩, ⟨[1, 2, 3], rfl⟩⟩
  rintro ⟨⟨x889, x890⟩, v891⟩ hp
  replace hr := hk894
  subst hp
  clear hl893
  change At _ _ (⟨[(0, w878), (2, .pointer (some (Addr.add ⟨b879, 0, none⟩ 0))), (4, (.func (.func 64) #[] #[]))], [⟨b879, [.int .i64 x889, v891], 25⟩], [], [((Ty.int .i64).fact x889 [.int .i64 x889]), ((Ty.slice ty69).fact x890 [v891]), ((Ty.slice ty76).fact a0 [w878])]⟩ : St) _
  refine at_inv 0 rfl (fun l938 => ?_)
  replace l938 : (-9223372036854775808) ≤ x889 ∧ x889 ≤ 9223372036854775807 := l938
  refine at_then (at_seq (s_sr (s_mv rfl (at_lt (lt_flen 2 rfl rfl und34) rfl (s_mv rfl (s_nt (at_int .i64 0 (by simp only [lo, hi]; omega) ?_)))))))
  replace hr := obind hr
  obtain ⟨r946, hl947, hk948⟩ := hr
  refine at_cutP (V := ((Int × (List D_api_Field))) × (Value)) (fun v => r946 = Fl.go v.1) (fun v => (⟨[(2, .pointer (some (Addr.add ⟨b879, 0, none⟩ 0)))], [⟨b879, [.int .i64 v.1.1, v.2], 25⟩], [], [((Ty.int .i64).fact v.1.1 [.int .i64 v.1.1]), ((Ty.slice ty69).fact v.1.2 [v.2])]⟩ : St)) ?_ ?_
  ·refine at_block ?_
   refine at_loopW (σ := (Nat × Int × (List D_api_Field))) (V := Value) (r := r946) (fun n s => m31_l2 a0 n s.1 s.2.1 s.2.2) (fun s e => (⟨[(2, .pointer (some (Addr.add ⟨b879, 0, none⟩ 0))), (4, (.func (.func 64) #[] #[])), (48, w878), (49, .int .i64 (a0.length : Int)), (50, .int .i64 (s.1 : Int))], [⟨b879, [.int .i64 s.2.1, e], 25⟩], [], [((Ty.int .i64).fact (s.1 : Int) [.int .i64 (s.1 : Int)]), ((Ty.int .i64).fact s.2.1 [.int .i64 s.2.1]), ((Ty.slice ty69).fact s.2.2 [e]), ((Ty.slice ty76).fact a0 [w878])]⟩ : St)) (fun _ => rfl) _ (0, x889, x890) v891 hl947 ⟨⟨rfl, ⟨rfl, ⟨rfl, ⟨rfl, ⟨rfl, trivial⟩⟩⟩⟩⟩, ⟨[true], rfl⟩, ⟨[], rfl⟩, ⟨[0, 1, 2, 3], rfl⟩⟩ ?_
   clear hl947
   intro n s hr v942
   obtain ⟨x939, x940, x941⟩ := s
   skip
   change m31_l2 a0 (n + 1) x939 x940 x941 = some r946 at hr
   change At _ _ (⟨[(2, .pointer (some (Addr.add ⟨b879, 0, none⟩ 0))), (4, (.func (.func 64) #[] #[])), (48, w878), (49, .int .i64 (a0.length : Int)), (50, .int .i64 (x939 : Int))], [⟨b879, [.int .i64 x940, v942], 25⟩], [], [((Ty.int .i64).fact (x939 : Int) [.int .i64 (x939 : Int)]), ((Ty.int .i64).fact x940 [.int .i64 x940]), ((Ty.slice ty69).fact x941 [v942]), ((Ty.slice ty76).fact a0 [w878])]⟩ : St) _
   rw [m31_l2] at hr
   refine at_inv 1 rfl (fun l949 => ?_)
   replace l949 : (-9223372036854775808) ≤ x940 ∧ x940 ≤ 9223372036854775807 := l949
   refine s_sr (at_lt (lt_lss rfl rfl) rfl (s_nt (at_seq ?_)))
   by_cases h950 : x939 < a0.length
   ·replace hr := ipos h950 hr
    refine at_true rfl (decide_eq_true (by omega)) ?_
    refine at_skip (at_then (at_seq (at_block (s_sr ?_))))
    replace hr := obind hr
    obtain ⟨x951, h952, hr⟩ := hr
    have := (List.getElem?_eq_some_iff.1 h952).1
    refine at_elem 3 rfl (nat_at' h952) (fun p954 ec pa955 => ?_)
    refine at_open (A := Value) 0 rfl _ _ (fun F w h => op76 h) ?_
    rintro s953 rfl
    refine at_lt (lt_idx rfl rfl pa955 und34 ti76) rfl (at_lt (lt_load_peek 4 rfl ti76 rfl rfl rfl rfl rfl) rfl (at_hv rfl ?_))
    refine hv_alloc (cs := [str ([] : Str), str ([] : Str), (.slice none 0 0)]) ti76 rfl rfl (fun b956 => ?_)
    refine at_one 2 rfl (fun ho957 => ?_)
    refine at_hv rfl (hv_store_box 0 (cs' := [str x951.From, str x951.To, s953]) rfl rfl ti76 rfl rfl rfl rfl (allc rfl (allc rfl (allc ho957 rfl))) (s_ntsr (at_lt (lt_fieldAddr 2 rfl fld76_2 rfl) rfl (at_lt (lt_load_box 0 rfl ti74 rfl rfl rfl rfl rfl) rfl ?_))))
    refine at_inv 2 rfl (fun i958 => ?_)
    have l959 := slice_len i958
    refine at_lt (lt_flen 2 rfl rfl und74) rfl (s_mv rfl (s_nt (at_int .i64 0 (by simp only [lo, hi]; omega) ?_)))
    replace hr := obind hr
    obtain ⟨r967, hl968, hk969⟩ := hr
    refine at_cutP (V := ((Int × (List D_api_Field))) × (Value)) (fun v => r967 = Fl.go v.1) (fun v => (⟨[(2, .pointer (some (Addr.add ⟨b879, 0, none⟩ 0))), (4, (.func (.func 64) #[] #[])), (48, w878), (49, .int .i64 (a0.length : Int)), (50, .int .i64 (x939 : Int))], [⟨b879, [.int .i64 v.1.1, v.2], 25⟩], [], [((Ty.int .i64).fact v.1.1 [.int .i64 v.1.1]), ((Ty.slice ty69).fact v.1.2 [v.2]), ((Ty.slice ty76).fact a0 [w878]), ((Ty.int .i64).fact (x939 : Int) [.int .i64 (x939 : Int)])]⟩ : St)) ?_ ?_
    ·refine at_block ?_
     refine at_loopW (σ := (Nat × Int × (List D_api_Field))) (V := Value) (r := r967) (fun n s => m31_l3 x951 n s.1 s.2.1 s.2.2) (fun s e => (⟨[(2, .pointer (some (Addr.add ⟨b879, 0, none⟩ 0))), (4, (.func (.func 64) #[] #[])), (10, .pointer (some (Addr.add ⟨b956, 0, none⟩ 0))), (48, w878), (49, .int .i64 (a0.length : Int)), (50, .int .i64 (x939 : Int)), (55, s953), (56, .int .i64 (x951.Codes.length : Int)), (57, .int .i64 (s.1 : Int))], [⟨b956, [str x951.From, str x951.To, s953], 76⟩, ⟨b879, [.int .i64 s.2.1, e], 25⟩], [], [((Ty.int .i64).fact (s.1 : Int) [.int .i64 (s.1 : Int)]), ((Ty.int .i64).fact s.2.1 [.int .i64 s.2.1]), ((Ty.slice ty69).fact s.2.2 [e]), ((Ty.slice ty76).fact a0 [w878]), ((Ty.int .i64).fact (x939 : Int) [.int .i64 (x939 : Int)]), ((Ty.slice ty82).fact x951.Codes [s953]), (Ty.str.fact x951.From [str x951.From]), (Ty.str.fact x951.To [str x951.To])]⟩ : St)) (fun _ => rfl) _ (0, x940, x941) v942 hl968 ⟨⟨rfl, ⟨rfl, ⟨rfl, ⟨rfl, ⟨rfl, ⟨rfl, ⟨rfl, ⟨rfl, ⟨rfl, trivial⟩⟩⟩⟩⟩⟩⟩⟩⟩, ⟨[true, true], rfl⟩, ⟨[], rfl⟩, ⟨[0, 7, 8, 9, 6, 3, 1, 2], rfl⟩⟩ ?_
     clear hl968
     intro n s hr v963
     obtain ⟨x960, x961, x962⟩ := s
     skip
     change m31_l3 x951 (n + 1) x960 x961 x962 = some r967 at hr
     change At _ _ (⟨[(2, .pointer (some (Addr.add ⟨b879, 0, none⟩ 0))), (4, (.func (.func 64) #[] #[])), (10, .pointer (some (Addr.add ⟨b956, 0, none⟩ 0))), (48, w878), (49, .int .i64 (a0.length : Int)), (50, .int .i64 (x939 : Int)), (55, s953), (56, .int .i64 (x951.Codes.length : Int)), (57, .int .i64 (x960 : Int))], [⟨b956, [str x951.From, str x951.To, s953], 76⟩, ⟨b879, [.int .i64 x961, v963], 25⟩], [], [((Ty.int .i64).fact (x960 : Int) [.int .i64 (x960 : Int)]), ((Ty.int .i64).fact x961 [.int .i64 x961]), ((Ty.slice ty69).fact x962 [v963]), ((Ty.slice ty76).fact a0 [w878]), ((Ty.int .i64).fact (x939 : Int) [.int .i64 (x939 : Int)]), ((Ty.slice ty82).fact x951.Codes [s953]), (Ty.str.fact x951.From [str x951.From]), (Ty.str.fact x951.To [str x951.To])]⟩ : St) _
     rw [m31_l3] at hr
     refine at_inv 1 rfl (fun l970 => ?_)
     replace l970 : (-9223372036854775808) ≤ x961 ∧ x961 ≤ 9223372036854775807 := l970
     refine s_sr (at_lt (lt_lss rfl rfl) rfl (s_nt (at_seq ?_)))
     by_cases h971 : x960 < x951.Codes.length
     ·replace hr := ipos h971 hr
      refine at_true rfl (decide_eq_true (by omega)) ?_
      refine at_skip (at_then (at_seq (at_block (s_sr (s_mv rfl ?_)))))
      replace hr := obind hr
      obtain ⟨x972, h973, hr⟩ := hr
      have := (List.getElem?_eq_some_iff.1 h973).1
      refine at_elem 5 rfl (nat_at' h973) (fun p974 ec pa975 => ?_)
      refine at_open (A := Unit) 0 rfl _ _ (fun F w h => op82 h) ?_
      rintro _ rfl
      refine at_lt (lt_idx rfl rfl pa975 und74 ti82) rfl (at_lt (lt_load_peek 1 rfl ti82 rfl rfl rfl rfl rfl) rfl (at_hv rfl ?_))
      refine hv_alloc (cs := [.int .u8 0, .int .u8 0]) ti82 rfl rfl (fun b976 => ?_)
      refine s_as rfl (at_hv rfl (hv_store_box 0 (cs' := [.int .u8 (x972.From.toNat : Int), .int .u8 (x972.To.toNat : Int)]) rfl rfl ti82 rfl rfl rfl rfl rfl (s_nt (at_seq ?_))))
      replace hr := imust hr
      obtain ⟨h977, hr⟩ := hr
      refine at_cutf_h 7 x960 rfl (by omega) (fun s978 hc979 => ?_)
      refine at_one 0 rfl (fun ho980 => ?_)
      replace hr := obind hr
      obtain ⟨x981, h982, hr⟩ := hr
      refine aa_start 13 (by kernel_rfl) ?_
      refine aa_p 0 rfl (lt_fieldAddr 2 rfl fld76_2 rfl) (aa_l 1 rfl (lt_load_box 1 rfl ti74 rfl rfl rfl rfl rfl) (aa_p 2 rfl (lt_move rfl) ?_))
      refine aa_p 3 rfl (lt_cut_h x960 rfl rfl (by omega) und74 ti82 hc979) ?_
      refine aa_p 4 rfl (lt_buildc (cs := [str ([] : Str), str ([] : Str), s978]) [(2, [s978])] rfl ti76 pl76 ⟨rfl, cells_one ho980, trivial⟩ rfl) ?_
      refine aa_p 5 rfl (lt_fieldAddr 1 rfl fld82_1 rfl) (aa_l 6 rfl (lt_load_box 0 rfl ti5 rfl rfl rfl rfl rfl) (aa_one 7 ?_))
      refine at_str ([] : Str) (by decide) ?_
      refine at_derive [0, 0, 1] (ty76.fact (⟨([] : Str), ([] : Str), x951.Codes.take x960⟩ : D_crosswalk_Entry) [str ([] : Str), str ([] : Str), s978]) rfl (fun F w h => mk76 (x := (⟨([] : Str), ([] : Str), x951.Codes.take x960⟩ : D_crosswalk_Entry)) h) ?_
      refine aa_op rfl rfl (hv_call0 [0] (f47_spec h982) rfl rfl rfl rfl ?_)
      rintro _ _ ⟨rfl, rfl⟩
      refine aa_pure 8 rfl (by kernel_rfl) rfl rfl (lt_move rfl) rfl (ts_in 0 2 rfl rfl) ?_
      refine aa_pure 9 rfl (by kernel_rfl) rfl rfl (lt_extract rfl rfl) rfl (ts_in 0 2 rfl rfl) ?_
      refine aa_pure 10 rfl (by kernel_rfl) rfl rfl (lt_extract rfl rfl) rfl (ts_in 0 2 rfl rfl) ?_
      refine aa_pure 11 rfl (by kernel_rfl) rfl rfl (lt_assign rfl) rfl (ts_in 0 2 rfl rfl) ?_
      refine aa_pure 12 rfl (by kernel_rfl) rfl rfl (lt_assign rfl) rfl (ts_in 0 2 rfl rfl) ?_
      refine aa_done (by kernel_rfl) (ts_in 0 2 rfl rfl) ?_
      refine s_tsr (s_mv rfl (s_nt ?_))
      by_cases h983 : x981.2 = true
      ·replace hr := ipos h983 hr
       refine at_true rfl h983 (s_sr (s_mv rfl (at_lt (lt_fieldAddr 0 rfl fld76_0 rfl) rfl (at_lt (lt_load_box 1 rfl ti9 rfl rfl rfl rfl rfl) rfl (at_lt (lt_fieldAddr 0 rfl fld82_0 rfl) rfl (at_lt (lt_load_box 0 rfl ti5 rfl rfl rfl rfl rfl) rfl ?_))))))
       replace hr := obind hr
       obtain ⟨x984, h985, hr⟩ := hr
       refine at_hv rfl (hv_call0 [11] (f64_spec h985) rfl rfl rfl rfl ?_)
       rintro _ _ ⟨s986, rfl, rfl⟩
       refine at_open (A := Unit) 0 rfl (fun _ => True) (fun _ => [((Ty.int .i64).fact x984.1.ID [.int .i64 x984.1.ID]), ((Ty.slice ty69).fact x984.1.Fields [s986])]) (fun F w h => ⟨(), trivial, ex25 h⟩) (fun _ _ => ?_)
       refine at_inv 0 rfl (fun l987 => ?_)
       replace l987 : (-9223372036854775808) ≤ x984.1.ID ∧ x984.1.ID ≤ 9223372036854775807 := l987
       refine at_lt (lt_extract rfl rfl) rfl (at_lt (lt_extract rfl rfl) rfl ?_)
       refine at_one 1 rfl (fun ho988 => ?_)
       refine at_hv rfl (hv_store_box 2 (cs' := [.int .i64 x984.1.ID, s986]) rfl rfl ti25 rfl rfl rfl rfl (allc rfl (allc ho988 rfl)) (s_as rfl (s_nt (at_ret ?_))))
       have hq := oinj hr
       clear hr
       subst hq
       have hq := oinj hk969
       clear hk969
       subst hq
       have hq := oinj hk948
       clear hk948
       subst hq
       refine at_in_ret (at_then_ret (at_then_ret (at_in_ret (at_then_ret (at_in_ret (at_then_ret (at_then_ret (at_in_ret (at_then_ret ?_)))))))))
       refine at_then_ret ?_
       refine at_derive [0, 1] (ty25.fact (⟨x984.1.ID, x984.1.Fields⟩ : D_api_Record) [.int .i64 x984.1.ID, s986]) rfl (fun F w h => mk25 (x := (⟨x984.1.ID, x984.1.Fields⟩ : D_api_Record)) h) ?_
       exact at_return (.tuple #[.agg #[.int .i64 x984.1.ID, s986], .bool x984.2]) [0] hS Tryz.results31 (.cons (.cell 2 rfl ti25 rfl rfl rfl rfl) (.cons (.tmp rfl) .nil)) rfl rfl ⟨s986, rfl, rfl⟩
      replace hr := ineg h983 hr
      refine at_false rfl (bf h983) (at_skip (at_in (s_tr (at_lt (lt_add rfl rfl (by simp only [lo, hi]; omega)) rfl (s_mv rfl (at_nil (at_int .i64 (x960 + 1 : Int) (by simp only [lo, hi]; omega) ?_)))))))
      exact at_again (σ := (Nat × Int × (List D_api_Field))) (V := Value) (lp := fun n s => m31_l3 x951 n s.1 s.2.1 s.2.2) (S := fun s e => (⟨[(2, .pointer (some (Addr.add ⟨b879, 0, none⟩ 0))), (4, (.func (.func 64) #[] #[])), (10, .pointer (some (Addr.add ⟨b956, 0, none⟩ 0))), (48, w878), (49, .int .i64 (a0.length : Int)), (50, .int .i64 (x939 : Int)), (55, s953), (56, .int .i64 (x951.Codes.length : Int)), (57, .int .i64 (s.1 : Int))], [⟨b956, [str x951.From, str x951.To, s953], 76⟩, ⟨b879, [.int .i64 s.2.1, e], 25⟩], [], [((Ty.int .i64).fact (s.1 : Int) [.int .i64 (s.1 : Int)]), ((Ty.int .i64).fact s.2.1 [.int .i64 s.2.1]), ((Ty.slice ty69).fact s.2.2 [e]), ((Ty.slice ty76).fact a0 [w878]), ((Ty.int .i64).fact (x939 : Int) [.int .i64 (x939 : Int)]), ((Ty.slice ty82).fact x951.Codes [s953]), (Ty.str.fact x951.From [str x951.From]), (Ty.str.fact x951.To [str x951.To])]⟩ : St)) (x960 + 1, x961, x962) v963 hr ⟨⟨rfl, ⟨rfl, ⟨rfl, ⟨rfl, ⟨rfl, ⟨rfl, ⟨rfl, ⟨rfl, ⟨rfl, trivial⟩⟩⟩⟩⟩⟩⟩⟩⟩, ⟨[false, true, true], rfl⟩, ⟨[], rfl⟩, ⟨[0, 7, 8, 9, 10, 11, 12, 13], rfl⟩⟩
     replace hr := ineg h971 hr
     refine at_false rfl (decide_eq_false (by omega)) ?_
     refine at_exit (at_then_exit (at_then_exit (at_in_exit ?_)))
     have hq := oinj hr
     clear hr
     subst hq
     exact at_leafP ((x961, x962), v963) rfl ⟨⟨rfl, ⟨rfl, ⟨rfl, ⟨rfl, ⟨rfl, trivial⟩⟩⟩⟩⟩, ⟨[false, true], rfl⟩, ⟨[], rfl⟩, ⟨[1, 2, 3, 4], rfl⟩⟩
    rintro ⟨⟨x964, x965⟩, v966⟩ hp
    replace hr := hk969
    subst hp
    clear hl968
    change At _ _ (⟨[(2, .pointer (some (Addr.add ⟨b879, 0, none⟩ 0))), (4, (.func (.func 64) #[] #[])), (48, w878), (49, .int .i64 (a0.length : Int)), (50, .int .i64 (x939 : Int))], [⟨b879, [.int .i64 x964, v966], 25⟩], [], [((Ty.int .i64).fact x964 [.int .i64 x964]), ((Ty.slice ty69).fact x965 [v966]), ((Ty.slice ty76).fact a0 [w878]), ((Ty.int .i64).fact (x939 : Int) [.int .i64 (x939 : Int)])]⟩ : St) _
    refine at_inv 0 rfl (fun l989 => ?_)
    replace l989 : (-9223372036854775808) ≤ x964 ∧ x964 ≤ 9223372036854775807 := l989
    refine at_in (s_tr (at_lt (lt_add rfl rfl (by simp only [lo, hi]; omega)) rfl (s_mv rfl (at_nil (at_int .i64 (x939 + 1 : Int) (by simp only [lo, hi]; omega) ?_)))))
    exact at_again (σ := (Nat × Int × (List D_api_Field))) (V := Value) (lp := fun n s => m31_l2 a0 n s.1 s.2.1 s.2.2) (S := fun s e => (⟨[(2, .pointer (some (Addr.add ⟨b879, 0, none⟩ 0))), (4, (.func (.func 64) #[] #[])), (48, w878), (49, .int .i64 (a0.length : Int)), (50, .int .i64 (s.1 : Int))], [⟨b879, [.int .i64 s.2.1, e], 25⟩], [], [((Ty.int .i64).fact (s.1 : Int) [.int .i64 (s.1 : Int)]), ((Ty.int .i64).fact s.2.1 [.int .i64 s.2.1]), ((Ty.slice ty69).fact s.2.2 [e]), ((Ty.slice ty76).fact a0 [w878])]⟩ : St)) (x939 + 1, x964, x965) v966 hr ⟨⟨rfl, ⟨rfl, ⟨rfl, ⟨rfl, ⟨rfl, trivial⟩⟩⟩⟩⟩, ⟨[true], rfl⟩, ⟨[], rfl⟩, ⟨[0, 1, 2, 3], rfl⟩⟩
   replace hr := ineg h950 hr
   refine at_false rfl (decide_eq_false (by omega)) ?_
   refine at_exit (at_then_exit (at_then_exit (at_in_exit ?_)))
   have hq := oinj hr
   clear hr
   subst hq
   exact at_leafP ((x940, x941), v942) rfl ⟨⟨rfl, trivial⟩, ⟨[true], rfl⟩, ⟨[], rfl⟩, ⟨[1, 2], rfl⟩⟩
  rintro ⟨⟨x943, x944⟩, v945⟩ hp
  replace hr := hk948
  subst hp
  clear hl947
  change At _ _ (⟨[(2, .pointer (some (Addr.add ⟨b879, 0, none⟩ 0)))], [⟨b879, [.int .i64 x943, v945], 25⟩], [], [((Ty.int .i64).fact x943 [.int .i64 x943]), ((Ty.slice ty69).fact x944 [v945])]⟩ : St) _
  refine at_inv 0 rfl (fun l990 => ?_)
  replace l990 : (-9223372036854775808) ≤ x943 ∧ x943 ≤ 9223372036854775807 := l990
  refine s_tsr (at_lt (lt_build (cs := [.int .i64 0, (.slice none 0 0)]) rfl ti25 pl25 rfl) rfl (at_hv rfl (hv_store_box 0 (cs' := [.int .i64 0, (.slice none 0 0)]) rfl rfl ti25 rfl rfl rfl rfl rfl (s_as rfl (s_nt (at_ret ?_))))))
  have hq := oinj hr
  clear hr
  subst hq
  refine at_int .i64 0 (by simp only [lo, hi]; omega) (at_fnil ty69 none ?_)
  refine at_derive [1, 0] (ty25.fact (⟨0, ([] : (List D_api_Field))⟩ : D_api_Record) [.int .i64 0, (.slice none 0 0)]) rfl (fun F w h => mk25 (x := (⟨0, ([] : (List D_api_Field))⟩ : D_api_Record)) h) ?_
  exact at_return (.tuple #[.agg #[.int .i64 0, (.slice none 0 0)], .bool false]) [0] hS Tryz.results31 (.cons (.cell 0 rfl ti25 rfl rfl rfl rfl) (.cons (.tmp rfl) .nil)) rfl rfl ⟨((.slice none 0 0)), rfl, rfl⟩
 replace hr := ineg h882 hr
 refine at_true rfl (nf (bf h882)) (s_sr (at_lt (lt_build (cs := [.int .i64 0, (.slice none 0 0)]) rfl ti25 pl25 rfl) rfl (at_hv rfl (hv_store_box 0 (cs' := [.int .i64 0, (.slice none 0 0)]) rfl rfl ti25 rfl rfl rfl rfl rfl (s_as rfl (s_nt (at_ret ?_)))))))
 have hq := oinj hr
 clear hr
 subst hq
 refine at_then_ret (at_int .i64 0 (by simp only [lo, hi]; omega) (at_fnil ty69 none ?_))
 refine at_derive [1, 0] (ty25.fact (⟨0, ([] : (List D_api_Field))⟩ : D_api_Record) [.int .i64 0, (.slice none 0 0)]) rfl (fun F w h => mk25 (x := (⟨0, ([] : (List D_api_Field))⟩ : D_api_Record)) h) ?_
 exact at_return (.tuple #[.agg #[.int .i64 0, (.slice none 0 0)], .bool false]) [0] hS Tryz.results31 (.cons (.cell 0 rfl ti25 rfl rfl rfl rfl) (.cons (.tmp rfl) .nil)) rfl rfl ⟨((.slice none 0 0)), rfl, rfl⟩
def m17 (a0 : (List D_crosswalk_Entry)) : Option Bool :=
  (m31 a0).bind fun x993 =>
  (m27 a0).bind fun x999 =>
  if x999 = true then
   some (!x993.2)
  else
   some false
def post17 (r : Bool) (v : Value) (fs : List Fact) : Prop := v = .bool r ∧ fs = []
theorem en17 : Enters Tryz.prog 17 := ⟨_, Tryz.func17, by kernel_rfl, rfl⟩
theorem f17_spec {a0 : (List D_crosswalk_Entry)} {w992 : Value} {r : Bool} (hr : m17 a0 = some r) : Spec Tryz.prog 17 [w992] [((Ty.slice ty76).fact a0 [w992])] (post17 r) := by
 refine spec_start (N := 16) Tryz.func17 (by kernel_rfl) rfl rfl rfl ?_
 intro g hS
 unfold m17 at hr
 refine s_sr (s_as rfl (s_ntsr (s_mv rfl ?_)))
 replace hr := obind hr
 obtain ⟨x993, h994, hr⟩ := hr
 refine at_hv rfl (hv_call0 [0] (f31_spec h994) rfl rfl rfl rfl ?_)
 rintro _ _ ⟨s995, rfl, rfl⟩
 refine at_open (A := Unit) 0 rfl (fun _ => True) (fun _ => [((Ty.int .i64).fact x993.1.ID [.int .i64 x993.1.ID]), ((Ty.slice ty69).fact x993.1.Fields [s995])]) (fun F w h => ⟨(), trivial, ex25 h⟩) (fun _ _ => ?_)
 refine at_inv 0 rfl (fun l996 => ?_)
 replace l996 : (-9223372036854775808) ≤ x993.1.ID ∧ x993.1.ID ≤ 9223372036854775807 := l996
 refine s_mv rfl (at_lt (lt_extract rfl rfl) rfl (at_lt (lt_extract rfl rfl) rfl (at_hv rfl ?_)))
 refine hv_alloc (cs := [.int .i64 0, (.slice none 0 0)]) ti25 rfl rfl (fun b997 => ?_)
 refine at_one 1 rfl (fun ho998 => ?_)
 refine at_hv rfl (hv_store_box 0 (cs' := [.int .i64 x993.1.ID, s995]) rfl rfl ti25 rfl rfl rfl rfl (allc rfl (allc ho998 rfl)) (s_as rfl (s_ntsr (s_mv rfl ?_))))
 replace hr := obind hr
 obtain ⟨x999, h1000, hr⟩ := hr
 refine at_hv rfl (hv_call0 [3] (f27_spec h1000) rfl rfl rfl rfl ?_)
 rintro _ _ ⟨rfl, rfl⟩
 refine s_mv rfl ?_
 by_cases h1001 : x999 = true
 ·replace hr := ipos h1001 hr
  refine at_on rfl rfl h1001 (s_mv rfl (at_on rfl rfl h1001 (at_lt (lt_not rfl) rfl (at_lt (lt_pick true rfl h1001 rfl) rfl (s_as rfl (s_nt (at_ret ?_)))))))
  have hq := oinj hr
  clear hr
  subst hq
  exact at_return (.bool (!x993.2)) [] hS Tryz.results17 (.cons (.tmp rfl) .nil) rfl rfl ⟨rfl, rfl⟩
 replace hr := ineg h1001 hr
 refine at_off rfl rfl (bf h1001) rfl (at_off rfl rfl (bf h1001) rfl (at_lt (lt_pick false rfl (bf h1001) rfl) rfl (s_as rfl (s_nt (at_ret ?_)))))
 have hq := oinj hr
 clear hr
 subst hq
 exact at_return (.bool false) [] hS Tryz.results17 (.cons (.tmp rfl) .nil) rfl rfl ⟨rfl, rfl⟩
def m113 (a0 : Str) (a1 : Str) : Option Int :=
  if a1.length = 0 then
   some 0
  else
   if a1 = a0 then
    some 0
   else
    if a1.length = 1 then
     (a1[0]?).bind fun c1006 =>
     (m145 a0 c1006).bind fun x1008 =>
     some x1008
    else
     if a0.length ≤ a1.length then
      some (-1)
     else
      none
def post113 (r : Int) (v : Value) (fs : List Fact) : Prop := v = .int .i64 r ∧ fs = [((Ty.int .i64).fact r [.int .i64 r])]
theorem en113 : Enters Tryz.prog 113 := ⟨_, Tryz.func113, by kernel_rfl, rfl⟩
theorem f113_spec {a0 : Str} {a1 : Str} {r : Int} (hr : m113 a0 a1 = some r) : Spec Tryz.prog 113 [str a0, str a1] [(Ty.str.fact a0 [str a0]), (Ty.str.fact a1 [str a1])] (post113 r) := by
 refine spec_start (N := 143) Tryz.func113 (by kernel_rfl) rfl rfl rfl ?_
 intro g hS
 unfold m113 at hr
 refine s_sr (s_as rfl (s_ntsr (s_mv rfl ?_)))
 refine at_inv 1 rfl (fun l1002 => ?_)
 replace l1002 : a1.length ≤ 9223372036854775807 := l1002
 refine at_lt (lt_slen rfl und9) rfl (s_as rfl (s_nt (at_seq (at_block (s_sr (s_mv rfl (at_lt (lt_eql rfl rfl) rfl (s_mv rfl ?_))))))))
 by_cases h1003 : a1.length = 0
 ·replace hr := ipos h1003 hr
  refine at_off rfl rfl (decide_eq_true (by omega)) rfl ?_
  refine at_off rfl rfl (decide_eq_true (by omega)) rfl ?_
  refine at_off rfl rfl (decide_eq_true (by omega)) rfl ?_
  refine at_lt (lt_pick true rfl (decide_eq_true (by omega)) rfl) rfl ?_
  refine s_as rfl (s_nt (at_true rfl rfl (s_sr (s_as rfl (s_nt (at_ret ?_))))))
  have hq := oinj hr
  clear hr
  subst hq
  refine at_in_ret (at_then_ret (at_int .i64 0 (by simp only [lo, hi]; omega) ?_))
  exact at_return (.int .i64 0) [0] hS Tryz.results113 (.cons (.tmp rfl) .nil) rfl rfl ⟨rfl, rfl⟩
 replace hr := ineg h1003 hr
 refine at_on rfl rfl (decide_eq_false (by omega)) ?_
 refine s_mv rfl ?_
 refine at_on rfl rfl (decide_eq_false (by omega)) ?_
 refine s_mv rfl ?_
 refine at_on rfl rfl (decide_eq_false (by omega)) ?_
 refine at_lt (lt_seql rfl rfl) rfl ?_
 refine at_lt (lt_pick false rfl (decide_eq_false (by omega)) rfl) rfl ?_
 refine s_as rfl (s_nt ?_)
 by_cases h1004 : a1 = a0
 ·replace hr := ipos h1004 hr
  refine at_true rfl (decide_eq_true h1004) (s_sr (s_as rfl (s_nt (at_ret ?_))))
  have hq := oinj hr
  clear hr
  subst hq
  refine at_in_ret (at_then_ret (at_int .i64 0 (by simp only [lo, hi]; omega) ?_))
  exact at_return (.int .i64 0) [0] hS Tryz.results113 (.cons (.tmp rfl) .nil) rfl rfl ⟨rfl, rfl⟩
 replace hr := ineg h1004 hr
 refine at_false rfl (decide_eq_false h1004) (s_sr (s_mv rfl (at_lt (lt_eql rfl rfl) rfl (s_as rfl (s_nt ?_)))))
 by_cases h1005 : a1.length = 1
 ·replace hr := ipos h1005 hr
  refine at_true rfl (decide_eq_true (by omega)) ?_
  refine s_sr (s_mv rfl (s_mv rfl ?_))
  replace hr := obind hr
  obtain ⟨c1006, h1007, hr⟩ := hr
  have := (List.getElem?_eq_some_iff.1 h1007).1
  have := c1006.toNat_lt
  refine at_lt (lt_sidx rfl rfl und9 (by omega) h1007) rfl ?_
  replace hr := obind hr
  obtain ⟨x1008, h1009, hr⟩ := hr
  refine at_hv rfl (hv_call0 [0] (f145_spec h1009) rfl rfl rfl rfl ?_)
  rintro _ _ ⟨rfl, rfl⟩
  refine at_inv 0 rfl (fun l1010 => ?_)
  replace l1010 : (-9223372036854775808) ≤ x1008 ∧ x1008 ≤ 9223372036854775807 := l1010
  refine s_as rfl (s_nt (at_ret ?_))
  have hq := oinj hr
  clear hr
  subst hq
  refine at_in_ret (at_then_ret ?_)
  exact at_return (.int .i64 x1008) [0] hS Tryz.results113 (.cons (.tmp rfl) .nil) rfl rfl ⟨rfl, rfl⟩
 replace hr := ineg h1005 hr
 refine at_false rfl (decide_eq_false (by omega)) ?_
 refine s_sr (s_mv rfl (s_mv rfl ?_))
 refine at_inv 0 rfl (fun l1011 => ?_)
 replace l1011 : a0.length ≤ 9223372036854775807 := l1011
 refine at_lt (lt_slen rfl und9) rfl (at_lt (lt_geq rfl rfl) rfl (s_as rfl (s_nt ?_)))
 by_cases h1012 : a0.length ≤ a1.length
 ·replace hr := ipos h1012 hr
  refine at_true rfl (decide_eq_true (by omega)) ?_
  refine s_sr (s_as rfl (s_nt (at_ret ?_)))
  have hq := oinj hr
  clear hr
  subst hq
  refine at_in_ret (at_then_ret (at_int .i64 (-1) (by simp only [lo, hi]; omega) ?_))
  exact at_return (.int .i64 (-1)) [0] hS Tryz.results113 (.cons (.tmp rfl) .nil) rfl rfl ⟨rfl, rfl⟩
 replace hr := ineg h1012 hr
 cases hr
def m85 (a0 : Str) (a1 : Str) : Option (Str × Str × Bool) :=
  (m113 a0 a1).bind fun x1015 =>
  if (0 : Int) ≤ x1015 then
   if 0 ≤ x1015 ∧ x1015.toNat ≤ a0.length then
    if 0 ≤ IntKind.i64.wrap (x1015 + (a1.length : Int)) ∧ (IntKind.i64.wrap (x1015 + (a1.length : Int))).toNat ≤ a0.length then
     some (a0.take x1015.toNat, a0.drop ((IntKind.i64.wrap (x1015 + (a1.length : Int))).toNat), true)
    else none
   else none
  else
   some (a0, ([] : Str), false)
def post85 (r : (Str × Str × Bool)) (v : Value) (fs : List Fact) : Prop := v = .tuple #[str r.1, str r.2.1, .bool r.2.2] ∧ fs = [(Ty.str.fact r.1 [str r.1]), (Ty.str.fact r.2.1 [str r.2.1])]
theorem en85 : Enters Tryz.prog 85 := ⟨_, Tryz.func85, by kernel_rfl, rfl⟩
theorem f85_spec {a0 : Str} {a1 : Str} {r : (Str × Str × Bool)} (hr : m85 a0 a1 = some r) : Spec Tryz.prog 85 [str a0, str a1] [(Ty.str.fact a0 [str a0]), (Ty.str.fact a1 [str a1])] (post85 r) := by
 refine spec_start (N := 23) Tryz.func85 (by kernel_rfl) rfl rfl rfl ?_
 intro g hS
 unfold m85 at hr
 refine s_sr (s_as rfl (s_as rfl (s_as rfl (s_nt (at_seq (s_sr (s_mv rfl (s_mv rfl ?_))))))))
 replace hr := obind hr
 obtain ⟨x1015, h1016, hr⟩ := hr
 refine at_hv rfl (hv_call0 [0, 1] (f113_spec h1016) rfl rfl rfl rfl ?_)
 rintro _ _ ⟨rfl, rfl⟩
 refine at_inv 0 rfl (fun l1017 => ?_)
 replace l1017 : (-9223372036854775808) ≤ x1015 ∧ x1015 ≤ 9223372036854775807 := l1017
 refine s_as rfl (s_ntsr (s_mv rfl (at_lt (lt_geq rfl rfl) rfl (s_nt ?_))))
 by_cases h1018 : (0 : Int) ≤ x1015
 ·replace hr := ipos h1018 hr
  refine at_true rfl (decide_eq_true (by first | exact h1018 | omega)) ?_
  refine at_seq ?_
  replace hr := imust hr
  obtain ⟨h1019, hr⟩ := hr
  refine at_inv 1 rfl (fun l1020 => ?_)
  replace l1020 : a0.length ≤ 9223372036854775807 := l1020
  refine at_inv 2 rfl (fun l1021 => ?_)
  replace l1021 : a1.length ≤ 9223372036854775807 := l1021
  replace hr := imust hr
  obtain ⟨h1022, hr⟩ := hr
  refine aa_start 12 (by kernel_rfl) ?_
  refine aa_p 0 rfl (lt_move rfl) (aa_p 1 rfl (lt_move rfl) ?_)
  refine aa_p 2 rfl (lt_scut_h x1015.toNat rfl rfl (by omega) und9 (by omega)) ?_
  refine aa_p 3 rfl (lt_move rfl) (aa_p 4 rfl (lt_move rfl) (aa_p 5 rfl (lt_move rfl) (aa_p 6 rfl (lt_slen rfl und9) (aa_p 7 rfl (lt_addw rfl rfl) ?_))))
  refine aa_p 8 rfl (lt_scut_l ((IntKind.i64.wrap (x1015 + (a1.length : Int))).toNat) rfl rfl (by omega) und9 (by omega)) ?_
  refine aa_p 9 rfl (lt_assign rfl) (aa_p 10 rfl (lt_assign rfl) (aa_p 11 rfl (lt_assign rfl) ?_))
  refine aa_done (by kernel_rfl) (ts_in 0 0 rfl rfl) ?_
  refine at_then (at_ret ?_)
  have hq := oinj hr
  clear hr
  subst hq
  refine at_then_ret ?_
  refine at_str (a0.take x1015.toNat) (by simp only [List.length_take, List.length_drop]; omega) ?_
  refine at_str (a0.drop ((IntKind.i64.wrap (x1015 + (a1.length : Int))).toNat)) (by simp only [List.length_take, List.length_drop]; omega) ?_
  exact at_return (.tuple #[str (a0.take x1015.toNat), str (a0.drop ((IntKind.i64.wrap (x1015 + (a1.length : Int))).toNat)), .bool true]) [1, 0] hS Tryz.results85 (.cons (.tmp rfl) (.cons (.tmp rfl) (.cons (.tmp rfl) .nil))) rfl rfl ⟨rfl, rfl⟩
 replace hr := ineg h1018 hr
 refine at_false rfl (decide_eq_false (by first | exact h1018 | omega)) ?_
 refine at_skip (s_tsr (s_mv rfl (s_as rfl (s_as rfl (s_as rfl (s_nt (at_ret ?_)))))))
 have hq := oinj hr
 clear hr
 subst hq
 refine at_str ([] : Str) (by decide) ?_
 exact at_return (.tuple #[str a0, str ([] : Str), .bool false]) [2, 0] hS Tryz.results85 (.cons (.tmp rfl) (.cons (.tmp rfl) (.cons (.tmp rfl) .nil))) rfl rfl ⟨rfl, rfl⟩
def m49 (a0 : Str) (a1 : Str) : Option (Str × Str × Bool) :=
  (m85 a0 a1).bind fun x1023 =>
  some (x1023.1, x1023.2.1, x1023.2.2)
def post49 (r : (Str × Str × Bool)) (v : Value) (fs : List Fact) : Prop := v = .tuple #[str r.1, str r.2.1, .bool r.2.2] ∧ fs = [(Ty.str.fact r.1 [str r.1]), (Ty.str.fact r.2.1 [str r.2.1])]
theorem en49 : Enters Tryz.prog 49 := ⟨_, Tryz.func49, by kernel_rfl, rfl⟩
theorem f49_spec {a0 : Str} {a1 : Str} {r : (Str × Str × Bool)} (hr : m49 a0 a1 = some r) : Spec Tryz.prog 49 [str a0, str a1] [(Ty.str.fact a0 [str a0]), (Ty.str.fact a1 [str a1])] (post49 r) := by
 refine spec_start (N := 13) Tryz.func49 (by kernel_rfl) rfl rfl rfl ?_
 intro g hS
 unfold m49 at hr
 refine s_sr (s_as rfl (s_as rfl (s_as rfl (s_ntsr (s_mv rfl (s_mv rfl ?_))))))
 replace hr := obind hr
 obtain ⟨x1023, h1024, hr⟩ := hr
 refine at_hv rfl (hv_call0 [0, 1] (f85_spec h1024) rfl rfl rfl rfl ?_)
 rintro _ _ ⟨rfl, rfl⟩
 refine at_lt (lt_extract rfl rfl) rfl (at_lt (lt_extract rfl rfl) rfl (at_lt (lt_extract rfl rfl) rfl (s_as rfl (s_as rfl (s_as rfl (s_nt (at_ret ?_)))))))
 have hq := oinj hr
 clear hr
 subst hq
 exact at_return (.tuple #[str x1023.1, str x1023.2.1, .bool x1023.2.2]) [0, 1] hS Tryz.results49 (.cons (.tmp rfl) (.cons (.tmp rfl) (.cons (.tmp rfl) .nil))) rfl rfl ⟨rfl, rfl⟩
end Go.WK.S
