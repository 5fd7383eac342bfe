
/- What functions of this program compute: a model of each, and the proof that it is kept. -/
import Derived.Test.YtidmlhihfanglaaGreatDoorInverseF03
import Derived.KernelRfl
set_option linter.unusedSimpArgs false
set_option linter.unusedVariables false
namespace Go.WK.S
open Go Go.Proofs Go.WK Go.RowKit
set_option linter.unusedVariables false
set_option maxRecDepth 100000
set_option maxHeartbeats 4000000
def m45 (a0 : Str) (c0 : (List D_crosswalk_Entry)) : Option (D_crosswalk_Entry × Str × Bool) :=
  (m46 c0 a0).bind fun x1585 =>
  some ((⟨x1585.1.From, x1585.1.To, x1585.1.Codes⟩ : D_crosswalk_Entry), x1585.1.From, x1585.2)
def post45 (r : (D_crosswalk_Entry × Str × Bool)) (v : Value) (fs : List Fact) : Prop := ∃ s1590 : Value, v = .tuple #[.agg #[str r.1.From, str r.1.To, s1590], str r.2.1, .bool r.2.2] ∧ fs = [(ty76.fact r.1 [str r.1.From, str r.1.To, s1590]), (Ty.str.fact r.2.1 [str r.2.1])]
theorem en45 : Enters Tryz.prog 45 := ⟨_, Tryz.func45, by kernel_rfl, rfl⟩
theorem f45_spec {a0 : Str} {c0 : (List D_crosswalk_Entry)} {b1582 : Nat} {w1583 : Value} {r : (D_crosswalk_Entry × Str × Bool)} (hr : m45 a0 c0 = some r) : Spec Tryz.prog 45 [str a0, .pointer (some (Addr.add ⟨b1582, 0, none⟩ 0))] [(Ty.str.fact a0 [str a0]), (peek ⟨b1582, 0, none⟩ [w1583]), ((Ty.slice ty76).fact c0 [w1583])] (post45 r) := by
 refine spec_start (N := 18) Tryz.func45 (by kernel_rfl) rfl rfl rfl ?_
 intro g hS
 unfold m45 at hr
 refine s_sr (at_hv rfl ?_)
 refine hv_alloc (cs := [str ([] : Str), str ([] : Str), (.slice none 0 0)]) ti76 rfl rfl (fun b1584 => ?_)
 refine s_as rfl (s_as rfl (s_ntsr (at_lt (lt_load_peek 1 rfl ti34 rfl rfl rfl rfl rfl) rfl (s_mv rfl ?_))))
 replace hr := obind hr
 obtain ⟨x1585, h1586, hr⟩ := hr
 refine at_hv rfl (hv_call0 [2, 0] (f46_spec h1586) rfl rfl rfl rfl ?_)
 rintro _ _ ⟨s1587, rfl, rfl⟩
 refine at_open (A := Unit) 0 rfl (fun _ => True) (fun _ => [(Ty.str.fact x1585.1.From [str x1585.1.From]), (Ty.str.fact x1585.1.To [str x1585.1.To]), ((Ty.slice ty82).fact x1585.1.Codes [s1587])]) (fun F w h => ⟨(), trivial, ex76 h⟩) (fun _ _ => ?_)
 refine s_mv rfl (at_lt (lt_extract rfl rfl) rfl (at_lt (lt_extract rfl rfl) rfl (at_hv rfl ?_)))
 refine hv_alloc (cs := [str ([] : Str), str ([] : Str), (.slice none 0 0)]) ti76 rfl rfl (fun b1588 => ?_)
 refine at_one 2 rfl (fun ho1589 => ?_)
 refine at_hv rfl (hv_store_box 0 (cs' := [str x1585.1.From, str x1585.1.To, s1587]) rfl rfl ti76 rfl rfl rfl rfl (allc rfl (allc rfl (allc ho1589 rfl))) (s_as rfl (s_nt (at_seq ?_))))
 refine aa_start 4 (by kernel_rfl) ?_
 refine aa_l 0 rfl (lt_load_box 0 rfl ti76 rfl rfl rfl rfl rfl) (aa_p 1 rfl (lt_fieldAddr 0 rfl fld76_0 rfl) (aa_p 3 rfl (lt_move rfl) ?_))
 refine aa_all (rs := [2, 4]) (by kernel_rfl) rfl (ts_in 0 0 rfl rfl) (List.forall_mem_cons.2 ⟨?_, (List.forall_mem_singleton.2 ?_)⟩)
 ·refine aa_op rfl rfl ?_
  refine hv_lt (lt_load_box 0 rfl ti9 rfl rfl rfl rfl rfl) rfl (aa_one 4 (aa_op rfl rfl (hv_store_box 1 (cs' := [str x1585.1.From, str x1585.1.To, s1587]) rfl rfl ti76 rfl rfl rfl rfl (allc rfl (allc rfl (allc ho1589 rfl))) ?_)))
  refine aa_all (rs := [5]) (by kernel_rfl) rfl (ts_out rfl) (List.forall_mem_singleton.2 ?_)
  refine aa_op rfl rfl (hv_lt (lt_assign rfl) rfl ?_)
  refine aa_all (rs := [6]) (by kernel_rfl) rfl (ts_out rfl) (List.forall_mem_singleton.2 ?_)
  refine aa_op rfl rfl (hv_lt (lt_assign rfl) rfl ?_)
  refine aa_done (by kernel_rfl) (ts_out rfl) ?_
  refine at_then (at_ret ?_)
  have hq := oinj hr
  clear hr
  subst hq
  refine at_derive [0, 1, 2] (ty76.fact (⟨x1585.1.From, x1585.1.To, x1585.1.Codes⟩ : D_crosswalk_Entry) [str x1585.1.From, str x1585.1.To, s1587]) rfl (fun F w h => mk76 (x := (⟨x1585.1.From, x1585.1.To, x1585.1.Codes⟩ : D_crosswalk_Entry)) h) ?_
  exact at_return (.tuple #[.agg #[str x1585.1.From, str x1585.1.To, s1587], str x1585.1.From, .bool x1585.2]) [0, 1] hS Tryz.results45 (.cons (.cell 1 rfl ti76 rfl rfl rfl rfl) (.cons (.tmp rfl) (.cons (.tmp rfl) .nil))) rfl rfl ⟨s1587, rfl, rfl⟩
 ·refine aa_op rfl rfl ?_
  refine hv_store_box 1 (cs' := [str x1585.1.From, str x1585.1.To, s1587]) rfl rfl ti76 rfl rfl rfl rfl (allc rfl (allc rfl (allc ho1589 rfl))) ?_
  refine aa_all (rs := [2]) (by kernel_rfl) rfl (ts_out rfl) (List.forall_mem_singleton.2 ?_)
  refine aa_op rfl rfl (hv_lt (lt_load_box 0 rfl ti9 rfl rfl rfl rfl rfl) rfl ?_)
  refine aa_all (rs := [5]) (by kernel_rfl) rfl (ts_out rfl) (List.forall_mem_singleton.2 ?_)
  refine aa_op rfl rfl (hv_lt (lt_assign rfl) rfl ?_)
  refine aa_all (rs := [6]) (by kernel_rfl) rfl (ts_out rfl) (List.forall_mem_singleton.2 ?_)
  refine aa_op rfl rfl (hv_lt (lt_assign rfl) rfl ?_)
  refine aa_done (by kernel_rfl) (ts_out rfl) ?_
  refine at_then (at_ret ?_)
  have hq := oinj hr
  clear hr
  subst hq
  refine at_derive [0, 1, 2] (ty76.fact (⟨x1585.1.From, x1585.1.To, x1585.1.Codes⟩ : D_crosswalk_Entry) [str x1585.1.From, str x1585.1.To, s1587]) rfl (fun F w h => mk76 (x := (⟨x1585.1.From, x1585.1.To, x1585.1.Codes⟩ : D_crosswalk_Entry)) h) ?_
  exact at_return (.tuple #[.agg #[str x1585.1.From, str x1585.1.To, s1587], str x1585.1.From, .bool x1585.2]) [0, 1] hS Tryz.results45 (.cons (.cell 1 rfl ti76 rfl rfl rfl rfl) (.cons (.tmp rfl) (.cons (.tmp rfl) .nil))) rfl rfl ⟨s1587, rfl, rfl⟩
def m16 (a0 : (List D_crosswalk_Entry)) (a1 : D_api_Record) : Option (D_api_Record × Int) :=
  (m41 a0 (⟨a1.ID, a1.Fields⟩ : D_api_Record) (fun y0 => m45 y0 a0) m47).bind fun x1598 =>
  some ((⟨x1598.1.ID, x1598.1.Fields⟩ : D_api_Record), x1598.2)
def post16 (r : (D_api_Record × Int)) (v : Value) (fs : List Fact) : Prop := ∃ s1605 : Value, v = .tuple #[.agg #[.int .i64 r.1.ID, s1605], .int .i64 r.2] ∧ fs = [(ty25.fact r.1 [.int .i64 r.1.ID, s1605]), ((Ty.int .i64).fact r.2 [.int .i64 r.2])]
theorem en16 : Enters Tryz.prog 16 := ⟨_, Tryz.func16, by kernel_rfl, rfl⟩
theorem f16_spec {a0 : (List D_crosswalk_Entry)} {a1 : D_api_Record} {w1591 : Value} {s1592 : Value} {r : (D_api_Record × Int)} (hr : m16 a0 a1 = some r) : Spec Tryz.prog 16 [w1591, .agg #[.int .i64 a1.ID, s1592]] [((Ty.slice ty76).fact a0 [w1591]), (ty25.fact a1 [.int .i64 a1.ID, s1592]), (utf8F 1 2)] (post16 r) := by
 refine spec_start (N := 12) Tryz.func16 (by kernel_rfl) rfl rfl rfl ?_
 intro g hS
 unfold m16 at hr
 refine at_open (A := Unit) 1 rfl (fun _ => True) (fun _ => [((Ty.int .i64).fact a1.ID [.int .i64 a1.ID]), ((Ty.slice ty69).fact a1.Fields [s1592])]) (fun F w h => ⟨(), trivial, ex25 h⟩) (fun _ _ => ?_)
 refine at_inv 0 rfl (fun l1593 => ?_)
 replace l1593 : (-9223372036854775808) ≤ a1.ID ∧ a1.ID ≤ 9223372036854775807 := l1593
 refine s_sr ?_
 refine at_one 2 rfl (fun ho1595 => ?_)
 refine at_hv rfl ?_
 refine hv_box (cs := [w1591]) rfl (cells_one ho1595) rfl (fun b1594 => ?_)
 refine at_hv rfl ?_
 refine hv_box (cs := [.int .i64 a1.ID, s1592]) rfl rfl rfl (fun b1596 => ?_)
 refine at_hv rfl ?_
 refine hv_alloc (cs := [.int .i64 0, (.slice none 0 0)]) ti25 rfl rfl (fun b1597 => ?_)
 refine s_as rfl (s_ntsr (at_lt (lt_load_box 2 rfl ti34 rfl rfl rfl rfl rfl) rfl (at_lt (lt_load_box 1 rfl ti25 rfl rfl rfl rfl rfl) rfl (at_lt (lt_makeFunc rfl) rfl ?_))))
 replace hr := obind hr
 obtain ⟨x1598, h1599, hr⟩ := hr
 refine at_freeze 2 rfl ?_
 refine at_fn 45 [.pointer (some (Addr.add ⟨b1594, 0, none⟩ 0))] [0, 3] (sp79 (fun y0 => m45 y0 a0)) en45 rfl (by rintro _ _ _ ⟨a0, r, h, rfl, rfl, rfl⟩; exact f45_spec h) ?_
 refine at_fn 47 [] [] (sp80 m47) en47 rfl (by rintro _ _ _ ⟨a0, a1, r, s1601, h, rfl, rfl, rfl⟩; exact f47_spec h) ?_
 refine at_derive [3, 4] (ty25.fact (⟨a1.ID, a1.Fields⟩ : D_api_Record) [.int .i64 a1.ID, s1592]) rfl (fun F w h => mk25 (x := (⟨a1.ID, a1.Fields⟩ : D_api_Record)) h) ?_
 refine at_hv rfl (hv_call0 [6, 0, 2, 1, 8] (f41_spec h1599) rfl rfl rfl rfl ?_)
 rintro _ _ ⟨s1600, rfl, rfl⟩
 refine at_open (A := Unit) 0 rfl (fun _ => True) (fun _ => [((Ty.int .i64).fact x1598.1.ID [.int .i64 x1598.1.ID]), ((Ty.slice ty69).fact x1598.1.Fields [s1600])]) (fun F w h => ⟨(), trivial, ex25 h⟩) (fun _ _ => ?_)
 refine at_inv 0 rfl (fun l1602 => ?_)
 replace l1602 : (-9223372036854775808) ≤ x1598.1.ID ∧ x1598.1.ID ≤ 9223372036854775807 := l1602
 refine at_inv 3 rfl (fun l1603 => ?_)
 replace l1603 : (-9223372036854775808) ≤ x1598.2 ∧ x1598.2 ≤ 9223372036854775807 := l1603
 refine at_lt (lt_extract rfl rfl) rfl (at_lt (lt_extract rfl rfl) rfl ?_)
 refine at_one 1 rfl (fun ho1604 => ?_)
 refine at_hv rfl (hv_store_box 0 (cs' := [.int .i64 x1598.1.ID, s1600]) rfl rfl ti25 rfl rfl rfl rfl (allc rfl (allc ho1604 rfl)) (s_as rfl (s_nt (at_ret ?_))))
 have hq := oinj hr
 clear hr
 subst hq
 refine at_derive [0, 1] (ty25.fact (⟨x1598.1.ID, x1598.1.Fields⟩ : D_api_Record) [.int .i64 x1598.1.ID, s1600]) rfl (fun F w h => mk25 (x := (⟨x1598.1.ID, x1598.1.Fields⟩ : D_api_Record)) h) ?_
 exact at_return (.tuple #[.agg #[.int .i64 x1598.1.ID, s1600], .int .i64 x1598.2]) [0, 4] hS Tryz.results16 (.cons (.cell 0 rfl ti25 rfl rfl rfl rfl) (.cons (.tmp rfl) .nil)) rfl rfl ⟨s1600, rfl, rfl⟩
def m84_l1 (a0 : D_api_Field) (a1 : D_api_Field) : Nat → Nat → Option (Fl Bool Unit)
  | 0, _ => none
  | k + 1, x1617 =>
    if x1617 < a0.Subs.length then
     (a0.Subs[x1617]?).bind fun x1622 =>
     (a1.Subs[x1617]?).bind fun x1626 =>
     if (decide (((x1622.Code.toNat : Int) : Int) = (x1626.Code.toNat : Int)) && decide (x1622.Value = x1626.Value)) = true then
      m84_l1 a0 a1 k (x1617 + 1)
     else
      some (Fl.ret false)
    else
     some (Fl.go ())
def m84 (a0 : D_api_Field) (a1 : D_api_Field) : Option Bool :=
  if a0.Tag = a1.Tag then
   if (decide (((a0.Ind_0.toNat : Int) : Int) = (a1.Ind_0.toNat : Int)) && decide (((a0.Ind_1.toNat : Int) : Int) = (a1.Ind_1.toNat : Int))) = true then
    if a0.Subs.length = a1.Subs.length then
     (m84_l1 a0 a1 (a0.Subs.length + 1) 0).bind fun r => match r with
     | .ret x => some x
     | .go _ =>
      some true
    else
     some false
   else
    some false
  else
   some false
def post84 (r : Bool) (v : Value) (fs : List Fact) : Prop := v = .bool r ∧ fs = []
theorem en84 : Enters Tryz.prog 84 := ⟨_, Tryz.func84, by kernel_rfl, rfl⟩
theorem f84_spec {a0 : D_api_Field} {a1 : D_api_Field} {s1606 : Value} {s1607 : Value} {r : Bool} (hr : m84 a0 a1 = some r) : Spec Tryz.prog 84 [.agg #[str a0.Tag, .int .u8 (a0.Ind_0.toNat : Int), .int .u8 (a0.Ind_1.toNat : Int), s1606], .agg #[str a1.Tag, .int .u8 (a1.Ind_0.toNat : Int), .int .u8 (a1.Ind_1.toNat : Int), s1607]] [(ty69.fact a0 [str a0.Tag, .int .u8 (a0.Ind_0.toNat : Int), .int .u8 (a0.Ind_1.toNat : Int), s1606]), (ty69.fact a1 [str a1.Tag, .int .u8 (a1.Ind_0.toNat : Int), .int .u8 (a1.Ind_1.toNat : Int), s1607])] (post84 r) := by
 refine spec_start (N := 45) Tryz.func84 (by kernel_rfl) rfl rfl rfl ?_
 intro g hS
 unfold m84 at hr
 refine at_open (A := Unit) 0 rfl (fun _ => True) (fun _ => [(Ty.str.fact a0.Tag [str a0.Tag]), ((Ty.slice ty66).fact a0.Subs [s1606])]) (fun F w h => ⟨(), trivial, ex69 h⟩) (fun _ _ => ?_)
 refine at_open (A := Unit) 3 rfl (fun _ => True) (fun _ => [(Ty.str.fact a1.Tag [str a1.Tag]), ((Ty.slice ty66).fact a1.Subs [s1607])]) (fun F w h => ⟨(), trivial, ex69 h⟩) (fun _ _ => ?_)
 refine s_sr (at_hv rfl ?_)
 refine hv_box (cs := [str a0.Tag, .int .u8 (a0.Ind_0.toNat : Int), .int .u8 (a0.Ind_1.toNat : Int), s1606]) rfl rfl rfl (fun b1608 => ?_)
 refine at_hv rfl ?_
 refine hv_box (cs := [str a1.Tag, .int .u8 (a1.Ind_0.toNat : Int), .int .u8 (a1.Ind_1.toNat : Int), s1607]) rfl rfl rfl (fun b1609 => ?_)
 refine s_as rfl (s_nt (at_seq (s_sr (at_lt (lt_fieldAddr 0 rfl fld69_0 rfl) rfl (at_lt (lt_load_box 1 rfl ti9 rfl rfl rfl rfl rfl) rfl (at_lt (lt_fieldAddr 0 rfl fld69_0 rfl) rfl (at_lt (lt_load_box 0 rfl ti9 rfl rfl rfl rfl rfl) rfl (at_lt (lt_sneq rfl rfl) rfl (s_mv rfl ?_)))))))))
 by_cases h1610 : a0.Tag = a1.Tag
 ·replace hr := ipos h1610 hr
  refine at_on rfl rfl (nt (decide_eq_true h1610)) (at_lt (lt_fieldAddr 1 rfl fld69_1 rfl) rfl (at_on rfl rfl (nt (decide_eq_true h1610)) (at_lt (lt_load_box 1 rfl ti64 rfl rfl rfl rfl rfl) rfl (at_on rfl rfl (nt (decide_eq_true h1610)) (at_lt (lt_fieldAddr 1 rfl fld69_1 rfl) rfl (at_on rfl rfl (nt (decide_eq_true h1610)) (at_lt (lt_load_box 0 rfl ti64 rfl rfl rfl rfl rfl) rfl (at_on rfl rfl (nt (decide_eq_true h1610)) (at_lt (lt_stne rfl rfl eg64 eqt64) rfl ?_)))))))))
  refine at_lt (lt_pick false rfl (nt (decide_eq_true h1610)) rfl) rfl (s_mv rfl ?_)
  by_cases h1611 : (decide (((a0.Ind_0.toNat : Int) : Int) = (a1.Ind_0.toNat : Int)) && decide (((a0.Ind_1.toNat : Int) : Int) = (a1.Ind_1.toNat : Int))) = true
  ·replace hr := ipos h1611 hr
   refine at_on rfl rfl (nt h1611) (at_lt (lt_fieldAddr 3 rfl fld69_2 rfl) rfl (at_on rfl rfl (nt h1611) (at_lt (lt_load_box 1 rfl ti67 rfl rfl rfl rfl rfl) rfl ?_)))
   refine at_inv 3 rfl (fun i1612 => ?_)
   have l1613 := slice_len i1612
   refine at_on rfl rfl (nt h1611) (at_lt (lt_flen 3 rfl rfl und67) rfl (at_on rfl rfl (nt h1611) (at_lt (lt_fieldAddr 3 rfl fld69_2 rfl) rfl (at_on rfl rfl (nt h1611) (at_lt (lt_load_box 0 rfl ti67 rfl rfl rfl rfl rfl) rfl ?_)))))
   refine at_inv 1 rfl (fun i1614 => ?_)
   have l1615 := slice_len i1614
   refine at_on rfl rfl (nt h1611) (at_lt (lt_flen 1 rfl rfl und67) rfl (at_on rfl rfl (nt h1611) (at_lt (lt_neq rfl rfl) rfl (at_lt (lt_pick false rfl (nt h1611) rfl) rfl (s_nt ?_)))))
   by_cases h1616 : a0.Subs.length = a1.Subs.length
   ·replace hr := ipos h1616 hr
    refine at_false rfl (nt (decide_eq_true (by omega))) ?_
    refine at_skip (at_then (at_seq (s_sr (s_as rfl (s_nt (at_int .i64 0 (by simp only [lo, hi]; omega) ?_))))))
    replace hr := obind hr
    obtain ⟨r1618, hl1619, hk1620⟩ := hr
    refine at_cutP (V := (Unit) × (Unit)) (fun v => r1618 = Fl.go v.1) (fun v => (⟨[], [], [], []⟩ : St)) ?_ ?_
    ·refine at_block ?_
     refine at_loopW (σ := Nat) (V := Unit) (r := r1618) (fun n s => m84_l1 a0 a1 n s) (fun s e => (⟨[(2, .pointer (some (Addr.add ⟨b1608, 0, none⟩ 0))), (3, .pointer (some (Addr.add ⟨b1609, 0, none⟩ 0))), (5, .int .i64 (s : Int))], [⟨b1609, [str a1.Tag, .int .u8 (a1.Ind_0.toNat : Int), .int .u8 (a1.Ind_1.toNat : Int), s1607], 69⟩, ⟨b1608, [str a0.Tag, .int .u8 (a0.Ind_0.toNat : Int), .int .u8 (a0.Ind_1.toNat : Int), s1606], 69⟩], [], [((Ty.int .i64).fact (s : Int) [.int .i64 (s : Int)]), (Ty.str.fact a1.Tag [str a1.Tag]), ((Ty.slice ty66).fact a1.Subs [s1607]), (Ty.str.fact a0.Tag [str a0.Tag]), ((Ty.slice ty66).fact a0.Subs [s1606])]⟩ : St)) (fun _ => rfl) _ 0 () hl1619 ⟨⟨rfl, ⟨rfl, ⟨rfl, trivial⟩⟩⟩, ⟨[true, true], rfl⟩, ⟨[], rfl⟩, ⟨[0, 1, 2, 3, 4], rfl⟩⟩ ?_
     clear hl1619
     intro n x1617 hr e
     skip
     skip
     change m84_l1 a0 a1 (n + 1) x1617 = some r1618 at hr
     change At _ _ (⟨[(2, .pointer (some (Addr.add ⟨b1608, 0, none⟩ 0))), (3, .pointer (some (Addr.add ⟨b1609, 0, none⟩ 0))), (5, .int .i64 (x1617 : Int))], [⟨b1609, [str a1.Tag, .int .u8 (a1.Ind_0.toNat : Int), .int .u8 (a1.Ind_1.toNat : Int), s1607], 69⟩, ⟨b1608, [str a0.Tag, .int .u8 (a0.Ind_0.toNat : Int), .int .u8 (a0.Ind_1.toNat : Int), s1606], 69⟩], [], [((Ty.int .i64).fact (x1617 : Int) [.int .i64 (x1617 : Int)]), (Ty.str.fact a1.Tag [str a1.Tag]), ((Ty.slice ty66).fact a1.Subs [s1607]), (Ty.str.fact a0.Tag [str a0.Tag]), ((Ty.slice ty66).fact a0.Subs [s1606])]⟩ : St) _
     rw [m84_l1] at hr
     refine at_seq (s_sr (s_mv rfl (at_lt (lt_fieldAddr 3 rfl fld69_2 rfl) rfl (at_lt (lt_load_box 1 rfl ti67 rfl rfl rfl rfl rfl) rfl (at_lt (lt_flen 4 rfl rfl und67) rfl (at_lt (lt_lss rfl rfl) rfl (s_nt ?_)))))))
     by_cases h1621 : x1617 < a0.Subs.length
     ·replace hr := ipos h1621 hr
      refine at_true rfl (decide_eq_true (by omega)) ?_
      refine at_skip (at_then (at_seq (at_block (at_seq ?_))))
      replace hr := obind hr
      obtain ⟨x1622, h1623, hr⟩ := hr
      have := (List.getElem?_eq_some_iff.1 h1623).1
      refine at_elem 4 rfl (nat_at' h1623) (fun p1624 ec pa1625 => ?_)
      refine at_open (A := Unit) 0 rfl _ _ (fun F w h => op66 h) ?_
      rintro _ rfl
      replace hr := obind hr
      obtain ⟨x1626, h1627, hr⟩ := hr
      have := (List.getElem?_eq_some_iff.1 h1627).1
      refine at_elem 5 rfl (nat_at' h1627) (fun p1628 ec pa1629 => ?_)
      refine at_open (A := Unit) 0 rfl _ _ (fun F w h => op66 h) ?_
      rintro _ rfl
      refine aa_start 11 (by kernel_rfl) ?_
      refine aa_p 0 rfl (lt_fieldAddr 3 rfl fld69_2 rfl) (aa_l 1 rfl (lt_load_box 1 rfl ti67 rfl rfl rfl rfl rfl) (aa_p 2 rfl (lt_move rfl) (aa_p 3 rfl (lt_idx rfl rfl pa1625 und67 ti66) (aa_l 4 rfl (lt_load_peek 5 rfl ti66 rfl rfl rfl rfl rfl) (aa_p 5 rfl (lt_fieldAddr 3 rfl fld69_2 rfl) (aa_l 6 rfl (lt_load_box 0 rfl ti67 rfl rfl rfl rfl rfl) (aa_p 7 rfl (lt_move rfl) (aa_p 8 rfl (lt_idx rfl rfl pa1629 und67 ti66) (aa_l 9 rfl (lt_load_peek 2 rfl ti66 rfl rfl rfl rfl rfl) ?_)))))))))
      refine aa_p 10 rfl (lt_stne rfl rfl eg66 eqt66) ?_
      refine aa_done (by kernel_rfl) (ts_in 0 0 rfl rfl) ?_
      refine at_then ?_
      by_cases h1630 : (decide (((x1622.Code.toNat : Int) : Int) = (x1626.Code.toNat : Int)) && decide (x1622.Value = x1626.Value)) = true
      ·replace hr := ipos h1630 hr
       refine at_false rfl (nt h1630) (at_skip (at_in (s_tr (s_mv rfl (at_lt (lt_add rfl rfl (by simp only [lo, hi]; omega)) rfl (s_as rfl (at_nil (at_int .i64 (x1617 + 1 : Int) (by simp only [lo, hi]; omega) ?_))))))))
       exact at_again (σ := Nat) (V := Unit) (lp := fun n s => m84_l1 a0 a1 n s) (S := fun s e => (⟨[(2, .pointer (some (Addr.add ⟨b1608, 0, none⟩ 0))), (3, .pointer (some (Addr.add ⟨b1609, 0, none⟩ 0))), (5, .int .i64 (s : Int))], [⟨b1609, [str a1.Tag, .int .u8 (a1.Ind_0.toNat : Int), .int .u8 (a1.Ind_1.toNat : Int), s1607], 69⟩, ⟨b1608, [str a0.Tag, .int .u8 (a0.Ind_0.toNat : Int), .int .u8 (a0.Ind_1.toNat : Int), s1606], 69⟩], [], [((Ty.int .i64).fact (s : Int) [.int .i64 (s : Int)]), (Ty.str.fact a1.Tag [str a1.Tag]), ((Ty.slice ty66).fact a1.Subs [s1607]), (Ty.str.fact a0.Tag [str a0.Tag]), ((Ty.slice ty66).fact a0.Subs [s1606])]⟩ : St)) (x1617 + 1) () hr ⟨⟨rfl, ⟨rfl, ⟨rfl, trivial⟩⟩⟩, ⟨[true, true], rfl⟩, ⟨[], rfl⟩, ⟨[0, 8, 9, 10, 11], rfl⟩⟩
      replace hr := ineg h1630 hr
      refine at_true rfl (nf (bf h1630)) (s_sr (s_as rfl (s_nt (at_ret ?_))))
      have hq := oinj hr
      clear hr
      subst hq
      have hq := oinj hk1620
      clear hk1620
      subst hq
      refine at_in_ret (at_then_ret (at_then_ret (at_in_ret (at_then_ret (at_then_ret ?_)))))
      exact at_return (.bool false) [] hS Tryz.results84 (.cons (.tmp rfl) .nil) rfl rfl ⟨rfl, rfl⟩
     replace hr := ineg h1621 hr
     refine at_false rfl (decide_eq_false (by omega)) ?_
     refine at_exit (at_then_exit (at_then_exit (at_in_exit ?_)))
     have hq := oinj hr
     clear hr
     subst hq
     exact at_leafP ((), ()) rfl ⟨trivial, ⟨[false, false], rfl⟩, ⟨[], rfl⟩, ⟨[], rfl⟩⟩
    rintro ⟨_, _⟩ hp
    replace hr := hk1620
    subst hp
    clear hl1619
    change At _ _ (⟨[], [], [], []⟩ : St) _
    refine s_tsr (s_as rfl (s_nt (at_ret ?_)))
    have hq := oinj hr
    clear hr
    subst hq
    exact at_return (.bool true) [] hS Tryz.results84 (.cons (.tmp rfl) .nil) rfl rfl ⟨rfl, rfl⟩
   replace hr := ineg h1616 hr
   refine at_true rfl (nf (decide_eq_false (by omega))) ?_
   refine s_sr (s_as rfl (s_nt (at_ret ?_)))
   have hq := oinj hr
   clear hr
   subst hq
   refine at_then_ret ?_
   exact at_return (.bool false) [] hS Tryz.results84 (.cons (.tmp rfl) .nil) rfl rfl ⟨rfl, rfl⟩
  replace hr := ineg h1611 hr
  refine at_off rfl rfl (nf (bf h1611)) rfl (at_off rfl rfl (nf (bf h1611)) rfl (at_off rfl rfl (nf (bf h1611)) rfl (at_off rfl rfl (nf (bf h1611)) rfl (at_off rfl rfl (nf (bf h1611)) rfl (at_off rfl rfl (nf (bf h1611)) rfl (at_off rfl rfl (nf (bf h1611)) rfl (at_lt (lt_pick true rfl (nf (bf h1611)) rfl) rfl (s_nt (at_true rfl rfl ?_)))))))))
  refine s_sr (s_as rfl (s_nt (at_ret ?_)))
  have hq := oinj hr
  clear hr
  subst hq
  refine at_then_ret ?_
  exact at_return (.bool false) [] hS Tryz.results84 (.cons (.tmp rfl) .nil) rfl rfl ⟨rfl, rfl⟩
 replace hr := ineg h1610 hr
 refine at_off rfl rfl (nf (decide_eq_false h1610)) rfl (at_off rfl rfl (nf (decide_eq_false h1610)) rfl (at_off rfl rfl (nf (decide_eq_false h1610)) rfl (at_off rfl rfl (nf (decide_eq_false h1610)) rfl (at_off rfl rfl (nf (decide_eq_false h1610)) rfl (at_lt (lt_pick true rfl (nf (decide_eq_false h1610)) rfl) rfl (s_mv rfl (at_off rfl rfl rfl rfl (at_off rfl rfl rfl rfl (at_off rfl rfl rfl rfl ?_)))))))))
 refine at_off rfl rfl rfl rfl (at_off rfl rfl rfl rfl (at_off rfl rfl rfl rfl (at_off rfl rfl rfl rfl (at_lt (lt_pick true rfl rfl rfl) rfl (s_nt (at_true rfl rfl (s_sr (s_as rfl (s_nt ?_)))))))))
 refine at_ret ?_
 have hq := oinj hr
 clear hr
 subst hq
 refine at_then_ret ?_
 exact at_return (.bool false) [] hS Tryz.results84 (.cons (.tmp rfl) .nil) rfl rfl ⟨rfl, rfl⟩
def m48_l1 (a0 : (List D_api_Field)) (a1 : (List D_api_Field)) : Nat → Nat → Option (Fl Bool Unit)
  | 0, _ => none
  | k + 1, x1638 =>
    if x1638 < a0.length then
     (a0[x1638]?).bind fun x1643 =>
     (a1[x1638]?).bind fun x1648 =>
     (m84 x1643 x1648).bind fun x1653 =>
     if x1653 = true then
      m48_l1 a0 a1 k (x1638 + 1)
     else
      some (Fl.ret false)
    else
     some (Fl.go ())
def m48 (a0 : (List D_api_Field)) (a1 : (List D_api_Field)) : Option Bool :=
  if a0.length = a1.length then
   (m48_l1 a0 a1 (a0.length + 1) 0).bind fun r => match r with
   | .ret x => some x
   | .go _ =>
    some true
  else
   some false
def post48 (r : Bool) (v : Value) (fs : List Fact) : Prop := v = .bool r ∧ fs = []
theorem en48 : Enters Tryz.prog 48 := ⟨_, Tryz.func48, by kernel_rfl, rfl⟩
theorem f48_spec {a0 : (List D_api_Field)} {a1 : (List D_api_Field)} {w1631 : Value} {w1632 : Value} {r : Bool} (hr : m48 a0 a1 = some r) : Spec Tryz.prog 48 [w1631, w1632] [((Ty.slice ty69).fact a0 [w1631]), ((Ty.slice ty69).fact a1 [w1632])] (post48 r) := by
 refine spec_start (N := 27) Tryz.func48 (by kernel_rfl) rfl rfl rfl ?_
 intro g hS
 unfold m48 at hr
 refine s_sr (s_as rfl (s_nt (at_seq (s_sr (s_mv rfl ?_)))))
 refine at_inv 0 rfl (fun i1633 => ?_)
 have l1634 := slice_len i1633
 refine at_lt (lt_flen 0 rfl rfl und23) rfl (s_mv rfl ?_)
 refine at_inv 1 rfl (fun i1635 => ?_)
 have l1636 := slice_len i1635
 refine at_lt (lt_flen 1 rfl rfl und23) rfl (at_lt (lt_neq rfl rfl) rfl (s_nt ?_))
 by_cases h1637 : a0.length = a1.length
 ·replace hr := ipos h1637 hr
  refine at_false rfl (nt (decide_eq_true (by omega))) ?_
  refine at_skip (at_then (at_seq (s_sr (s_as rfl (s_nt (at_int .i64 0 (by simp only [lo, hi]; omega) ?_))))))
  replace hr := obind hr
  obtain ⟨r1639, hl1640, hk1641⟩ := hr
  refine at_cutP (V := (Unit) × (Unit)) (fun v => r1639 = Fl.go v.1) (fun v => (⟨[], [], [], []⟩ : St)) ?_ ?_
  ·refine at_block ?_
   refine at_loopW (σ := Nat) (V := Unit) (r := r1639) (fun n s => m48_l1 a0 a1 n s) (fun s e => (⟨[(0, w1631), (1, w1632), (5, .int .i64 (s : Int))], [], [], [((Ty.int .i64).fact (s : Int) [.int .i64 (s : Int)]), ((Ty.slice ty69).fact a0 [w1631]), ((Ty.slice ty69).fact a1 [w1632])]⟩ : St)) (fun _ => rfl) _ 0 () hl1640 ⟨⟨rfl, ⟨rfl, ⟨rfl, trivial⟩⟩⟩, ⟨[], rfl⟩, ⟨[], rfl⟩, ⟨[0, 1, 2], rfl⟩⟩ ?_
   clear hl1640
   intro n x1638 hr e
   skip
   skip
   change m48_l1 a0 a1 (n + 1) x1638 = some r1639 at hr
   change At _ _ (⟨[(0, w1631), (1, w1632), (5, .int .i64 (x1638 : Int))], [], [], [((Ty.int .i64).fact (x1638 : Int) [.int .i64 (x1638 : Int)]), ((Ty.slice ty69).fact a0 [w1631]), ((Ty.slice ty69).fact a1 [w1632])]⟩ : St) _
   rw [m48_l1] at hr
   refine at_seq (s_sr (s_mv rfl (s_mv rfl (at_lt (lt_flen 1 rfl rfl und23) rfl (at_lt (lt_lss rfl rfl) rfl (s_nt ?_))))))
   by_cases h1642 : x1638 < a0.length
   ·replace hr := ipos h1642 hr
    refine at_true rfl (decide_eq_true (by omega)) ?_
    refine at_skip (at_then (at_seq (at_block (at_seq ?_))))
    replace hr := obind hr
    obtain ⟨x1643, h1644, hr⟩ := hr
    have := (List.getElem?_eq_some_iff.1 h1644).1
    refine at_elem 1 rfl (nat_at' h1644) (fun p1646 ec pa1647 => ?_)
    refine at_open (A := Value) 0 rfl _ _ (fun F w h => op69 h) ?_
    rintro s1645 rfl
    replace hr := obind hr
    obtain ⟨x1648, h1649, hr⟩ := hr
    have := (List.getElem?_eq_some_iff.1 h1649).1
    refine at_elem 6 rfl (nat_at' h1649) (fun p1651 ec pa1652 => ?_)
    refine at_open (A := Value) 0 rfl _ _ (fun F w h => op69 h) ?_
    rintro s1650 rfl
    replace hr := obind hr
    obtain ⟨x1653, h1654, hr⟩ := hr
    refine aa_start 10 (by kernel_rfl) ?_
    refine aa_p 0 rfl (lt_move rfl) (aa_p 1 rfl (lt_move rfl) (aa_p 2 rfl (lt_idx rfl rfl pa1647 und23 ti69) (aa_l 3 rfl (lt_load_peek 7 rfl ti69 rfl rfl rfl rfl rfl) (aa_p 4 rfl (lt_move rfl) (aa_p 5 rfl (lt_move rfl) (aa_p 6 rfl (lt_idx rfl rfl pa1652 und23 ti69) (aa_l 7 rfl (lt_load_peek 3 rfl ti69 rfl rfl rfl rfl rfl) (aa_one 8 (aa_op rfl rfl ?_)))))))))
    refine hv_call0 [6, 2] (f84_spec h1654) rfl rfl rfl rfl ?_
    rintro _ _ ⟨rfl, rfl⟩
    refine aa_p 9 rfl (lt_not rfl) ?_
    refine aa_done (by kernel_rfl) (ts_in 0 0 rfl rfl) ?_
    refine at_then ?_
    by_cases h1655 : x1653 = true
    ·replace hr := ipos h1655 hr
     refine at_false rfl (nt h1655) (at_skip (at_in (s_tr (s_mv rfl (at_lt (lt_add rfl rfl (by simp only [lo, hi]; omega)) rfl (s_as rfl (at_nil (at_int .i64 (x1638 + 1 : Int) (by simp only [lo, hi]; omega) ?_))))))))
     exact at_again (σ := Nat) (V := Unit) (lp := fun n s => m48_l1 a0 a1 n s) (S := fun s e => (⟨[(0, w1631), (1, w1632), (5, .int .i64 (s : Int))], [], [], [((Ty.int .i64).fact (s : Int) [.int .i64 (s : Int)]), ((Ty.slice ty69).fact a0 [w1631]), ((Ty.slice ty69).fact a1 [w1632])]⟩ : St)) (x1638 + 1) () hr ⟨⟨rfl, ⟨rfl, ⟨rfl, trivial⟩⟩⟩, ⟨[], rfl⟩, ⟨[], rfl⟩, ⟨[0, 10, 11], rfl⟩⟩
    replace hr := ineg h1655 hr
    refine at_true rfl (nf (bf h1655)) (s_sr (s_as rfl (s_nt (at_ret ?_))))
    have hq := oinj hr
    clear hr
    subst hq
    have hq := oinj hk1641
    clear hk1641
    subst hq
    refine at_in_ret (at_then_ret (at_then_ret (at_in_ret (at_then_ret (at_then_ret ?_)))))
    exact at_return (.bool false) [] hS Tryz.results48 (.cons (.tmp rfl) .nil) rfl rfl ⟨rfl, rfl⟩
   replace hr := ineg h1642 hr
   refine at_false rfl (decide_eq_false (by omega)) ?_
   refine at_exit (at_then_exit (at_then_exit (at_in_exit ?_)))
   have hq := oinj hr
   clear hr
   subst hq
   exact at_leafP ((), ()) rfl ⟨trivial, ⟨[], rfl⟩, ⟨[], rfl⟩, ⟨[], rfl⟩⟩
  rintro ⟨_, _⟩ hp
  replace hr := hk1641
  subst hp
  clear hl1640
  change At _ _ (⟨[], [], [], []⟩ : St) _
  refine s_tsr (s_as rfl (s_nt (at_ret ?_)))
  have hq := oinj hr
  clear hr
  subst hq
  exact at_return (.bool true) [] hS Tryz.results48 (.cons (.tmp rfl) .nil) rfl rfl ⟨rfl, rfl⟩
 replace hr := ineg h1637 hr
 refine at_true rfl (nf (decide_eq_false (by omega))) ?_
 refine s_sr (s_as rfl (s_nt (at_ret ?_)))
 have hq := oinj hr
 clear hr
 subst hq
 refine at_then_ret ?_
 exact at_return (.bool false) [] hS Tryz.results48 (.cons (.tmp rfl) .nil) rfl rfl ⟨rfl, rfl⟩
def m18 (a0 : D_api_Record) (a1 : D_api_Record) : Option Bool :=
  if a0.ID = a1.ID then
   (m48 a0.Fields a1.Fields).bind fun x1663 =>
   some x1663
  else
   some false
def post18 (r : Bool) (v : Value) (fs : List Fact) : Prop := v = .bool r ∧ fs = []
theorem en18 : Enters Tryz.prog 18 := ⟨_, Tryz.func18, by kernel_rfl, rfl⟩
theorem f18_spec {a0 : D_api_Record} {a1 : D_api_Record} {s1656 : Value} {s1657 : Value} {r : Bool} (hr : m18 a0 a1 = some r) : Spec Tryz.prog 18 [.agg #[.int .i64 a0.ID, s1656], .agg #[.int .i64 a1.ID, s1657]] [(ty25.fact a0 [.int .i64 a0.ID, s1656]), (ty25.fact a1 [.int .i64 a1.ID, s1657])] (post18 r) := by
 refine spec_start (N := 17) Tryz.func18 (by kernel_rfl) rfl rfl rfl ?_
 intro g hS
 unfold m18 at hr
 refine at_open (A := Unit) 0 rfl (fun _ => True) (fun _ => [((Ty.int .i64).fact a0.ID [.int .i64 a0.ID]), ((Ty.slice ty69).fact a0.Fields [s1656])]) (fun F w h => ⟨(), trivial, ex25 h⟩) (fun _ _ => ?_)
 refine at_inv 0 rfl (fun l1658 => ?_)
 replace l1658 : (-9223372036854775808) ≤ a0.ID ∧ a0.ID ≤ 9223372036854775807 := l1658
 refine at_open (A := Unit) 3 rfl (fun _ => True) (fun _ => [((Ty.int .i64).fact a1.ID [.int .i64 a1.ID]), ((Ty.slice ty69).fact a1.Fields [s1657])]) (fun F w h => ⟨(), trivial, ex25 h⟩) (fun _ _ => ?_)
 refine at_inv 0 rfl (fun l1659 => ?_)
 replace l1659 : (-9223372036854775808) ≤ a1.ID ∧ a1.ID ≤ 9223372036854775807 := l1659
 refine s_sr (at_hv rfl ?_)
 refine hv_box (cs := [.int .i64 a0.ID, s1656]) rfl rfl rfl (fun b1660 => ?_)
 refine at_hv rfl ?_
 refine hv_box (cs := [.int .i64 a1.ID, s1657]) rfl rfl rfl (fun b1661 => ?_)
 refine s_as rfl (s_ntsr (at_lt (lt_fieldAddr 0 rfl fld25_0 rfl) rfl (at_lt (lt_load_box 1 rfl ti3 rfl rfl rfl rfl rfl) rfl (at_lt (lt_fieldAddr 0 rfl fld25_0 rfl) rfl (at_lt (lt_load_box 0 rfl ti3 rfl rfl rfl rfl rfl) rfl (at_lt (lt_eql rfl rfl) rfl (s_mv rfl ?_)))))))
 by_cases h1662 : a0.ID = a1.ID
 ·replace hr := ipos h1662 hr
  refine at_on rfl rfl (decide_eq_true (by first | exact h1662 | omega)) ?_
  refine at_lt (lt_fieldAddr 1 rfl fld25_1 rfl) rfl ?_
  refine at_on rfl rfl (decide_eq_true (by first | exact h1662 | omega)) ?_
  refine at_lt (lt_load_box 1 rfl ti23 rfl rfl rfl rfl rfl) rfl ?_
  refine at_on rfl rfl (decide_eq_true (by first | exact h1662 | omega)) ?_
  refine at_lt (lt_fieldAddr 1 rfl fld25_1 rfl) rfl ?_
  refine at_on rfl rfl (decide_eq_true (by first | exact h1662 | omega)) ?_
  refine at_lt (lt_load_box 0 rfl ti23 rfl rfl rfl rfl rfl) rfl ?_
  replace hr := obind hr
  obtain ⟨x1663, h1664, hr⟩ := hr
  refine at_on rfl rfl (decide_eq_true (by first | exact h1662 | omega)) ?_
  refine at_hv rfl (hv_call0 [3, 1] (f48_spec h1664) rfl rfl rfl rfl ?_)
  rintro _ _ ⟨rfl, rfl⟩
  refine at_lt (lt_pick true rfl (decide_eq_true (by first | exact h1662 | omega)) rfl) rfl ?_
  refine s_as rfl (s_nt (at_ret ?_))
  have hq := oinj hr
  clear hr
  subst hq
  exact at_return (.bool x1663) [] hS Tryz.results18 (.cons (.tmp rfl) .nil) rfl rfl ⟨rfl, rfl⟩
 replace hr := ineg h1662 hr
 refine at_off rfl rfl (decide_eq_false (by first | exact h1662 | omega)) rfl ?_
 refine at_off rfl rfl (decide_eq_false (by first | exact h1662 | omega)) rfl ?_
 refine at_off rfl rfl (decide_eq_false (by first | exact h1662 | omega)) rfl ?_
 refine at_off rfl rfl (decide_eq_false (by first | exact h1662 | omega)) rfl ?_
 refine at_off rfl rfl (decide_eq_false (by first | exact h1662 | omega)) rfl ?_
 refine at_lt (lt_pick false rfl (decide_eq_false (by first | exact h1662 | omega)) rfl) rfl ?_
 refine s_as rfl (s_nt (at_ret ?_))
 have hq := oinj hr
 clear hr
 subst hq
 exact at_return (.bool false) [] hS Tryz.results18 (.cons (.tmp rfl) .nil) rfl rfl ⟨rfl, rfl⟩
def m21_l2 (a0 : (List D_ref16_Entry)) (a1 : (List D_ref16_Entry)) (x1672 : Nat) : Nat → Nat → Option (Fl (Fl Bool Unit) Unit)
  | 0, _ => none
  | k + 1, x1714 =>
    (a0[x1672]?).bind fun x1718 =>
    if x1714 < x1718.Codes.length then
     (a0[x1672]?).bind fun x1726 =>
     (x1726.Codes[x1714]?).bind fun x1731 =>
     (a1[x1672]?).bind fun x1735 =>
     (x1735.Codes[x1714]?).bind fun x1740 =>
     if (decide (((x1731.From.toNat : Int) : Int) = (x1740.From.toNat : Int)) && decide (((x1731.To.toNat : Int) : Int) = (x1740.To.toNat : Int))) = true then
      m21_l2 a0 a1 x1672 k (x1714 + 1)
     else
      some (Fl.ret (Fl.ret false))
    else
     some (Fl.go ())
def m21_l1 (a0 : (List D_ref16_Entry)) (a1 : (List D_ref16_Entry)) : Nat → Nat → Option (Fl Bool Unit)
  | 0, _ => none
  | k + 1, x1672 =>
    if x1672 < a0.length then
     (a0[x1672]?).bind fun x1677 =>
     (a1[x1672]?).bind fun x1682 =>
     if x1677.From = x1682.From then
      (a0[x1672]?).bind fun x1688 =>
      (a1[x1672]?).bind fun x1693 =>
      if x1688.To = x1693.To then
       (a0[x1672]?).bind fun x1699 =>
       (a1[x1672]?).bind fun x1706 =>
       if x1699.Codes.length = x1706.Codes.length then
        (m21_l2 a0 a1 x1672 9223372036854775808 0).bind fun r => match r with
        | .ret x => some x
        | .go _ =>
         m21_l1 a0 a1 k (x1672 + 1)
       else
        some (Fl.ret false)
      else
       some (Fl.ret false)
     else
      some (Fl.ret false)
    else
     some (Fl.go ())
def m21 (a0 : (List D_ref16_Entry)) (a1 : (List D_ref16_Entry)) : Option Bool :=
  if a0.length = a1.length then
   (m21_l1 a0 a1 (a0.length + 1) 0).bind fun r => match r with
   | .ret x => some x
   | .go _ =>
    some true
  else
   some false
def post21 (r : Bool) (v : Value) (fs : List Fact) : Prop := v = .bool r ∧ fs = []
theorem en21 : Enters Tryz.prog 21 := ⟨_, Tryz.func21, by kernel_rfl, rfl⟩
theorem f21_spec {a0 : (List D_ref16_Entry)} {a1 : (List D_ref16_Entry)} {w1665 : Value} {w1666 : Value} {r : Bool} (hr : m21 a0 a1 = some r) : Spec Tryz.prog 21 [w1665, w1666] [((Ty.slice ty50).fact a0 [w1665]), ((Ty.slice ty50).fact a1 [w1666])] (post21 r) := by
 refine spec_start (N := 84) Tryz.func21 (by kernel_rfl) rfl rfl rfl ?_
 intro g hS
 unfold m21 at hr
 refine s_sr (s_as rfl (s_nt (at_seq (s_sr (s_mv rfl ?_)))))
 refine at_inv 0 rfl (fun i1667 => ?_)
 have l1668 := slice_len i1667
 refine at_lt (lt_flen 0 rfl rfl und22) rfl (s_mv rfl ?_)
 refine at_inv 1 rfl (fun i1669 => ?_)
 have l1670 := slice_len i1669
 refine at_lt (lt_flen 1 rfl rfl und22) rfl (at_lt (lt_neq rfl rfl) rfl (s_nt ?_))
 by_cases h1671 : a0.length = a1.length
 ·replace hr := ipos h1671 hr
  refine at_false rfl (nt (decide_eq_true (by omega))) ?_
  refine at_skip (at_then (at_seq (s_sr (s_as rfl (s_nt (at_int .i64 0 (by simp only [lo, hi]; omega) ?_))))))
  replace hr := obind hr
  obtain ⟨r1673, hl1674, hk1675⟩ := hr
  refine at_cutP (V := (Unit) × (Unit)) (fun v => r1673 = Fl.go v.1) (fun v => (⟨[], [], [], []⟩ : St)) ?_ ?_
  ·refine at_block ?_
   refine at_loopW (σ := Nat) (V := Unit) (r := r1673) (fun n s => m21_l1 a0 a1 n s) (fun s e => (⟨[(0, w1665), (1, w1666), (5, .int .i64 (s : Int))], [], [], [((Ty.int .i64).fact (s : Int) [.int .i64 (s : Int)]), ((Ty.slice ty50).fact a0 [w1665]), ((Ty.slice ty50).fact a1 [w1666])]⟩ : St)) (fun _ => rfl) _ 0 () hl1674 ⟨⟨rfl, ⟨rfl, ⟨rfl, trivial⟩⟩⟩, ⟨[], rfl⟩, ⟨[], rfl⟩, ⟨[0, 1, 2], rfl⟩⟩ ?_
   clear hl1674
   intro n x1672 hr e
   skip
   skip
   change m21_l1 a0 a1 (n + 1) x1672 = some r1673 at hr
   change At _ _ (⟨[(0, w1665), (1, w1666), (5, .int .i64 (x1672 : Int))], [], [], [((Ty.int .i64).fact (x1672 : Int) [.int .i64 (x1672 : Int)]), ((Ty.slice ty50).fact a0 [w1665]), ((Ty.slice ty50).fact a1 [w1666])]⟩ : St) _
   rw [m21_l1] at hr
   refine at_seq (s_sr (s_mv rfl (s_mv rfl (at_lt (lt_flen 1 rfl rfl und22) rfl (at_lt (lt_lss rfl rfl) rfl (s_nt ?_))))))
   by_cases h1676 : x1672 < a0.length
   ·replace hr := ipos h1676 hr
    refine at_true rfl (decide_eq_true (by omega)) ?_
    refine at_skip (at_then (at_seq (at_block (at_seq (at_seq ?_)))))
    replace hr := obind hr
    obtain ⟨x1677, h1678, hr⟩ := hr
    have := (List.getElem?_eq_some_iff.1 h1678).1
    refine at_elem 1 rfl (nat_at' h1678) (fun p1680 ec pa1681 => ?_)
    refine at_open (A := Value) 0 rfl _ _ (fun F w h => op50 h) ?_
    rintro s1679 rfl
    replace hr := obind hr
    obtain ⟨x1682, h1683, hr⟩ := hr
    have := (List.getElem?_eq_some_iff.1 h1683).1
    refine at_elem 7 rfl (nat_at' h1683) (fun p1685 ec pa1686 => ?_)
    refine at_open (A := Value) 0 rfl _ _ (fun F w h => op50 h) ?_
    rintro s1684 rfl
    by_cases h1687 : x1677.From = x1682.From
    ·replace hr := ipos h1687 hr
     replace hr := obind hr
     obtain ⟨x1688, h1689, hr⟩ := hr
     have := (List.getElem?_eq_some_iff.1 h1689).1
     refine at_elem 11 rfl (nat_at' h1689) (fun p1691 ec pa1692 => ?_)
     refine at_open (A := Value) 0 rfl _ _ (fun F w h => op50 h) ?_
     rintro s1690 rfl
     replace hr := obind hr
     obtain ⟨x1693, h1694, hr⟩ := hr
     have := (List.getElem?_eq_some_iff.1 h1694).1
     refine at_elem 17 rfl (nat_at' h1694) (fun p1696 ec pa1697 => ?_)
     refine at_open (A := Value) 0 rfl _ _ (fun F w h => op50 h) ?_
     rintro s1695 rfl
     by_cases h1698 : x1688.To = x1693.To
     ·replace hr := ipos h1698 hr
      replace hr := obind hr
      obtain ⟨x1699, h1700, hr⟩ := hr
      have := (List.getElem?_eq_some_iff.1 h1700).1
      refine at_elem 21 rfl (nat_at' h1700) (fun p1702 ec pa1703 => ?_)
      refine at_open (A := Value) 0 rfl _ _ (fun F w h => op50 h) ?_
      rintro s1701 rfl
      refine at_inv 2 rfl (fun i1704 => ?_)
      have l1705 := slice_len i1704
      replace hr := obind hr
      obtain ⟨x1706, h1707, hr⟩ := hr
      have := (List.getElem?_eq_some_iff.1 h1707).1
      refine at_elem 27 rfl (nat_at' h1707) (fun p1709 ec pa1710 => ?_)
      refine at_open (A := Value) 0 rfl _ _ (fun F w h => op50 h) ?_
      rintro s1708 rfl
      refine at_inv 2 rfl (fun i1711 => ?_)
      have l1712 := slice_len i1711
      refine aa_start 39 (by kernel_rfl) ?_
      refine aa_p 0 rfl (lt_move rfl) (aa_p 1 rfl (lt_move rfl) (aa_p 2 rfl (lt_idx rfl rfl pa1681 und22 ti50) (aa_p 3 rfl (lt_fieldAddr 0 rfl fld50_0 rfl) (aa_l 4 rfl (lt_load_peek 29 rfl ti9 rfl rfl rfl rfl rfl) (aa_p 5 rfl (lt_move rfl) (aa_p 6 rfl (lt_move rfl) (aa_p 7 rfl (lt_idx rfl rfl pa1686 und22 ti50) (aa_p 8 rfl (lt_fieldAddr 0 rfl fld50_0 rfl) (aa_l 9 rfl (lt_load_peek 24 rfl ti9 rfl rfl rfl rfl rfl) ?_)))))))))
      refine aa_p 10 rfl (lt_sneq rfl rfl) (aa_p 11 rfl (lt_move rfl) ?_)
      refine aa_pg 12 rfl ⟨29, rfl, .inl ⟨_, rfl, gdq (v := false) (nt (decide_eq_true h1687)) rfl⟩⟩ (lt_move rfl) ?_
      refine aa_pg 13 rfl ⟨29, rfl, .inl ⟨_, rfl, gdq (v := false) (nt (decide_eq_true h1687)) rfl⟩⟩ (lt_move rfl) ?_
      refine aa_pg 14 rfl ⟨29, rfl, .inl ⟨_, rfl, gdq (v := false) (nt (decide_eq_true h1687)) rfl⟩⟩ (lt_idx rfl rfl pa1692 und22 ti50) ?_
      refine aa_pg 15 rfl ⟨29, rfl, .inl ⟨_, rfl, gdq (v := false) (nt (decide_eq_true h1687)) rfl⟩⟩ (lt_fieldAddr 1 rfl fld50_1 rfl) ?_
      refine aa_lg 16 rfl ⟨29, rfl, .inl ⟨_, rfl, gdq (v := false) (nt (decide_eq_true h1687)) rfl⟩⟩ (lt_load_peek 19 rfl ti9 rfl rfl rfl rfl rfl) ?_
      refine aa_pg 17 rfl ⟨29, rfl, .inl ⟨_, rfl, gdq (v := false) (nt (decide_eq_true h1687)) rfl⟩⟩ (lt_move rfl) ?_
      refine aa_pg 18 rfl ⟨29, rfl, .inl ⟨_, rfl, gdq (v := false) (nt (decide_eq_true h1687)) rfl⟩⟩ (lt_move rfl) ?_
      refine aa_pg 19 rfl ⟨29, rfl, .inl ⟨_, rfl, gdq (v := false) (nt (decide_eq_true h1687)) rfl⟩⟩ (lt_idx rfl rfl pa1697 und22 ti50) ?_
      refine aa_pg 20 rfl ⟨29, rfl, .inl ⟨_, rfl, gdq (v := false) (nt (decide_eq_true h1687)) rfl⟩⟩ (lt_fieldAddr 1 rfl fld50_1 rfl) ?_
      refine aa_lg 21 rfl ⟨29, rfl, .inl ⟨_, rfl, gdq (v := false) (nt (decide_eq_true h1687)) rfl⟩⟩ (lt_load_peek 14 rfl ti9 rfl rfl rfl rfl rfl) ?_
      refine aa_pg 22 rfl ⟨29, rfl, .inl ⟨_, rfl, gdq (v := false) (nt (decide_eq_true h1687)) rfl⟩⟩ (lt_sneq rfl rfl) ?_
      refine aa_p 23 rfl (lt_pick false rfl (nt (decide_eq_true h1687)) rfl) (aa_p 24 rfl (lt_move rfl) ?_)
      refine aa_pg 25 rfl ⟨42, rfl, .inl ⟨_, rfl, gdq (v := false) (nt (decide_eq_true h1698)) rfl⟩⟩ (lt_move rfl) ?_
      refine aa_pg 26 rfl ⟨42, rfl, .inl ⟨_, rfl, gdq (v := false) (nt (decide_eq_true h1698)) rfl⟩⟩ (lt_move rfl) ?_
      refine aa_pg 27 rfl ⟨42, rfl, .inl ⟨_, rfl, gdq (v := false) (nt (decide_eq_true h1698)) rfl⟩⟩ (lt_idx rfl rfl pa1703 und22 ti50) ?_
      refine aa_pg 28 rfl ⟨42, rfl, .inl ⟨_, rfl, gdq (v := false) (nt (decide_eq_true h1698)) rfl⟩⟩ (lt_fieldAddr 2 rfl fld50_2 rfl) ?_
      refine aa_lg 29 rfl ⟨42, rfl, .inl ⟨_, rfl, gdq (v := false) (nt (decide_eq_true h1698)) rfl⟩⟩ (lt_load_peek 9 rfl ti48 rfl rfl rfl rfl rfl) ?_
      refine aa_lg 30 rfl ⟨42, rfl, .inl ⟨_, rfl, gdq (v := false) (nt (decide_eq_true h1698)) rfl⟩⟩ (lt_flen 7 rfl rfl und48) ?_
      refine aa_pg 31 rfl ⟨42, rfl, .inl ⟨_, rfl, gdq (v := false) (nt (decide_eq_true h1698)) rfl⟩⟩ (lt_move rfl) ?_
      refine aa_pg 32 rfl ⟨42, rfl, .inl ⟨_, rfl, gdq (v := false) (nt (decide_eq_true h1698)) rfl⟩⟩ (lt_move rfl) ?_
      refine aa_pg 33 rfl ⟨42, rfl, .inl ⟨_, rfl, gdq (v := false) (nt (decide_eq_true h1698)) rfl⟩⟩ (lt_idx rfl rfl pa1710 und22 ti50) ?_
      refine aa_pg 34 rfl ⟨42, rfl, .inl ⟨_, rfl, gdq (v := false) (nt (decide_eq_true h1698)) rfl⟩⟩ (lt_fieldAddr 2 rfl fld50_2 rfl) ?_
      refine aa_lg 35 rfl ⟨42, rfl, .inl ⟨_, rfl, gdq (v := false) (nt (decide_eq_true h1698)) rfl⟩⟩ (lt_load_peek 4 rfl ti48 rfl rfl rfl rfl rfl) ?_
      refine aa_lg 36 rfl ⟨42, rfl, .inl ⟨_, rfl, gdq (v := false) (nt (decide_eq_true h1698)) rfl⟩⟩ (lt_flen 2 rfl rfl und48) ?_
      refine aa_pg 37 rfl ⟨42, rfl, .inl ⟨_, rfl, gdq (v := false) (nt (decide_eq_true h1698)) rfl⟩⟩ (lt_neq rfl rfl) ?_
      refine aa_p 38 rfl (lt_pick false rfl (nt (decide_eq_true h1698)) rfl) ?_
      refine aa_done (by kernel_rfl) (ts_in 0 0 rfl rfl) ?_
      refine at_then ?_
      by_cases h1713 : x1699.Codes.length = x1706.Codes.length
      ·replace hr := ipos h1713 hr
       refine at_false rfl (nt (decide_eq_true (by omega))) ?_
       refine at_skip (s_tsr (s_as rfl (s_nt (at_int .i64 0 (by simp only [lo, hi]; omega) ?_))))
       replace hr := obind hr
       obtain ⟨r1715, hl1716, hk1717⟩ := hr
       refine at_cutP (V := (Unit) × (Unit)) (fun v => r1715 = Fl.go v.1) (fun v => (⟨[(0, w1665), (1, w1666), (5, .int .i64 (x1672 : Int))], [], [], [((Ty.slice ty50).fact a0 [w1665]), ((Ty.slice ty50).fact a1 [w1666]), ((Ty.int .i64).fact (x1672 : Int) [.int .i64 (x1672 : Int)])]⟩ : St)) ?_ ?_
       ·refine at_block ?_
        refine at_loopW (σ := Nat) (V := Unit) (r := r1715) (fun n s => m21_l2 a0 a1 x1672 n s) (fun s e => (⟨[(0, w1665), (1, w1666), (5, .int .i64 (x1672 : Int)), (6, .int .i64 (s : Int))], [], [], [((Ty.int .i64).fact (s : Int) [.int .i64 (s : Int)]), ((Ty.slice ty50).fact a0 [w1665]), ((Ty.slice ty50).fact a1 [w1666]), ((Ty.int .i64).fact (x1672 : Int) [.int .i64 (x1672 : Int)])]⟩ : St)) (fun _ => rfl) _ 0 () hl1716 ⟨⟨rfl, ⟨rfl, ⟨rfl, ⟨rfl, trivial⟩⟩⟩⟩, ⟨[], rfl⟩, ⟨[], rfl⟩, ⟨[0, 32, 33, 31], rfl⟩⟩ ?_
        clear hl1716
        intro n x1714 hr e
        skip
        skip
        change m21_l2 a0 a1 x1672 (n + 1) x1714 = some r1715 at hr
        change At _ _ (⟨[(0, w1665), (1, w1666), (5, .int .i64 (x1672 : Int)), (6, .int .i64 (x1714 : Int))], [], [], [((Ty.int .i64).fact (x1714 : Int) [.int .i64 (x1714 : Int)]), ((Ty.slice ty50).fact a0 [w1665]), ((Ty.slice ty50).fact a1 [w1666]), ((Ty.int .i64).fact (x1672 : Int) [.int .i64 (x1672 : Int)])]⟩ : St) _
        rw [m21_l2] at hr
        refine at_seq (s_sr (s_mv rfl (s_mv rfl (s_mv rfl ?_))))
        replace hr := obind hr
        obtain ⟨x1718, h1719, hr⟩ := hr
        have := (List.getElem?_eq_some_iff.1 h1719).1
        refine at_elem 1 rfl (nat_at' h1719) (fun p1721 ec pa1722 => ?_)
        refine at_open (A := Value) 0 rfl _ _ (fun F w h => op50 h) ?_
        rintro s1720 rfl
        refine at_lt (lt_idx rfl rfl pa1722 und22 ti50) rfl (at_lt (lt_fieldAddr 2 rfl fld50_2 rfl) rfl (at_lt (lt_load_peek 4 rfl ti48 rfl rfl rfl rfl rfl) rfl ?_))
        refine at_inv 2 rfl (fun i1723 => ?_)
        have l1724 := slice_len i1723
        refine at_lt (lt_flen 2 rfl rfl und48) rfl (at_lt (lt_lss rfl rfl) rfl (s_nt ?_))
        by_cases h1725 : x1714 < x1718.Codes.length
        ·replace hr := ipos h1725 hr
         refine at_true rfl (decide_eq_true (by omega)) ?_
         refine at_skip (at_then (at_seq (at_block (at_seq ?_))))
         replace hr := obind hr
         obtain ⟨x1726, h1727, hr⟩ := hr
         have := (List.getElem?_eq_some_iff.1 h1727).1
         refine at_elem 6 rfl (nat_at' h1727) (fun p1729 ec pa1730 => ?_)
         refine at_open (A := Value) 0 rfl _ _ (fun F w h => op50 h) ?_
         rintro s1728 rfl
         replace hr := obind hr
         obtain ⟨x1731, h1732, hr⟩ := hr
         have := (List.getElem?_eq_some_iff.1 h1732).1
         refine at_elem 2 rfl (nat_at' h1732) (fun p1733 ec pa1734 => ?_)
         refine at_open (A := Unit) 0 rfl _ _ (fun F w h => op83 h) ?_
         rintro _ rfl
         replace hr := obind hr
         obtain ⟨x1735, h1736, hr⟩ := hr
         have := (List.getElem?_eq_some_iff.1 h1736).1
         refine at_elem 14 rfl (nat_at' h1736) (fun p1738 ec pa1739 => ?_)
         refine at_open (A := Value) 0 rfl _ _ (fun F w h => op50 h) ?_
         rintro s1737 rfl
         replace hr := obind hr
         obtain ⟨x1740, h1741, hr⟩ := hr
         have := (List.getElem?_eq_some_iff.1 h1741).1
         refine at_elem 2 rfl (nat_at' h1741) (fun p1742 ec pa1743 => ?_)
         refine at_open (A := Unit) 0 rfl _ _ (fun F w h => op83 h) ?_
         rintro _ rfl
         refine aa_start 17 (by kernel_rfl) ?_
         refine aa_p 0 rfl (lt_move rfl) (aa_p 1 rfl (lt_move rfl) (aa_p 2 rfl (lt_idx rfl rfl pa1730 und22 ti50) (aa_p 3 rfl (lt_fieldAddr 2 rfl fld50_2 rfl) (aa_l 4 rfl (lt_load_peek 13 rfl ti48 rfl rfl rfl rfl rfl) (aa_p 5 rfl (lt_move rfl) (aa_p 6 rfl (lt_idx rfl rfl pa1734 und48 ti83) (aa_l 7 rfl (lt_load_peek 8 rfl ti83 rfl rfl rfl rfl rfl) (aa_p 8 rfl (lt_move rfl) (aa_p 9 rfl (lt_move rfl) ?_)))))))))
         refine aa_p 10 rfl (lt_idx rfl rfl pa1739 und22 ti50) (aa_p 11 rfl (lt_fieldAddr 2 rfl fld50_2 rfl) (aa_l 12 rfl (lt_load_peek 6 rfl ti48 rfl rfl rfl rfl rfl) (aa_p 13 rfl (lt_move rfl) (aa_p 14 rfl (lt_idx rfl rfl pa1743 und48 ti83) (aa_l 15 rfl (lt_load_peek 1 rfl ti83 rfl rfl rfl rfl rfl) (aa_p 16 rfl (lt_stne rfl rfl eg83 eqt83) ?_))))))
         refine aa_done (by kernel_rfl) (ts_in 0 0 rfl rfl) ?_
         refine at_then ?_
         by_cases h1744 : (decide (((x1731.From.toNat : Int) : Int) = (x1740.From.toNat : Int)) && decide (((x1731.To.toNat : Int) : Int) = (x1740.To.toNat : Int))) = true
         ·replace hr := ipos h1744 hr
          refine at_false rfl (nt h1744) (at_skip (at_in (s_tr (s_mv rfl (at_lt (lt_add rfl rfl (by simp only [lo, hi]; omega)) rfl (s_as rfl (at_nil (at_int .i64 (x1714 + 1 : Int) (by simp only [lo, hi]; omega) ?_))))))))
          exact at_again (σ := Nat) (V := Unit) (lp := fun n s => m21_l2 a0 a1 x1672 n s) (S := fun s e => (⟨[(0, w1665), (1, w1666), (5, .int .i64 (x1672 : Int)), (6, .int .i64 (s : Int))], [], [], [((Ty.int .i64).fact (s : Int) [.int .i64 (s : Int)]), ((Ty.slice ty50).fact a0 [w1665]), ((Ty.slice ty50).fact a1 [w1666]), ((Ty.int .i64).fact (x1672 : Int) [.int .i64 (x1672 : Int)])]⟩ : St)) (x1714 + 1) () hr ⟨⟨rfl, ⟨rfl, ⟨rfl, ⟨rfl, trivial⟩⟩⟩⟩, ⟨[], rfl⟩, ⟨[], rfl⟩, ⟨[0, 21, 22, 23], rfl⟩⟩
         replace hr := ineg h1744 hr
         refine at_true rfl (nf (bf h1744)) (s_sr (s_as rfl (s_nt (at_ret ?_))))
         have hq := oinj hr
         clear hr
         subst hq
         have hq := oinj hk1717
         clear hk1717
         subst hq
         have hq := oinj hk1675
         clear hk1675
         subst hq
         refine at_in_ret (at_then_ret (at_then_ret (at_in_ret (at_then_ret (at_in_ret (at_then_ret (at_then_ret (at_in_ret (at_then_ret ?_)))))))))
         refine at_then_ret ?_
         exact at_return (.bool false) [] hS Tryz.results21 (.cons (.tmp rfl) .nil) rfl rfl ⟨rfl, rfl⟩
        replace hr := ineg h1725 hr
        refine at_false rfl (decide_eq_false (by omega)) ?_
        refine at_exit (at_then_exit (at_then_exit (at_in_exit ?_)))
        have hq := oinj hr
        clear hr
        subst hq
        exact at_leafP ((), ()) rfl ⟨⟨rfl, ⟨rfl, ⟨rfl, trivial⟩⟩⟩, ⟨[], rfl⟩, ⟨[], rfl⟩, ⟨[6, 7, 8], rfl⟩⟩
       rintro ⟨_, _⟩ hp
       replace hr := hk1717
       subst hp
       clear hl1716
       change At _ _ (⟨[(0, w1665), (1, w1666), (5, .int .i64 (x1672 : Int))], [], [], [((Ty.slice ty50).fact a0 [w1665]), ((Ty.slice ty50).fact a1 [w1666]), ((Ty.int .i64).fact (x1672 : Int) [.int .i64 (x1672 : Int)])]⟩ : St) _
       refine at_in (s_tr (s_mv rfl (at_lt (lt_add rfl rfl (by simp only [lo, hi]; omega)) rfl (s_as rfl (at_nil (at_int .i64 (x1672 + 1 : Int) (by simp only [lo, hi]; omega) ?_))))))
       exact at_again (σ := Nat) (V := Unit) (lp := fun n s => m21_l1 a0 a1 n s) (S := fun s e => (⟨[(0, w1665), (1, w1666), (5, .int .i64 (s : Int))], [], [], [((Ty.int .i64).fact (s : Int) [.int .i64 (s : Int)]), ((Ty.slice ty50).fact a0 [w1665]), ((Ty.slice ty50).fact a1 [w1666])]⟩ : St)) (x1672 + 1) () hr ⟨⟨rfl, ⟨rfl, ⟨rfl, trivial⟩⟩⟩, ⟨[], rfl⟩, ⟨[], rfl⟩, ⟨[0, 1, 2], rfl⟩⟩
      replace hr := ineg h1713 hr
      refine at_true rfl (nf (decide_eq_false (by omega))) ?_
      refine s_sr (s_as rfl (s_nt (at_ret ?_)))
      have hq := oinj hr
      clear hr
      subst hq
      have hq := oinj hk1675
      clear hk1675
      subst hq
      refine at_then_ret (at_in_ret (at_then_ret (at_then_ret (at_in_ret (at_then_ret (at_then_ret ?_))))))
      exact at_return (.bool false) [] hS Tryz.results21 (.cons (.tmp rfl) .nil) rfl rfl ⟨rfl, rfl⟩
     replace hr := ineg h1698 hr
     refine aa_start 39 (by kernel_rfl) ?_
     refine aa_p 0 rfl (lt_move rfl) (aa_p 1 rfl (lt_move rfl) (aa_p 2 rfl (lt_idx rfl rfl pa1681 und22 ti50) (aa_p 3 rfl (lt_fieldAddr 0 rfl fld50_0 rfl) (aa_l 4 rfl (lt_load_peek 19 rfl ti9 rfl rfl rfl rfl rfl) (aa_p 5 rfl (lt_move rfl) (aa_p 6 rfl (lt_move rfl) (aa_p 7 rfl (lt_idx rfl rfl pa1686 und22 ti50) (aa_p 8 rfl (lt_fieldAddr 0 rfl fld50_0 rfl) (aa_l 9 rfl (lt_load_peek 14 rfl ti9 rfl rfl rfl rfl rfl) ?_)))))))))
     refine aa_p 10 rfl (lt_sneq rfl rfl) (aa_p 11 rfl (lt_move rfl) ?_)
     refine aa_pg 12 rfl ⟨29, rfl, .inl ⟨_, rfl, gdq (v := false) (nt (decide_eq_true h1687)) rfl⟩⟩ (lt_move rfl) ?_
     refine aa_pg 13 rfl ⟨29, rfl, .inl ⟨_, rfl, gdq (v := false) (nt (decide_eq_true h1687)) rfl⟩⟩ (lt_move rfl) ?_
     refine aa_pg 14 rfl ⟨29, rfl, .inl ⟨_, rfl, gdq (v := false) (nt (decide_eq_true h1687)) rfl⟩⟩ (lt_idx rfl rfl pa1692 und22 ti50) ?_
     refine aa_pg 15 rfl ⟨29, rfl, .inl ⟨_, rfl, gdq (v := false) (nt (decide_eq_true h1687)) rfl⟩⟩ (lt_fieldAddr 1 rfl fld50_1 rfl) ?_
     refine aa_lg 16 rfl ⟨29, rfl, .inl ⟨_, rfl, gdq (v := false) (nt (decide_eq_true h1687)) rfl⟩⟩ (lt_load_peek 9 rfl ti9 rfl rfl rfl rfl rfl) ?_
     refine aa_pg 17 rfl ⟨29, rfl, .inl ⟨_, rfl, gdq (v := false) (nt (decide_eq_true h1687)) rfl⟩⟩ (lt_move rfl) ?_
     refine aa_pg 18 rfl ⟨29, rfl, .inl ⟨_, rfl, gdq (v := false) (nt (decide_eq_true h1687)) rfl⟩⟩ (lt_move rfl) ?_
     refine aa_pg 19 rfl ⟨29, rfl, .inl ⟨_, rfl, gdq (v := false) (nt (decide_eq_true h1687)) rfl⟩⟩ (lt_idx rfl rfl pa1697 und22 ti50) ?_
     refine aa_pg 20 rfl ⟨29, rfl, .inl ⟨_, rfl, gdq (v := false) (nt (decide_eq_true h1687)) rfl⟩⟩ (lt_fieldAddr 1 rfl fld50_1 rfl) ?_
     refine aa_lg 21 rfl ⟨29, rfl, .inl ⟨_, rfl, gdq (v := false) (nt (decide_eq_true h1687)) rfl⟩⟩ (lt_load_peek 4 rfl ti9 rfl rfl rfl rfl rfl) ?_
     refine aa_pg 22 rfl ⟨29, rfl, .inl ⟨_, rfl, gdq (v := false) (nt (decide_eq_true h1687)) rfl⟩⟩ (lt_sneq rfl rfl) ?_
     refine aa_p 23 rfl (lt_pick false rfl (nt (decide_eq_true h1687)) rfl) (aa_p 24 rfl (lt_move rfl) ?_)
     refine aa_o 25 rfl ⟨42, rfl, .inl ⟨_, rfl, gdq (v := true) (nf (decide_eq_false h1698)) rfl⟩⟩ ?_
     refine aa_o 26 rfl ⟨42, rfl, .inl ⟨_, rfl, gdq (v := true) (nf (decide_eq_false h1698)) rfl⟩⟩ ?_
     refine aa_o 27 rfl ⟨42, rfl, .inl ⟨_, rfl, gdq (v := true) (nf (decide_eq_false h1698)) rfl⟩⟩ ?_
     refine aa_o 28 rfl ⟨42, rfl, .inl ⟨_, rfl, gdq (v := true) (nf (decide_eq_false h1698)) rfl⟩⟩ ?_
     refine aa_o 29 rfl ⟨42, rfl, .inl ⟨_, rfl, gdq (v := true) (nf (decide_eq_false h1698)) rfl⟩⟩ ?_
     refine aa_o 30 rfl ⟨42, rfl, .inl ⟨_, rfl, gdq (v := true) (nf (decide_eq_false h1698)) rfl⟩⟩ ?_
     refine aa_o 31 rfl ⟨42, rfl, .inl ⟨_, rfl, gdq (v := true) (nf (decide_eq_false h1698)) rfl⟩⟩ ?_
     refine aa_o 32 rfl ⟨42, rfl, .inl ⟨_, rfl, gdq (v := true) (nf (decide_eq_false h1698)) rfl⟩⟩ ?_
     refine aa_o 33 rfl ⟨42, rfl, .inl ⟨_, rfl, gdq (v := true) (nf (decide_eq_false h1698)) rfl⟩⟩ ?_
     refine aa_o 34 rfl ⟨42, rfl, .inl ⟨_, rfl, gdq (v := true) (nf (decide_eq_false h1698)) rfl⟩⟩ ?_
     refine aa_o 35 rfl ⟨42, rfl, .inl ⟨_, rfl, gdq (v := true) (nf (decide_eq_false h1698)) rfl⟩⟩ ?_
     refine aa_o 36 rfl ⟨42, rfl, .inl ⟨_, rfl, gdq (v := true) (nf (decide_eq_false h1698)) rfl⟩⟩ ?_
     refine aa_o 37 rfl ⟨42, rfl, .inl ⟨_, rfl, gdq (v := true) (nf (decide_eq_false h1698)) rfl⟩⟩ ?_
     refine aa_p 38 rfl (lt_pick true rfl (nf (decide_eq_false h1698)) rfl) ?_
     refine aa_done (by kernel_rfl) (ts_in 0 0 rfl rfl) ?_
     refine at_then (at_true rfl rfl (s_sr (s_as rfl (s_nt (at_ret ?_)))))
     have hq := oinj hr
     clear hr
     subst hq
     have hq := oinj hk1675
     clear hk1675
     subst hq
     refine at_then_ret (at_in_ret (at_then_ret (at_then_ret (at_in_ret (at_then_ret (at_then_ret ?_))))))
     exact at_return (.bool false) [] hS Tryz.results21 (.cons (.tmp rfl) .nil) rfl rfl ⟨rfl, rfl⟩
    replace hr := ineg h1687 hr
    refine aa_start 39 (by kernel_rfl) ?_
    refine aa_p 0 rfl (lt_move rfl) (aa_p 1 rfl (lt_move rfl) (aa_p 2 rfl (lt_idx rfl rfl pa1681 und22 ti50) (aa_p 3 rfl (lt_fieldAddr 0 rfl fld50_0 rfl) (aa_l 4 rfl (lt_load_peek 9 rfl ti9 rfl rfl rfl rfl rfl) (aa_p 5 rfl (lt_move rfl) (aa_p 6 rfl (lt_move rfl) (aa_p 7 rfl (lt_idx rfl rfl pa1686 und22 ti50) (aa_p 8 rfl (lt_fieldAddr 0 rfl fld50_0 rfl) (aa_l 9 rfl (lt_load_peek 4 rfl ti9 rfl rfl rfl rfl rfl) ?_)))))))))
    refine aa_p 10 rfl (lt_sneq rfl rfl) (aa_p 11 rfl (lt_move rfl) ?_)
    refine aa_o 12 rfl ⟨29, rfl, .inl ⟨_, rfl, gdq (v := true) (nf (decide_eq_false h1687)) rfl⟩⟩ ?_
    refine aa_o 13 rfl ⟨29, rfl, .inl ⟨_, rfl, gdq (v := true) (nf (decide_eq_false h1687)) rfl⟩⟩ ?_
    refine aa_o 14 rfl ⟨29, rfl, .inl ⟨_, rfl, gdq (v := true) (nf (decide_eq_false h1687)) rfl⟩⟩ ?_
    refine aa_o 15 rfl ⟨29, rfl, .inl ⟨_, rfl, gdq (v := true) (nf (decide_eq_false h1687)) rfl⟩⟩ ?_
    refine aa_o 16 rfl ⟨29, rfl, .inl ⟨_, rfl, gdq (v := true) (nf (decide_eq_false h1687)) rfl⟩⟩ ?_
    refine aa_o 17 rfl ⟨29, rfl, .inl ⟨_, rfl, gdq (v := true) (nf (decide_eq_false h1687)) rfl⟩⟩ ?_
    refine aa_o 18 rfl ⟨29, rfl, .inl ⟨_, rfl, gdq (v := true) (nf (decide_eq_false h1687)) rfl⟩⟩ ?_
    refine aa_o 19 rfl ⟨29, rfl, .inl ⟨_, rfl, gdq (v := true) (nf (decide_eq_false h1687)) rfl⟩⟩ ?_
    refine aa_o 20 rfl ⟨29, rfl, .inl ⟨_, rfl, gdq (v := true) (nf (decide_eq_false h1687)) rfl⟩⟩ ?_
    refine aa_o 21 rfl ⟨29, rfl, .inl ⟨_, rfl, gdq (v := true) (nf (decide_eq_false h1687)) rfl⟩⟩ ?_
    refine aa_o 22 rfl ⟨29, rfl, .inl ⟨_, rfl, gdq (v := true) (nf (decide_eq_false h1687)) rfl⟩⟩ ?_
    refine aa_p 23 rfl (lt_pick true rfl (nf (decide_eq_false h1687)) rfl) (aa_p 24 rfl (lt_move rfl) ?_)
    refine aa_o 25 rfl ⟨42, rfl, .inl ⟨_, rfl, gdq (v := true) rfl rfl⟩⟩ ?_
    refine aa_o 26 rfl ⟨42, rfl, .inl ⟨_, rfl, gdq (v := true) rfl rfl⟩⟩ ?_
    refine aa_o 27 rfl ⟨42, rfl, .inl ⟨_, rfl, gdq (v := true) rfl rfl⟩⟩ ?_
    refine aa_o 28 rfl ⟨42, rfl, .inl ⟨_, rfl, gdq (v := true) rfl rfl⟩⟩ ?_
    refine aa_o 29 rfl ⟨42, rfl, .inl ⟨_, rfl, gdq (v := true) rfl rfl⟩⟩ ?_
    refine aa_o 30 rfl ⟨42, rfl, .inl ⟨_, rfl, gdq (v := true) rfl rfl⟩⟩ ?_
    refine aa_o 31 rfl ⟨42, rfl, .inl ⟨_, rfl, gdq (v := true) rfl rfl⟩⟩ ?_
    refine aa_o 32 rfl ⟨42, rfl, .inl ⟨_, rfl, gdq (v := true) rfl rfl⟩⟩ ?_
    refine aa_o 33 rfl ⟨42, rfl, .inl ⟨_, rfl, gdq (v := true) rfl rfl⟩⟩ ?_
    refine aa_o 34 rfl ⟨42, rfl, .inl ⟨_, rfl, gdq (v := true) rfl rfl⟩⟩ ?_
    refine aa_o 35 rfl ⟨42, rfl, .inl ⟨_, rfl, gdq (v := true) rfl rfl⟩⟩ ?_
    refine aa_o 36 rfl ⟨42, rfl, .inl ⟨_, rfl, gdq (v := true) rfl rfl⟩⟩ ?_
    refine aa_o 37 rfl ⟨42, rfl, .inl ⟨_, rfl, gdq (v := true) rfl rfl⟩⟩ ?_
    refine aa_p 38 rfl (lt_pick true rfl rfl rfl) ?_
    refine aa_done (by kernel_rfl) (ts_in 0 0 rfl rfl) ?_
    refine at_then (at_true rfl rfl (s_sr (s_as rfl (s_nt (at_ret ?_)))))
    have hq := oinj hr
    clear hr
    subst hq
    have hq := oinj hk1675
    clear hk1675
    subst hq
    refine at_then_ret (at_in_ret (at_then_ret (at_then_ret (at_in_ret (at_then_ret (at_then_ret ?_))))))
    exact at_return (.bool false) [] hS Tryz.results21 (.cons (.tmp rfl) .nil) rfl rfl ⟨rfl, rfl⟩
   replace hr := ineg h1676 hr
   refine at_false rfl (decide_eq_false (by omega)) ?_
   refine at_exit (at_then_exit (at_then_exit (at_in_exit ?_)))
   have hq := oinj hr
   clear hr
   subst hq
   exact at_leafP ((), ()) rfl ⟨trivial, ⟨[], rfl⟩, ⟨[], rfl⟩, ⟨[], rfl⟩⟩
  rintro ⟨_, _⟩ hp
  replace hr := hk1675
  subst hp
  clear hl1674
  change At _ _ (⟨[], [], [], []⟩ : St) _
  refine s_tsr (s_as rfl (s_nt (at_ret ?_)))
  have hq := oinj hr
  clear hr
  subst hq
  exact at_return (.bool true) [] hS Tryz.results21 (.cons (.tmp rfl) .nil) rfl rfl ⟨rfl, rfl⟩
 replace hr := ineg h1671 hr
 refine at_true rfl (nf (decide_eq_false (by omega))) ?_
 refine s_sr (s_as rfl (s_nt (at_ret ?_)))
 have hq := oinj hr
 clear hr
 subst hq
 refine at_then_ret ?_
 exact at_return (.bool false) [] hS Tryz.results21 (.cons (.tmp rfl) .nil) rfl rfl ⟨rfl, rfl⟩
def m22_l2 (a0 : (List D_crosswalk_Entry)) (x1747 : Nat) : Nat → Nat → (List D_ref16_Pair) → Option (List D_ref16_Pair)
  | 0, _, _ => none
  | k + 1, x1772, x1773 =>
    (a0[x1747]?).bind fun x1783 =>
    if x1772 < x1783.Codes.length then
     (a0[x1747]?).bind fun x1791 =>
     (x1791.Codes[x1772]?).bind fun x1796 =>
     if x1773.length + 1 ≤ 70368744177664 then
      m22_l2 a0 x1747 k (x1772 + 1) (x1773 ++ [(⟨x1796.From, x1796.To⟩ : D_ref16_Pair)])
     else none
    else
     some x1773
def m22_l1 (a0 : (List D_crosswalk_Entry)) : Nat → (List D_ref16_Entry) → Nat → Option (List D_ref16_Entry)
  | 0, _, _ => none
  | k + 1, x1746, x1747 =>
    if x1747 < a0.length then
     (a0[x1747]?).bind fun x1760 =>
     (a0[x1747]?).bind fun x1765 =>
     (m22_l2 a0 x1747 9223372036854775808 0 ([] : (List D_ref16_Pair))).bind fun x1777 =>
     if x1746.length + 1 ≤ 2513169434916 then
      m22_l1 a0 k (x1746 ++ [(⟨x1760.From, x1765.To, x1777⟩ : D_ref16_Entry)]) (x1747 + 1)
     else none
    else
     some x1746
def m22 (a0 : (List D_crosswalk_Entry)) : Option (List D_ref16_Entry) :=
  (m22_l1 a0 (a0.length + 1) ([] : (List D_ref16_Entry)) 0).bind fun x1751 =>
  some x1751
def post22 (r : (List D_ref16_Entry)) (v : Value) (fs : List Fact) : Prop := ∃ s1816 : Value, v = s1816 ∧ fs = [((Ty.slice ty50).fact r [s1816])]
theorem en22 : Enters Tryz.prog 22 := ⟨_, Tryz.func22, by kernel_rfl, rfl⟩
theorem f22_spec {a0 : (List D_crosswalk_Entry)} {w1745 : Value} {r : (List D_ref16_Entry)} (hr : m22 a0 = some r) : Spec Tryz.prog 22 [w1745] [((Ty.slice ty76).fact a0 [w1745])] (post22 r) := by
 refine spec_start (N := 52) Tryz.func22 (by kernel_rfl) rfl rfl rfl ?_
 intro g hS
 unfold m22 at hr
 refine s_sr (s_as rfl (s_ntsr (s_as rfl (s_nt (at_seq (s_sr (s_as rfl (s_nt (at_rownew none 50 3 ?_)))))))))
 refine at_rownil ty50 ?_
 refine at_mkpure (q := (([] : (List D_ref16_Entry)).length * ty50.bytes ≤ 140737488355328)) (by simp only [List.nil_append, List.cons_append, List.length_cons, List.length_nil, ty50_bytes] <;> omega) ?_
 refine at_int .i64 0 (by simp only [lo, hi]; omega) ?_
 replace hr := obind hr
 obtain ⟨x1751, hl1755, hr⟩ := hr
 refine at_cut (V := Value × Nat × (List Value)) (fun e => (⟨[(3, e.1)], [], [⟨e.1, 50, 3, e.2.1, e.2.2⟩], [(ty50.row x1751 e.2.2), (pureF (x1751.length * ty50.bytes ≤ 140737488355328))]⟩ : St)) ?_ ?_
 ·refine at_block ?_
  refine at_loopW (σ := ((List D_ref16_Entry) × Nat)) (V := Value × Nat × (List Value)) (r := x1751) (fun n s => m22_l1 a0 n s.1 s.2) (fun s e => (⟨[(0, w1745), (3, e.1), (4, .int .i64 (s.2 : Int))], [], [⟨e.1, 50, 3, e.2.1, e.2.2⟩], [(ty50.row s.1 e.2.2), (pureF (s.1.length * ty50.bytes ≤ 140737488355328)), ((Ty.int .i64).fact (s.2 : Int) [.int .i64 (s.2 : Int)]), ((Ty.slice ty76).fact a0 [w1745])]⟩ : St)) (fun _ => rfl) _ (([] : (List D_ref16_Entry)), 0) ((.slice none 0 0), 0, []) hl1755 ⟨⟨rfl, ⟨rfl, ⟨rfl, trivial⟩⟩⟩, ⟨[], rfl⟩, ⟨[true], rfl⟩, ⟨[2, 1, 0, 3], rfl⟩⟩ ?_
  clear hr hl1755
  intro n s hr e
  obtain ⟨x1746, x1747⟩ := s
  obtain ⟨v1748, n1749, i1750⟩ := e
  change m22_l1 a0 (n + 1) x1746 x1747 = some x1751 at hr
  change At _ _ (⟨[(0, w1745), (3, v1748), (4, .int .i64 (x1747 : Int))], [], [⟨v1748, 50, 3, n1749, i1750⟩], [(ty50.row x1746 i1750), (pureF (x1746.length * ty50.bytes ≤ 140737488355328)), ((Ty.int .i64).fact (x1747 : Int) [.int .i64 (x1747 : Int)]), ((Ty.slice ty76).fact a0 [w1745])]⟩ : St) _
  rw [m22_l1] at hr
  refine at_seq (s_sr (s_mv rfl (s_mv rfl ?_)))
  refine at_inv 3 rfl (fun i1757 => ?_)
  have l1758 := slice_len i1757
  refine at_lt (lt_flen 3 rfl rfl und34) rfl (at_lt (lt_lss rfl rfl) rfl (s_nt ?_))
  by_cases h1759 : x1747 < a0.length
  ·replace hr := ipos h1759 hr
   refine at_true rfl (decide_eq_true (by omega)) ?_
   refine at_skip (at_then (at_seq (at_block (at_seq ?_))))
   replace hr := obind hr
   obtain ⟨x1760, h1761, hr⟩ := hr
   have := (List.getElem?_eq_some_iff.1 h1761).1
   refine at_elem 3 rfl (nat_at' h1761) (fun p1763 ec pa1764 => ?_)
   refine at_open (A := Value) 0 rfl _ _ (fun F w h => op76 h) ?_
   rintro s1762 rfl
   replace hr := obind hr
   obtain ⟨x1765, h1766, hr⟩ := hr
   have := (List.getElem?_eq_some_iff.1 h1766).1
   refine at_elem 8 rfl (nat_at' h1766) (fun p1768 ec pa1769 => ?_)
   refine at_open (A := Value) 0 rfl _ _ (fun F w h => op76 h) ?_
   rintro s1767 rfl
   refine aa_start 13 (by kernel_rfl) ?_
   refine aa_p 0 rfl (lt_move rfl) (aa_p 1 rfl (lt_move rfl) (aa_p 2 rfl (lt_idx rfl rfl pa1764 und34 ti76) (aa_p 3 rfl (lt_fieldAddr 0 rfl fld76_0 rfl) (aa_l 4 rfl (lt_load_peek 9 rfl ti9 rfl rfl rfl rfl rfl) (aa_p 5 rfl (lt_move rfl) (aa_p 6 rfl (lt_move rfl) (aa_p 7 rfl (lt_idx rfl rfl pa1769 und34 ti76) (aa_p 8 rfl (lt_fieldAddr 1 rfl fld76_1 rfl) (aa_l 9 rfl (lt_load_peek 4 rfl ti9 rfl rfl rfl rfl rfl) ?_)))))))))
   refine aa_p 10 rfl (lt_build (cs := [str x1760.From, str x1765.To, (.slice none 0 0)]) rfl ti50 pl50 rfl) (aa_one 11 (aa_op rfl rfl ?_))
   refine hv_alloc (cs := [str ([] : Str), str ([] : Str), (.slice none 0 0)]) ti50 rfl rfl (fun b1771 => ?_)
   refine aa_all (rs := [12]) (by kernel_rfl) rfl (ts_in 1 0 rfl rfl) (List.forall_mem_singleton.2 ?_)
   refine aa_op rfl rfl (hv_store_box 0 (cs' := [str x1760.From, str x1765.To, (.slice none 0 0)]) rfl rfl ti50 rfl rfl rfl rfl rfl ?_)
   refine aa_done (by kernel_rfl) (ts_in 1 0 rfl rfl) ?_
   refine at_then (at_seq (s_sr (s_as rfl (s_nt (at_int .i64 0 (by simp only [lo, hi]; omega) (at_rownew none 83 2 (at_rownil ty83 ?_)))))))
   refine at_mkpure (q := (([] : (List D_ref16_Pair)).length * ty83.bytes ≤ 140737488355328)) (by simp only [List.nil_append, List.cons_append, List.length_cons, List.length_nil, ty83_bytes] <;> omega) ?_
   replace hr := obind hr
   obtain ⟨x1777, hl1781, hr⟩ := hr
   refine at_cut (V := Value × Nat × (List Value)) (fun e => (⟨[(0, w1745), (3, v1748), (4, .int .i64 (x1747 : Int)), (5, .pointer (some (Addr.add ⟨b1771, 0, none⟩ 0)))], [⟨b1771, [str x1760.From, str x1765.To, e.1], 50⟩], [⟨e.1, 83, 2, e.2.1, e.2.2⟩, ⟨v1748, 50, 3, n1749, i1750⟩], [(ty83.row x1777 e.2.2), (pureF (x1777.length * ty83.bytes ≤ 140737488355328)), ((Ty.slice ty76).fact a0 [w1745]), (ty50.row x1746 i1750), (pureF (x1746.length * ty50.bytes ≤ 140737488355328)), ((Ty.int .i64).fact (x1747 : Int) [.int .i64 (x1747 : Int)]), (Ty.str.fact x1760.From [str x1760.From]), (Ty.str.fact x1765.To [str x1765.To])]⟩ : St)) ?_ ?_
   ·refine at_block ?_
    refine at_loopW (σ := (Nat × (List D_ref16_Pair))) (V := Value × Nat × (List Value)) (r := x1777) (fun n s => m22_l2 a0 x1747 n s.1 s.2) (fun s e => (⟨[(0, w1745), (3, v1748), (4, .int .i64 (x1747 : Int)), (5, .pointer (some (Addr.add ⟨b1771, 0, none⟩ 0))), (6, .int .i64 (s.1 : Int))], [⟨b1771, [str x1760.From, str x1765.To, e.1], 50⟩], [⟨e.1, 83, 2, e.2.1, e.2.2⟩, ⟨v1748, 50, 3, n1749, i1750⟩], [((Ty.int .i64).fact (s.1 : Int) [.int .i64 (s.1 : Int)]), (ty83.row s.2 e.2.2), (pureF (s.2.length * ty83.bytes ≤ 140737488355328)), ((Ty.slice ty76).fact a0 [w1745]), (ty50.row x1746 i1750), (pureF (x1746.length * ty50.bytes ≤ 140737488355328)), ((Ty.int .i64).fact (x1747 : Int) [.int .i64 (x1747 : Int)]), (Ty.str.fact x1760.From [str x1760.From]), (Ty.str.fact x1765.To [str x1765.To])]⟩ : St)) (fun _ => rfl) _ (0, ([] : (List D_ref16_Pair))) ((.slice none 0 0), 0, []) hl1781 ⟨⟨rfl, ⟨rfl, ⟨rfl, ⟨rfl, ⟨rfl, trivial⟩⟩⟩⟩⟩, ⟨[true], rfl⟩, ⟨[true, true], rfl⟩, ⟨[2, 1, 0, 16, 13, 14, 15, 8, 4], rfl⟩⟩ ?_
    clear hr hl1781
    intro n s hr e
    obtain ⟨x1772, x1773⟩ := s
    obtain ⟨v1774, n1775, i1776⟩ := e
    change m22_l2 a0 x1747 (n + 1) x1772 x1773 = some x1777 at hr
    change At _ _ (⟨[(0, w1745), (3, v1748), (4, .int .i64 (x1747 : Int)), (5, .pointer (some (Addr.add ⟨b1771, 0, none⟩ 0))), (6, .int .i64 (x1772 : Int))], [⟨b1771, [str x1760.From, str x1765.To, v1774], 50⟩], [⟨v1774, 83, 2, n1775, i1776⟩, ⟨v1748, 50, 3, n1749, i1750⟩], [((Ty.int .i64).fact (x1772 : Int) [.int .i64 (x1772 : Int)]), (ty83.row x1773 i1776), (pureF (x1773.length * ty83.bytes ≤ 140737488355328)), ((Ty.slice ty76).fact a0 [w1745]), (ty50.row x1746 i1750), (pureF (x1746.length * ty50.bytes ≤ 140737488355328)), ((Ty.int .i64).fact (x1747 : Int) [.int .i64 (x1747 : Int)]), (Ty.str.fact x1760.From [str x1760.From]), (Ty.str.fact x1765.To [str x1765.To])]⟩ : St) _
    rw [m22_l2] at hr
    refine at_seq (s_sr (s_mv rfl (s_mv rfl (s_mv rfl ?_))))
    replace hr := obind hr
    obtain ⟨x1783, h1784, hr⟩ := hr
    have := (List.getElem?_eq_some_iff.1 h1784).1
    refine at_elem 3 rfl (nat_at' h1784) (fun p1786 ec pa1787 => ?_)
    refine at_open (A := Value) 0 rfl _ _ (fun F w h => op76 h) ?_
    rintro s1785 rfl
    refine at_lt (lt_idx rfl rfl pa1787 und34 ti76) rfl (at_lt (lt_fieldAddr 2 rfl fld76_2 rfl) rfl (at_lt (lt_load_peek 4 rfl ti74 rfl rfl rfl rfl rfl) rfl ?_))
    refine at_inv 2 rfl (fun i1788 => ?_)
    have l1789 := slice_len i1788
    refine at_lt (lt_flen 2 rfl rfl und74) rfl (at_lt (lt_lss rfl rfl) rfl (s_nt ?_))
    by_cases h1790 : x1772 < x1783.Codes.length
    ·replace hr := ipos h1790 hr
     refine at_true rfl (decide_eq_true (by omega)) ?_
     refine at_skip (at_then (at_seq (at_block ?_)))
     replace hr := obind hr
     obtain ⟨x1791, h1792, hr⟩ := hr
     have := (List.getElem?_eq_some_iff.1 h1792).1
     refine at_elem 8 rfl (nat_at' h1792) (fun p1794 ec pa1795 => ?_)
     refine at_open (A := Value) 0 rfl _ _ (fun F w h => op76 h) ?_
     rintro s1793 rfl
     replace hr := obind hr
     obtain ⟨x1796, h1797, hr⟩ := hr
     have := (List.getElem?_eq_some_iff.1 h1797).1
     refine at_elem 2 rfl (nat_at' h1797) (fun p1798 ec pa1799 => ?_)
     refine at_open (A := Unit) 0 rfl _ _ (fun F w h => op82 h) ?_
     rintro _ rfl
     replace hr := imust hr
     obtain ⟨h1801, hr⟩ := hr
     refine aa_start 13 (by kernel_rfl) ?_
     refine aa_p 0 rfl (lt_fieldAddr 2 rfl fld50_2 rfl) (aa_l 1 rfl (lt_load_box 0 rfl ti48 rfl rfl rfl rfl rfl) (aa_p 2 rfl (lt_move rfl) (aa_p 3 rfl (lt_move rfl) (aa_p 4 rfl (lt_idx rfl rfl pa1795 und34 ti76) (aa_p 5 rfl (lt_fieldAddr 2 rfl fld76_2 rfl) (aa_l 6 rfl (lt_load_peek 6 rfl ti74 rfl rfl rfl rfl rfl) (aa_p 7 rfl (lt_move rfl) (aa_p 8 rfl (lt_idx rfl rfl pa1799 und74 ti82) (aa_l 9 rfl (lt_load_peek 1 rfl ti82 rfl rfl rfl rfl rfl) ?_)))))))))
     refine aa_one 10 (aa_op rfl rfl ?_)
     refine hv_bslice (cs := [.int .u8 (x1796.From.toNat : Int), .int .u8 (x1796.To.toNat : Int)]) rfl und48 ti83 rfl rfl rfl rfl rfl (fun s1805 => ?_)
     refine aa_one 11 ?_
     refine at_derive [] (ty83.fact (⟨x1796.From, x1796.To⟩ : D_ref16_Pair) [.int .u8 (x1796.From.toNat : Int), .int .u8 (x1796.To.toNat : Int)]) rfl (fun F w h => mk83 (x := (⟨x1796.From, x1796.To⟩ : D_ref16_Pair)) h) ?_
     refine at_rown 1 14 rfl rfl rfl (fun hn1807 => ?_)
     refine aa_op rfl rfl ?_
     refine hv_append 1 0 rfl rfl rfl rfl und48 ti83 rfl rfl rfl (by omega) (by omega) rfl (fun s1806 => ?_)
     refine at_rowsnoc 14 0 rfl rfl ?_
     refine aa_pure 12 rfl (by kernel_rfl) rfl rfl (lt_fieldAddr 2 rfl fld50_2 rfl) rfl (ts_in 0 2 rfl rfl) ?_
     refine aa_all (rs := [13]) (by kernel_rfl) rfl (ts_in 0 2 rfl rfl) (List.forall_mem_singleton.2 ?_)
     refine at_rowv 1 rfl (fun ho1808 => ?_)
     replace ho1808 := row_one (by obtain ⟨a, c, h⟩ := ho1808; exact ⟨a, _, c, h⟩)
     refine aa_op rfl rfl (hv_store1 0 (cs' := [str x1760.From, str x1765.To, s1806]) rfl rfl ti48 rfl rfl rfl rfl ho1808 ?_)
     refine aa_done (by kernel_rfl) (ts_out rfl) ?_
     refine at_in (s_tr (s_mv rfl (at_lt (lt_add rfl rfl (by simp only [lo, hi]; omega)) rfl (s_as rfl (at_nil (at_int .i64 (x1772 + 1 : Int) (by simp only [lo, hi]; omega) ?_))))))
     refine at_mkpure (q := ((x1773 ++ [(⟨x1796.From, x1796.To⟩ : D_ref16_Pair)]).length * ty83.bytes ≤ 140737488355328)) (by simp only [List.length_append, List.length_cons, List.length_nil, ty83_bytes] <;> omega) ?_
     exact at_again (σ := (Nat × (List D_ref16_Pair))) (V := Value × Nat × (List Value)) (lp := fun n s => m22_l2 a0 x1747 n s.1 s.2) (S := fun s e => (⟨[(0, w1745), (3, v1748), (4, .int .i64 (x1747 : Int)), (5, .pointer (some (Addr.add ⟨b1771, 0, none⟩ 0))), (6, .int .i64 (s.1 : Int))], [⟨b1771, [str x1760.From, str x1765.To, e.1], 50⟩], [⟨e.1, 83, 2, e.2.1, e.2.2⟩, ⟨v1748, 50, 3, n1749, i1750⟩], [((Ty.int .i64).fact (s.1 : Int) [.int .i64 (s.1 : Int)]), (ty83.row s.2 e.2.2), (pureF (s.2.length * ty83.bytes ≤ 140737488355328)), ((Ty.slice ty76).fact a0 [w1745]), (ty50.row x1746 i1750), (pureF (x1746.length * ty50.bytes ≤ 140737488355328)), ((Ty.int .i64).fact (x1747 : Int) [.int .i64 (x1747 : Int)]), (Ty.str.fact x1760.From [str x1760.From]), (Ty.str.fact x1765.To [str x1765.To])]⟩ : St)) (x1772 + 1, x1773 ++ [(⟨x1796.From, x1796.To⟩ : D_ref16_Pair)]) (s1806, n1775 + 1, i1776 ++ [.int .u8 (x1796.From.toNat : Int), .int .u8 (x1796.To.toNat : Int)]) hr ⟨⟨rfl, ⟨rfl, ⟨rfl, ⟨rfl, ⟨rfl, trivial⟩⟩⟩⟩⟩, ⟨[true], rfl⟩, ⟨[false, true, true], rfl⟩, ⟨[1, 2, 0, 19, 20, 21, 22, 23, 24], rfl⟩⟩
    replace hr := ineg h1790 hr
    refine at_false rfl (decide_eq_false (by omega)) ?_
    refine at_exit (at_then_exit (at_then_exit (at_in_exit ?_)))
    have hq := oinj hr
    clear hr
    subst hq
    exact at_leaf (v1774, n1775, i1776) ⟨⟨rfl, ⟨rfl, ⟨rfl, ⟨rfl, trivial⟩⟩⟩⟩, ⟨[true], rfl⟩, ⟨[true, true], rfl⟩, ⟨[6, 7, 8, 9, 10, 11, 12, 13], rfl⟩⟩
   clear hl1781
   intro e
   obtain ⟨v1778, n1779, i1780⟩ := e
   change At _ _ (⟨[(0, w1745), (3, v1748), (4, .int .i64 (x1747 : Int)), (5, .pointer (some (Addr.add ⟨b1771, 0, none⟩ 0)))], [⟨b1771, [str x1760.From, str x1765.To, v1778], 50⟩], [⟨v1778, 83, 2, n1779, i1780⟩, ⟨v1748, 50, 3, n1749, i1750⟩], [(ty83.row x1777 i1780), (pureF (x1777.length * ty83.bytes ≤ 140737488355328)), ((Ty.slice ty76).fact a0 [w1745]), (ty50.row x1746 i1750), (pureF (x1746.length * ty50.bytes ≤ 140737488355328)), ((Ty.int .i64).fact (x1747 : Int) [.int .i64 (x1747 : Int)]), (Ty.str.fact x1760.From [str x1760.From]), (Ty.str.fact x1765.To [str x1765.To])]⟩ : St) _
   refine s_tr (s_mv rfl (at_lt (lt_load_box 0 rfl ti50 rfl rfl rfl rfl rfl) rfl (at_hv rfl ?_)))
   refine hv_bslice (cs := [str x1760.From, str x1765.To, v1778]) rfl und22 ti50 rfl rfl rfl rfl rfl (fun s1809 => ?_)
   replace hr := imust hr
   obtain ⟨h1810, hr⟩ := hr
   refine at_pure 1 rfl (fun hb1812 => ?_)
   refine at_release 1 0 rfl rfl rfl hb1812 ?_
   refine at_derive [7, 8, 0] (ty50.fact (⟨x1760.From, x1765.To, x1777⟩ : D_ref16_Entry) [str x1760.From, str x1765.To, v1778]) rfl (fun F w h => mk50 (x := (⟨x1760.From, x1765.To, x1777⟩ : D_ref16_Entry)) h) ?_
   refine at_rown 1 5 rfl rfl rfl (fun hn1813 => ?_)
   refine at_one 1 rfl (fun ho1814 => ?_)
   refine at_hv rfl ?_
   refine hv_append 1 0 rfl rfl rfl rfl und22 ti50 rfl rfl (allc rfl (allc rfl (allc ho1814 rfl))) (by omega) (by omega) rfl (fun s1811 => ?_)
   refine at_rowsnoc 5 0 rfl rfl (s_as rfl (at_nil (at_in (s_tr (s_mv rfl (at_lt (lt_add rfl rfl (by simp only [lo, hi]; omega)) rfl (s_as rfl (at_nil ?_))))))))
   refine at_mkpure (q := ((x1746 ++ [(⟨x1760.From, x1765.To, x1777⟩ : D_ref16_Entry)]).length * ty50.bytes ≤ 140737488355328)) (by simp only [List.length_append, List.length_cons, List.length_nil, ty50_bytes] <;> omega) ?_
   refine at_int .i64 (x1747 + 1 : Int) (by simp only [lo, hi]; omega) ?_
   exact at_again (σ := ((List D_ref16_Entry) × Nat)) (V := Value × Nat × (List Value)) (lp := fun n s => m22_l1 a0 n s.1 s.2) (S := fun s e => (⟨[(0, w1745), (3, e.1), (4, .int .i64 (s.2 : Int))], [], [⟨e.1, 50, 3, e.2.1, e.2.2⟩], [(ty50.row s.1 e.2.2), (pureF (s.1.length * ty50.bytes ≤ 140737488355328)), ((Ty.int .i64).fact (s.2 : Int) [.int .i64 (s.2 : Int)]), ((Ty.slice ty76).fact a0 [w1745])]⟩ : St)) (x1746 ++ [(⟨x1760.From, x1765.To, x1777⟩ : D_ref16_Entry)], x1747 + 1) (s1811, n1749 + 1, i1750 ++ [str x1760.From, str x1765.To, v1778]) hr ⟨⟨rfl, ⟨rfl, ⟨rfl, trivial⟩⟩⟩, ⟨[false], rfl⟩, ⟨[false, true], rfl⟩, ⟨[2, 1, 0, 7], rfl⟩⟩
  replace hr := ineg h1759 hr
  refine at_false rfl (decide_eq_false (by omega)) ?_
  refine at_exit (at_then_exit (at_then_exit (at_in_exit ?_)))
  have hq := oinj hr
  clear hr
  subst hq
  exact at_leaf (v1748, n1749, i1750) ⟨⟨rfl, trivial⟩, ⟨[], rfl⟩, ⟨[true], rfl⟩, ⟨[0, 1], rfl⟩⟩
 clear hl1755
 intro e
 obtain ⟨v1752, n1753, i1754⟩ := e
 change At _ _ (⟨[(3, v1752)], [], [⟨v1752, 50, 3, n1753, i1754⟩], [(ty50.row x1751 i1754), (pureF (x1751.length * ty50.bytes ≤ 140737488355328))]⟩ : St) _
 refine s_tsr (s_mv rfl (s_as rfl (s_nt (at_ret ?_))))
 have hq := oinj hr
 clear hr
 subst hq
 refine at_pure 1 rfl (fun hb1815 => ?_)
 refine at_release 0 0 rfl rfl rfl hb1815 ?_
 exact at_return (v1752) [0] hS Tryz.results22 (.cons (.tmp rfl) .nil) rfl rfl ⟨v1752, rfl, rfl⟩
def m115 (a0 : UInt8) : Option Bool :=
  if 48 ≤ a0.toNat then
   some (decide ((a0.toNat : Int) ≤ 57))
  else
   some false
def post115 (r : Bool) (v : Value) (fs : List Fact) : Prop := v = .bool r ∧ fs = []
theorem en115 : Enters Tryz.prog 115 := ⟨_, Tryz.func115, by kernel_rfl, rfl⟩
theorem f115_spec {a0 : UInt8} {r : Bool} (hr : m115 a0 = some r) : Spec Tryz.prog 115 [.int .u8 (a0.toNat : Int)] [] (post115 r) := by
 refine spec_start (N := 9) Tryz.func115 (by kernel_rfl) rfl rfl rfl ?_
 intro g hS
 unfold m115 at hr
 refine s_sr (s_as rfl (s_ntsr (s_mv rfl (at_lt (lt_geq rfl rfl) rfl (s_mv rfl ?_)))))
 by_cases h1817 : 48 ≤ a0.toNat
 ·replace hr := ipos h1817 hr
  refine at_on rfl rfl (decide_eq_true (by omega)) ?_
  refine s_mv rfl ?_
  refine at_on rfl rfl (decide_eq_true (by omega)) ?_
  refine at_lt (lt_leq rfl rfl) rfl ?_
  refine at_lt (lt_pick true rfl (decide_eq_true (by omega)) rfl) rfl ?_
  refine s_as rfl (s_nt (at_ret ?_))
  have hq := oinj hr
  clear hr
  subst hq
  exact at_return (.bool (decide ((a0.toNat : Int) ≤ 57))) [] hS Tryz.results115 (.cons (.tmp rfl) .nil) rfl rfl ⟨rfl, rfl⟩
 replace hr := ineg h1817 hr
 refine at_off rfl rfl (decide_eq_false (by omega)) rfl ?_
 refine at_off rfl rfl (decide_eq_false (by omega)) rfl ?_
 refine at_lt (lt_pick false rfl (decide_eq_false (by omega)) rfl) rfl ?_
 refine s_as rfl (s_nt (at_ret ?_))
 have hq := oinj hr
 clear hr
 subst hq
 exact at_return (.bool false) [] hS Tryz.results115 (.cons (.tmp rfl) .nil) rfl rfl ⟨rfl, rfl⟩
def m87 (a0 : Str) : Option Bool :=
  if a0.length = 3 then
   (a0[0]?).bind fun c1820 =>
   (m115 c1820).bind fun x1822 =>
   if x1822 = true then
    (a0[1]?).bind fun c1825 =>
    (m115 c1825).bind fun x1827 =>
    if x1827 = true then
     (a0[2]?).bind fun c1830 =>
     (m115 c1830).bind fun x1832 =>
     if x1832 = true then
      some (!decide (a0 = ([48, 48, 48] : Str)))
     else
      some false
    else
     some false
   else
    some false
  else
   some false
def post87 (r : Bool) (v : Value) (fs : List Fact) : Prop := v = .bool r ∧ fs = []
theorem en87 : Enters Tryz.prog 87 := ⟨_, Tryz.func87, by kernel_rfl, rfl⟩
theorem f87_spec {a0 : Str} {r : Bool} (hr : m87 a0 = some r) : Spec Tryz.prog 87 [str a0] [(Ty.str.fact a0 [str a0])] (post87 r) := by
 refine spec_start (N := 25) Tryz.func87 (by kernel_rfl) rfl rfl rfl ?_
 intro g hS
 unfold m87 at hr
 refine s_sr (s_as rfl (s_ntsr (s_mv rfl ?_)))
 refine at_inv 0 rfl (fun l1818 => ?_)
 replace l1818 : a0.length ≤ 9223372036854775807 := l1818
 refine at_lt (lt_slen rfl und9) rfl (at_lt (lt_eql rfl rfl) rfl (s_mv rfl ?_))
 by_cases h1819 : a0.length = 3
 ·replace hr := ipos h1819 hr
  refine at_on rfl rfl (decide_eq_true (by omega)) ?_
  refine s_mv rfl ?_
  replace hr := obind hr
  obtain ⟨c1820, h1821, hr⟩ := hr
  have := (List.getElem?_eq_some_iff.1 h1821).1
  have := c1820.toNat_lt
  refine at_on rfl rfl (decide_eq_true (by omega)) ?_
  refine at_lt (lt_sidx rfl rfl und9 (by omega) h1821) rfl ?_
  replace hr := obind hr
  obtain ⟨x1822, h1823, hr⟩ := hr
  refine at_on rfl rfl (decide_eq_true (by omega)) ?_
  refine at_hv rfl (hv_call0 [] (f115_spec h1823) rfl rfl rfl rfl ?_)
  rintro _ _ ⟨rfl, rfl⟩
  refine at_lt (lt_pick true rfl (decide_eq_true (by omega)) rfl) rfl ?_
  refine s_mv rfl ?_
  by_cases h1824 : x1822 = true
  ·replace hr := ipos h1824 hr
   refine at_on rfl rfl h1824 (s_mv rfl ?_)
   replace hr := obind hr
   obtain ⟨c1825, h1826, hr⟩ := hr
   have := (List.getElem?_eq_some_iff.1 h1826).1
   have := c1825.toNat_lt
   refine at_on rfl rfl h1824 ?_
   refine at_lt (lt_sidx rfl rfl und9 (by omega) h1826) rfl ?_
   replace hr := obind hr
   obtain ⟨x1827, h1828, hr⟩ := hr
   refine at_on rfl rfl h1824 (at_hv rfl (hv_call0 [] (f115_spec h1828) rfl rfl rfl rfl ?_))
   rintro _ _ ⟨rfl, rfl⟩
   refine at_lt (lt_pick true rfl h1824 rfl) rfl (s_mv rfl ?_)
   by_cases h1829 : x1827 = true
   ·replace hr := ipos h1829 hr
    refine at_on rfl rfl h1829 (s_mv rfl ?_)
    replace hr := obind hr
    obtain ⟨c1830, h1831, hr⟩ := hr
    have := (List.getElem?_eq_some_iff.1 h1831).1
    have := c1830.toNat_lt
    refine at_on rfl rfl h1829 ?_
    refine at_lt (lt_sidx rfl rfl und9 (by omega) h1831) rfl ?_
    replace hr := obind hr
    obtain ⟨x1832, h1833, hr⟩ := hr
    refine at_on rfl rfl h1829 (at_hv rfl (hv_call0 [] (f115_spec h1833) rfl rfl rfl rfl ?_))
    rintro _ _ ⟨rfl, rfl⟩
    refine at_lt (lt_pick true rfl h1829 rfl) rfl (s_mv rfl ?_)
    by_cases h1834 : x1832 = true
    ·replace hr := ipos h1834 hr
     refine at_on rfl rfl h1834 (s_mv rfl (at_on rfl rfl h1834 (at_lt (lt_sneq rfl rfl) rfl (at_lt (lt_pick true rfl h1834 rfl) rfl (s_as rfl (s_nt (at_ret ?_)))))))
     have hq := oinj hr
     clear hr
     subst hq
     exact at_return (.bool (!decide (a0 = ([48, 48, 48] : Str)))) [] hS Tryz.results87 (.cons (.tmp rfl) .nil) rfl rfl ⟨rfl, rfl⟩
    replace hr := ineg h1834 hr
    refine at_off rfl rfl (bf h1834) rfl (at_off rfl rfl (bf h1834) rfl (at_lt (lt_pick false rfl (bf h1834) rfl) rfl (s_as rfl (s_nt (at_ret ?_)))))
    have hq := oinj hr
    clear hr
    subst hq
    exact at_return (.bool false) [] hS Tryz.results87 (.cons (.tmp rfl) .nil) rfl rfl ⟨rfl, rfl⟩
   replace hr := ineg h1829 hr
   refine at_off rfl rfl (bf h1829) rfl (at_off rfl rfl (bf h1829) rfl (at_off rfl rfl (bf h1829) rfl (at_lt (lt_pick false rfl (bf h1829) rfl) rfl (s_mv rfl (at_off rfl rfl rfl rfl (at_off rfl rfl rfl rfl (at_lt (lt_pick false rfl rfl rfl) rfl (s_as rfl (s_nt ?_)))))))))
   refine at_ret ?_
   have hq := oinj hr
   clear hr
   subst hq
   exact at_return (.bool false) [] hS Tryz.results87 (.cons (.tmp rfl) .nil) rfl rfl ⟨rfl, rfl⟩
  replace hr := ineg h1824 hr
  refine at_off rfl rfl (bf h1824) rfl (at_off rfl rfl (bf h1824) rfl (at_off rfl rfl (bf h1824) rfl (at_lt (lt_pick false rfl (bf h1824) rfl) rfl (s_mv rfl (at_off rfl rfl rfl rfl (at_off rfl rfl rfl rfl (at_off rfl rfl rfl rfl (at_lt (lt_pick false rfl rfl rfl) rfl (s_mv rfl ?_)))))))))
  refine at_off rfl rfl rfl rfl (at_off rfl rfl rfl rfl (at_lt (lt_pick false rfl rfl rfl) rfl (s_as rfl (s_nt (at_ret ?_)))))
  have hq := oinj hr
  clear hr
  subst hq
  exact at_return (.bool false) [] hS Tryz.results87 (.cons (.tmp rfl) .nil) rfl rfl ⟨rfl, rfl⟩
 replace hr := ineg h1819 hr
 refine at_off rfl rfl (decide_eq_false (by omega)) rfl ?_
 refine at_off rfl rfl (decide_eq_false (by omega)) rfl ?_
 refine at_off rfl rfl (decide_eq_false (by omega)) rfl ?_
 refine at_lt (lt_pick false rfl (decide_eq_false (by omega)) rfl) rfl ?_
 refine s_mv rfl (at_off rfl rfl rfl rfl (at_off rfl rfl rfl rfl (at_off rfl rfl rfl rfl (at_lt (lt_pick false rfl rfl rfl) rfl (s_mv rfl (at_off rfl rfl rfl rfl (at_off rfl rfl rfl rfl (at_off rfl rfl rfl rfl (at_lt (lt_pick false rfl rfl rfl) rfl ?_)))))))))
 refine s_mv rfl (at_off rfl rfl rfl rfl (at_off rfl rfl rfl rfl (at_lt (lt_pick false rfl rfl rfl) rfl (s_as rfl (s_nt (at_ret ?_))))))
 have hq := oinj hr
 clear hr
 subst hq
 exact at_return (.bool false) [] hS Tryz.results87 (.cons (.tmp rfl) .nil) rfl rfl ⟨rfl, rfl⟩
def m89 (a0 : UInt8) : Option Bool :=
  (m115 a0).bind fun x1835 =>
  if x1835 = true then
   some true
  else
   if 97 ≤ a0.toNat then
    some (decide ((a0.toNat : Int) ≤ 122))
   else
    some false
def post89 (r : Bool) (v : Value) (fs : List Fact) : Prop := v = .bool r ∧ fs = []
theorem en89 : Enters Tryz.prog 89 := ⟨_, Tryz.func89, by kernel_rfl, rfl⟩
theorem f89_spec {a0 : UInt8} {r : Bool} (hr : m89 a0 = some r) : Spec Tryz.prog 89 [.int .u8 (a0.toNat : Int)] [] (post89 r) := by
 refine spec_start (N := 13) Tryz.func89 (by kernel_rfl) rfl rfl rfl ?_
 intro g hS
 unfold m89 at hr
 refine s_sr (s_as rfl (s_ntsr (s_mv rfl ?_)))
 replace hr := obind hr
 obtain ⟨x1835, h1836, hr⟩ := hr
 refine at_hv rfl (hv_call0 [] (f115_spec h1836) rfl rfl rfl rfl ?_)
 rintro _ _ ⟨rfl, rfl⟩
 refine s_mv rfl ?_
 by_cases h1837 : x1835 = true
 ·replace hr := ipos h1837 hr
  refine at_off rfl rfl h1837 rfl (at_off rfl rfl h1837 rfl (at_off rfl rfl h1837 rfl (at_offu rfl rfl rfl (at_offu rfl rfl rfl (at_off rfl rfl h1837 rfl (at_lt (lt_pick true rfl h1837 rfl) rfl (s_as rfl (s_nt (at_ret ?_)))))))))
  have hq := oinj hr
  clear hr
  subst hq
  exact at_return (.bool true) [] hS Tryz.results89 (.cons (.tmp rfl) .nil) rfl rfl ⟨rfl, rfl⟩
 replace hr := ineg h1837 hr
 refine at_on rfl rfl (bf h1837) (s_mv rfl (at_on rfl rfl (bf h1837) (at_lt (lt_geq rfl rfl) rfl (at_on rfl rfl (bf h1837) (s_mv rfl ?_)))))
 by_cases h1838 : 97 ≤ a0.toNat
 ·replace hr := ipos h1838 hr
  refine at_on rfl rfl (decide_eq_true (by omega)) ?_
  refine s_mv rfl ?_
  refine at_on rfl rfl (decide_eq_true (by omega)) ?_
  refine at_lt (lt_leq rfl rfl) rfl (at_on rfl rfl (bf h1837) ?_)
  refine at_lt (lt_pick true rfl (decide_eq_true (by omega)) rfl) rfl ?_
  refine at_lt (lt_pick false rfl (bf h1837) rfl) rfl (s_as rfl (s_nt (at_ret ?_)))
  have hq := oinj hr
  clear hr
  subst hq
  exact at_return (.bool (decide ((a0.toNat : Int) ≤ 122))) [] hS Tryz.results89 (.cons (.tmp rfl) .nil) rfl rfl ⟨rfl, rfl⟩
 replace hr := ineg h1838 hr
 refine at_off rfl rfl (decide_eq_false (by omega)) rfl ?_
 refine at_off rfl rfl (decide_eq_false (by omega)) rfl ?_
 refine at_on rfl rfl (bf h1837) ?_
 refine at_lt (lt_pick false rfl (decide_eq_false (by omega)) rfl) rfl ?_
 refine at_lt (lt_pick false rfl (bf h1837) rfl) rfl (s_as rfl (s_nt (at_ret ?_)))
 have hq := oinj hr
 clear hr
 subst hq
 exact at_return (.bool false) [] hS Tryz.results89 (.cons (.tmp rfl) .nil) rfl rfl ⟨rfl, rfl⟩
def m88 (a0 : UInt8) : Option Bool :=
  (m89 a0).bind fun x1839 =>
  some x1839
def post88 (r : Bool) (v : Value) (fs : List Fact) : Prop := v = .bool r ∧ fs = []
theorem en88 : Enters Tryz.prog 88 := ⟨_, Tryz.func88, by kernel_rfl, rfl⟩
theorem f88_spec {a0 : UInt8} {r : Bool} (hr : m88 a0 = some r) : Spec Tryz.prog 88 [.int .u8 (a0.toNat : Int)] [] (post88 r) := by
 refine spec_start (N := 5) Tryz.func88 (by kernel_rfl) rfl rfl rfl ?_
 intro g hS
 unfold m88 at hr
 refine s_sr (s_as rfl (s_ntsr (s_mv rfl ?_)))
 replace hr := obind hr
 obtain ⟨x1839, h1840, hr⟩ := hr
 refine at_hv rfl (hv_call0 [] (f89_spec h1840) rfl rfl rfl rfl ?_)
 rintro _ _ ⟨rfl, rfl⟩
 refine s_as rfl (s_nt (at_ret ?_))
 have hq := oinj hr
 clear hr
 subst hq
 exact at_return (.bool x1839) [] hS Tryz.results88 (.cons (.tmp rfl) .nil) rfl rfl ⟨rfl, rfl⟩
def m55_l1 (a0 : D_ref16_Entry) : Nat → Nat → Option (Fl Bool Unit)
  | 0, _ => none
  | k + 1, x1853 =>
    if x1853 < a0.Codes.length then
     (a0.Codes[x1853]?).bind fun x1858 =>
     (m88 x1858.From).bind fun x1863 =>
     if x1863 = true then
      (m88 x1858.To).bind fun x1866 =>
      if x1866 = true then
       if 0 < x1853 then
        (at? a0.Codes ((x1853 : Int) - 1)).bind fun x1870 =>
        if x1858.From.toNat ≤ x1870.From.toNat then
         some (Fl.ret false)
        else
         m55_l1 a0 k (x1853 + 1)
       else
        m55_l1 a0 k (x1853 + 1)
      else
       some (Fl.ret false)
     else
      some (Fl.ret false)
    else
     some (Fl.go ())
def m55 (a0 : D_ref16_Entry) : Option Bool :=
  (m87 a0.From).bind fun x1843 =>
  if x1843 = true then
   (m87 a0.To).bind fun x1846 =>
   if x1846 = true then
    if a0.Codes.length < 1 then
     some false
    else
     if 36 < a0.Codes.length then
      some false
     else
      (m55_l1 a0 (a0.Codes.length + 1) 0).bind fun r => match r with
      | .ret x => some x
      | .go _ =>
       some true
   else
    some false
  else
   some false
def post55 (r : Bool) (v : Value) (fs : List Fact) : Prop := v = .bool r ∧ fs = []
theorem en55 : Enters Tryz.prog 55 := ⟨_, Tryz.func55, by kernel_rfl, rfl⟩
theorem f55_spec {a0 : D_ref16_Entry} {s1841 : Value} {r : Bool} (hr : m55 a0 = some r) : Spec Tryz.prog 55 [.agg #[str a0.From, str a0.To, s1841]] [(ty50.fact a0 [str a0.From, str a0.To, s1841])] (post55 r) := by
 refine spec_start (N := 65) Tryz.func55 (by kernel_rfl) rfl rfl rfl ?_
 intro g hS
 unfold m55 at hr
 refine at_open (A := Unit) 0 rfl (fun _ => True) (fun _ => [(Ty.str.fact a0.From [str a0.From]), (Ty.str.fact a0.To [str a0.To]), ((Ty.slice ty83).fact a0.Codes [s1841])]) (fun F w h => ⟨(), trivial, ex50 h⟩) (fun _ _ => ?_)
 refine s_sr (at_hv rfl ?_)
 refine hv_box (cs := [str a0.From, str a0.To, s1841]) rfl rfl rfl (fun b1842 => ?_)
 refine s_as rfl (s_nt (at_seq (s_sr (at_lt (lt_fieldAddr 0 rfl fld50_0 rfl) rfl (at_lt (lt_load_box 0 rfl ti9 rfl rfl rfl rfl rfl) rfl ?_)))))
 replace hr := obind hr
 obtain ⟨x1843, h1844, hr⟩ := hr
 refine at_hv rfl (hv_call0 [0] (f87_spec h1844) rfl rfl rfl rfl ?_)
 rintro _ _ ⟨rfl, rfl⟩
 refine at_lt (lt_not rfl) rfl (s_mv rfl ?_)
 by_cases h1845 : x1843 = true
 ·replace hr := ipos h1845 hr
  refine at_on rfl rfl (nt h1845) (at_lt (lt_fieldAddr 1 rfl fld50_1 rfl) rfl (at_on rfl rfl (nt h1845) (at_lt (lt_load_box 0 rfl ti9 rfl rfl rfl rfl rfl) rfl ?_)))
  replace hr := obind hr
  obtain ⟨x1846, h1847, hr⟩ := hr
  refine at_on rfl rfl (nt h1845) (at_hv rfl (hv_call0 [1] (f87_spec h1847) rfl rfl rfl rfl ?_))
  rintro _ _ ⟨rfl, rfl⟩
  refine at_on rfl rfl (nt h1845) (at_lt (lt_not rfl) rfl (at_lt (lt_pick false rfl (nt h1845) rfl) rfl (s_mv rfl ?_)))
  by_cases h1848 : x1846 = true
  ·replace hr := ipos h1848 hr
   refine at_on rfl rfl (nt h1848) (at_lt (lt_fieldAddr 2 rfl fld50_2 rfl) rfl (at_on rfl rfl (nt h1848) (at_lt (lt_load_box 0 rfl ti48 rfl rfl rfl rfl rfl) rfl ?_)))
   refine at_inv 2 rfl (fun i1849 => ?_)
   have l1850 := slice_len i1849
   refine at_on rfl rfl (nt h1848) (at_lt (lt_flen 2 rfl rfl und48) rfl (at_on rfl rfl (nt h1848) (at_lt (lt_lss rfl rfl) rfl (at_lt (lt_pick false rfl (nt h1848) rfl) rfl (s_mv rfl ?_)))))
   by_cases h1851 : a0.Codes.length < 1
   ·replace hr := ipos h1851 hr
    refine at_off rfl rfl (decide_eq_true (by omega)) rfl ?_
    refine at_off rfl rfl (decide_eq_true (by omega)) rfl ?_
    refine at_off rfl rfl (decide_eq_true (by omega)) rfl ?_
    refine at_off rfl rfl (decide_eq_true (by omega)) rfl ?_
    refine at_lt (lt_pick true rfl (decide_eq_true (by omega)) rfl) rfl ?_
    refine s_nt (at_true rfl rfl (s_sr (s_as rfl (s_nt (at_ret ?_)))))
    have hq := oinj hr
    clear hr
    subst hq
    refine at_then_ret ?_
    exact at_return (.bool false) [] hS Tryz.results55 (.cons (.tmp rfl) .nil) rfl rfl ⟨rfl, rfl⟩
   replace hr := ineg h1851 hr
   refine at_on rfl rfl (decide_eq_false (by omega)) ?_
   refine at_lt (lt_fieldAddr 2 rfl fld50_2 rfl) rfl ?_
   refine at_on rfl rfl (decide_eq_false (by omega)) ?_
   refine at_lt (lt_load_box 0 rfl ti48 rfl rfl rfl rfl rfl) rfl ?_
   refine at_on rfl rfl (decide_eq_false (by omega)) ?_
   refine at_lt (lt_flen 2 rfl rfl und48) rfl ?_
   refine at_on rfl rfl (decide_eq_false (by omega)) ?_
   refine at_lt (lt_gtr rfl rfl) rfl ?_
   refine at_lt (lt_pick false rfl (decide_eq_false (by omega)) rfl) rfl ?_
   refine s_nt ?_
   by_cases h1852 : 36 < a0.Codes.length
   ·replace hr := ipos h1852 hr
    refine at_true rfl (decide_eq_true (by omega)) ?_
    refine s_sr (s_as rfl (s_nt (at_ret ?_)))
    have hq := oinj hr
    clear hr
    subst hq
    refine at_then_ret ?_
    exact at_return (.bool false) [] hS Tryz.results55 (.cons (.tmp rfl) .nil) rfl rfl ⟨rfl, rfl⟩
   replace hr := ineg h1852 hr
   refine at_false rfl (decide_eq_false (by omega)) ?_
   refine at_skip (at_then (at_seq (s_sr (s_as rfl (s_nt (at_int .i64 0 (by simp only [lo, hi]; omega) ?_))))))
   replace hr := obind hr
   obtain ⟨r1854, hl1855, hk1856⟩ := hr
   refine at_cutP (V := (Unit) × (Unit)) (fun v => r1854 = Fl.go v.1) (fun v => (⟨[], [], [], []⟩ : St)) ?_ ?_
   ·refine at_block ?_
    refine at_loopW (σ := Nat) (V := Unit) (r := r1854) (fun n s => m55_l1 a0 n s) (fun s e => (⟨[(1, .pointer (some (Addr.add ⟨b1842, 0, none⟩ 0))), (3, .int .i64 (s : Int))], [⟨b1842, [str a0.From, str a0.To, s1841], 50⟩], [], [((Ty.int .i64).fact (s : Int) [.int .i64 (s : Int)]), (Ty.str.fact a0.From [str a0.From]), (Ty.str.fact a0.To [str a0.To]), ((Ty.slice ty83).fact a0.Codes [s1841])]⟩ : St)) (fun _ => rfl) _ 0 () hl1855 ⟨⟨rfl, ⟨rfl, trivial⟩⟩, ⟨[true], rfl⟩, ⟨[], rfl⟩, ⟨[0, 1, 2, 3], rfl⟩⟩ ?_
    clear hl1855
    intro n x1853 hr e
    skip
    skip
    change m55_l1 a0 (n + 1) x1853 = some r1854 at hr
    change At _ _ (⟨[(1, .pointer (some (Addr.add ⟨b1842, 0, none⟩ 0))), (3, .int .i64 (x1853 : Int))], [⟨b1842, [str a0.From, str a0.To, s1841], 50⟩], [], [((Ty.int .i64).fact (x1853 : Int) [.int .i64 (x1853 : Int)]), (Ty.str.fact a0.From [str a0.From]), (Ty.str.fact a0.To [str a0.To]), ((Ty.slice ty83).fact a0.Codes [s1841])]⟩ : St) _
    rw [m55_l1] at hr
    refine at_seq (s_sr (s_mv rfl (at_lt (lt_fieldAddr 2 rfl fld50_2 rfl) rfl (at_lt (lt_load_box 0 rfl ti48 rfl rfl rfl rfl rfl) rfl (at_lt (lt_flen 3 rfl rfl und48) rfl (at_lt (lt_lss rfl rfl) rfl (s_nt ?_)))))))
    by_cases h1857 : x1853 < a0.Codes.length
    ·replace hr := ipos h1857 hr
     refine at_true rfl (decide_eq_true (by omega)) ?_
     refine at_skip (at_then (at_seq (at_block (s_sr (at_lt (lt_fieldAddr 2 rfl fld50_2 rfl) rfl (at_lt (lt_load_box 0 rfl ti48 rfl rfl rfl rfl rfl) rfl (s_mv rfl ?_)))))))
     replace hr := obind hr
     obtain ⟨x1858, h1859, hr⟩ := hr
     have := (List.getElem?_eq_some_iff.1 h1859).1
     refine at_elem 3 rfl (nat_at' h1859) (fun p1860 ec pa1861 => ?_)
     refine at_open (A := Unit) 0 rfl _ _ (fun F w h => op83 h) ?_
     rintro _ rfl
     refine at_lt (lt_idx rfl rfl pa1861 und48 ti83) rfl (at_lt (lt_load_peek 1 rfl ti83 rfl rfl rfl rfl rfl) rfl (at_hv rfl ?_))
     refine hv_alloc (cs := [.int .u8 0, .int .u8 0]) ti83 rfl rfl (fun b1862 => ?_)
     refine at_hv rfl (hv_store_box 0 (cs' := [.int .u8 (x1858.From.toNat : Int), .int .u8 (x1858.To.toNat : Int)]) rfl rfl ti83 rfl rfl rfl rfl rfl (s_nt (at_seq ?_)))
     replace hr := obind hr
     obtain ⟨x1863, h1864, hr⟩ := hr
     by_cases h1865 : x1863 = true
     ·replace hr := ipos h1865 hr
      replace hr := obind hr
      obtain ⟨x1866, h1867, hr⟩ := hr
      by_cases h1868 : x1866 = true
      ·replace hr := ipos h1868 hr
       by_cases h1869 : 0 < x1853
       ·replace hr := ipos h1869 hr
        replace hr := obind hr
        obtain ⟨x1870, h1871, hr⟩ := hr
        have := at?_lt h1871
        refine at_elem 5 rfl h1871 (fun p1872 ec pa1873 => ?_)
        refine at_open (A := Unit) 0 rfl _ _ (fun F w h => op83 h) ?_
        rintro _ rfl
        refine aa_start 26 (by kernel_rfl) ?_
        refine aa_p 0 rfl (lt_fieldAddr 0 rfl fld83_0 rfl) (aa_l 1 rfl (lt_load_box 0 rfl ti5 rfl rfl rfl rfl rfl) (aa_one 2 (aa_op rfl rfl (hv_call0 [] (f88_spec h1864) rfl rfl rfl rfl ?_))))
        rintro _ _ ⟨rfl, rfl⟩
        refine aa_p 3 rfl (lt_not rfl) (aa_p 4 rfl (lt_move rfl) ?_)
        refine aa_pg 5 rfl ⟨43, rfl, .inl ⟨_, rfl, gdq (v := false) (nt h1865) rfl⟩⟩ (lt_fieldAddr 1 rfl fld83_1 rfl) ?_
        refine aa_lg 6 rfl ⟨43, rfl, .inl ⟨_, rfl, gdq (v := false) (nt h1865) rfl⟩⟩ (lt_load_box 0 rfl ti5 rfl rfl rfl rfl rfl) ?_
        refine aa_one 7 ?_
        refine aa_op rfl ⟨43, rfl, .inl ⟨_, rfl, gdq (v := false) (nt h1865) rfl⟩⟩ ?_
        refine hv_call0 [] (f88_spec h1867) rfl rfl rfl rfl ?_
        rintro _ _ ⟨rfl, rfl⟩
        refine aa_pg 8 rfl ⟨43, rfl, .inl ⟨_, rfl, gdq (v := false) (nt h1865) rfl⟩⟩ (lt_not rfl) ?_
        refine aa_p 9 rfl (lt_pick false rfl (nt h1865) rfl) (aa_p 10 rfl (lt_move rfl) ?_)
        refine aa_pg 11 rfl ⟨49, rfl, .inl ⟨_, rfl, gdq (v := false) (nt h1868) rfl⟩⟩ (lt_move rfl) ?_
        refine aa_pg 12 rfl ⟨49, rfl, .inl ⟨_, rfl, gdq (v := false) (nt h1868) rfl⟩⟩ (lt_gtr rfl rfl) ?_
        refine aa_pg 13 rfl ⟨49, rfl, .inl ⟨_, rfl, gdq (v := false) (nt h1868) rfl⟩⟩ (lt_move rfl) ?_
        refine aa_pg 14 rfl ⟨52, rfl, .inl ⟨_, rfl, gdq (v := true) (decide_eq_true (by omega)) rfl⟩⟩ (lt_fieldAddr 0 rfl fld83_0 rfl) ?_
        refine aa_lg 15 rfl ⟨52, rfl, .inl ⟨_, rfl, gdq (v := true) (decide_eq_true (by omega)) rfl⟩⟩ (lt_load_box 0 rfl ti5 rfl rfl rfl rfl rfl) ?_
        refine aa_pg 16 rfl ⟨52, rfl, .inl ⟨_, rfl, gdq (v := true) (decide_eq_true (by omega)) rfl⟩⟩ (lt_fieldAddr 2 rfl fld50_2 rfl) ?_
        refine aa_lg 17 rfl ⟨52, rfl, .inl ⟨_, rfl, gdq (v := true) (decide_eq_true (by omega)) rfl⟩⟩ (lt_load_box 1 rfl ti48 rfl rfl rfl rfl rfl) ?_
        refine aa_pg 18 rfl ⟨52, rfl, .inl ⟨_, rfl, gdq (v := true) (decide_eq_true (by omega)) rfl⟩⟩ (lt_move rfl) ?_
        refine aa_pg 19 rfl ⟨52, rfl, .inl ⟨_, rfl, gdq (v := true) (decide_eq_true (by omega)) rfl⟩⟩ (lt_sub rfl rfl (by simp only [lo, hi]; omega)) ?_
        refine aa_pg 20 rfl ⟨52, rfl, .inl ⟨_, rfl, gdq (v := true) (decide_eq_true (by omega)) rfl⟩⟩ (lt_idx rfl rfl pa1873 und48 ti83) ?_
        refine aa_pg 21 rfl ⟨52, rfl, .inl ⟨_, rfl, gdq (v := true) (decide_eq_true (by omega)) rfl⟩⟩ (lt_fieldAddr 0 rfl fld83_0 rfl) ?_
        refine aa_lg 22 rfl ⟨52, rfl, .inl ⟨_, rfl, gdq (v := true) (decide_eq_true (by omega)) rfl⟩⟩ (lt_load_peek 1 rfl ti5 rfl rfl rfl rfl rfl) ?_
        refine aa_pg 23 rfl ⟨52, rfl, .inl ⟨_, rfl, gdq (v := true) (decide_eq_true (by omega)) rfl⟩⟩ (lt_leq rfl rfl) ?_
        refine aa_pg 24 rfl ⟨49, rfl, .inl ⟨_, rfl, gdq (v := false) (nt h1868) rfl⟩⟩ (lt_pick true rfl (decide_eq_true (by omega)) rfl) ?_
        refine aa_p 25 rfl (lt_pick false rfl (nt h1868) rfl) ?_
        refine aa_done (by kernel_rfl) (ts_in 0 0 rfl rfl) ?_
        refine at_then ?_
        by_cases h1874 : x1858.From.toNat ≤ x1870.From.toNat
        ·replace hr := ipos h1874 hr
         refine at_true rfl (decide_eq_true (by omega)) ?_
         refine s_sr (s_as rfl (s_nt (at_ret ?_)))
         have hq := oinj hr
         clear hr
         subst hq
         have hq := oinj hk1856
         clear hk1856
         subst hq
         refine at_in_ret (at_then_ret (at_then_ret (at_in_ret (at_then_ret (at_then_ret ?_)))))
         exact at_return (.bool false) [] hS Tryz.results55 (.cons (.tmp rfl) .nil) rfl rfl ⟨rfl, rfl⟩
        replace hr := ineg h1874 hr
        refine at_false rfl (decide_eq_false (by omega)) ?_
        refine at_skip (at_in (s_tr (s_mv rfl (at_lt (lt_add rfl rfl (by simp only [lo, hi]; omega)) rfl (s_as rfl (at_nil (at_int .i64 (x1853 + 1 : Int) (by simp only [lo, hi]; omega) ?_)))))))
        exact at_again (σ := Nat) (V := Unit) (lp := fun n s => m55_l1 a0 n s) (S := fun s e => (⟨[(1, .pointer (some (Addr.add ⟨b1842, 0, none⟩ 0))), (3, .int .i64 (s : Int))], [⟨b1842, [str a0.From, str a0.To, s1841], 50⟩], [], [((Ty.int .i64).fact (s : Int) [.int .i64 (s : Int)]), (Ty.str.fact a0.From [str a0.From]), (Ty.str.fact a0.To [str a0.To]), ((Ty.slice ty83).fact a0.Codes [s1841])]⟩ : St)) (x1853 + 1) () hr ⟨⟨rfl, ⟨rfl, trivial⟩⟩, ⟨[false, true], rfl⟩, ⟨[], rfl⟩, ⟨[0, 6, 7, 8], rfl⟩⟩
       replace hr := ineg h1869 hr
       refine aa_start 26 (by kernel_rfl) ?_
       refine aa_p 0 rfl (lt_fieldAddr 0 rfl fld83_0 rfl) (aa_l 1 rfl (lt_load_box 0 rfl ti5 rfl rfl rfl rfl rfl) (aa_one 2 (aa_op rfl rfl (hv_call0 [] (f88_spec h1864) rfl rfl rfl rfl ?_))))
       rintro _ _ ⟨rfl, rfl⟩
       refine aa_p 3 rfl (lt_not rfl) (aa_p 4 rfl (lt_move rfl) ?_)
       refine aa_pg 5 rfl ⟨43, rfl, .inl ⟨_, rfl, gdq (v := false) (nt h1865) rfl⟩⟩ (lt_fieldAddr 1 rfl fld83_1 rfl) ?_
       refine aa_lg 6 rfl ⟨43, rfl, .inl ⟨_, rfl, gdq (v := false) (nt h1865) rfl⟩⟩ (lt_load_box 0 rfl ti5 rfl rfl rfl rfl rfl) ?_
       refine aa_one 7 ?_
       refine aa_op rfl ⟨43, rfl, .inl ⟨_, rfl, gdq (v := false) (nt h1865) rfl⟩⟩ ?_
       refine hv_call0 [] (f88_spec h1867) rfl rfl rfl rfl ?_
       rintro _ _ ⟨rfl, rfl⟩
       refine aa_pg 8 rfl ⟨43, rfl, .inl ⟨_, rfl, gdq (v := false) (nt h1865) rfl⟩⟩ (lt_not rfl) ?_
       refine aa_p 9 rfl (lt_pick false rfl (nt h1865) rfl) (aa_p 10 rfl (lt_move rfl) ?_)
       refine aa_pg 11 rfl ⟨49, rfl, .inl ⟨_, rfl, gdq (v := false) (nt h1868) rfl⟩⟩ (lt_move rfl) ?_
       refine aa_pg 12 rfl ⟨49, rfl, .inl ⟨_, rfl, gdq (v := false) (nt h1868) rfl⟩⟩ (lt_gtr rfl rfl) ?_
       refine aa_pg 13 rfl ⟨49, rfl, .inl ⟨_, rfl, gdq (v := false) (nt h1868) rfl⟩⟩ (lt_move rfl) ?_
       refine aa_o 14 rfl ⟨52, rfl, .inl ⟨_, rfl, gdq (v := false) (decide_eq_false (by omega)) rfl⟩⟩ ?_
       refine aa_o 15 rfl ⟨52, rfl, .inl ⟨_, rfl, gdq (v := false) (decide_eq_false (by omega)) rfl⟩⟩ ?_
       refine aa_o 16 rfl ⟨52, rfl, .inl ⟨_, rfl, gdq (v := false) (decide_eq_false (by omega)) rfl⟩⟩ ?_
       refine aa_o 17 rfl ⟨52, rfl, .inl ⟨_, rfl, gdq (v := false) (decide_eq_false (by omega)) rfl⟩⟩ ?_
       refine aa_o 18 rfl ⟨52, rfl, .inl ⟨_, rfl, gdq (v := false) (decide_eq_false (by omega)) rfl⟩⟩ ?_
       refine aa_o 19 rfl ⟨52, rfl, .inl ⟨_, rfl, gdq (v := false) (decide_eq_false (by omega)) rfl⟩⟩ ?_
       refine aa_o 20 rfl ⟨52, rfl, .inl ⟨_, rfl, gdq (v := false) (decide_eq_false (by omega)) rfl⟩⟩ ?_
       refine aa_o 21 rfl ⟨52, rfl, .inl ⟨_, rfl, gdq (v := false) (decide_eq_false (by omega)) rfl⟩⟩ ?_
       refine aa_o 22 rfl ⟨52, rfl, .inl ⟨_, rfl, gdq (v := false) (decide_eq_false (by omega)) rfl⟩⟩ ?_
       refine aa_o 23 rfl ⟨52, rfl, .inl ⟨_, rfl, gdq (v := false) (decide_eq_false (by omega)) rfl⟩⟩ ?_
       refine aa_pg 24 rfl ⟨49, rfl, .inl ⟨_, rfl, gdq (v := false) (nt h1868) rfl⟩⟩ (lt_pick false rfl (decide_eq_false (by omega)) rfl) ?_
       refine aa_p 25 rfl (lt_pick false rfl (nt h1868) rfl) ?_
       refine aa_done (by kernel_rfl) (ts_in 0 0 rfl rfl) ?_
       refine at_then (at_false rfl rfl (at_skip (at_in (s_tr (s_mv rfl (at_lt (lt_add rfl rfl (by simp only [lo, hi]; omega)) rfl (s_as rfl (at_nil (at_int .i64 (x1853 + 1 : Int) (by simp only [lo, hi]; omega) ?_)))))))))
       exact at_again (σ := Nat) (V := Unit) (lp := fun n s => m55_l1 a0 n s) (S := fun s e => (⟨[(1, .pointer (some (Addr.add ⟨b1842, 0, none⟩ 0))), (3, .int .i64 (s : Int))], [⟨b1842, [str a0.From, str a0.To, s1841], 50⟩], [], [((Ty.int .i64).fact (s : Int) [.int .i64 (s : Int)]), (Ty.str.fact a0.From [str a0.From]), (Ty.str.fact a0.To [str a0.To]), ((Ty.slice ty83).fact a0.Codes [s1841])]⟩ : St)) (x1853 + 1) () hr ⟨⟨rfl, ⟨rfl, trivial⟩⟩, ⟨[false, true], rfl⟩, ⟨[], rfl⟩, ⟨[0, 4, 5, 6], rfl⟩⟩
      replace hr := ineg h1868 hr
      refine aa_start 26 (by kernel_rfl) ?_
      refine aa_p 0 rfl (lt_fieldAddr 0 rfl fld83_0 rfl) (aa_l 1 rfl (lt_load_box 0 rfl ti5 rfl rfl rfl rfl rfl) (aa_one 2 (aa_op rfl rfl (hv_call0 [] (f88_spec h1864) rfl rfl rfl rfl ?_))))
      rintro _ _ ⟨rfl, rfl⟩
      refine aa_p 3 rfl (lt_not rfl) (aa_p 4 rfl (lt_move rfl) ?_)
      refine aa_pg 5 rfl ⟨43, rfl, .inl ⟨_, rfl, gdq (v := false) (nt h1865) rfl⟩⟩ (lt_fieldAddr 1 rfl fld83_1 rfl) ?_
      refine aa_lg 6 rfl ⟨43, rfl, .inl ⟨_, rfl, gdq (v := false) (nt h1865) rfl⟩⟩ (lt_load_box 0 rfl ti5 rfl rfl rfl rfl rfl) ?_
      refine aa_one 7 ?_
      refine aa_op rfl ⟨43, rfl, .inl ⟨_, rfl, gdq (v := false) (nt h1865) rfl⟩⟩ ?_
      refine hv_call0 [] (f88_spec h1867) rfl rfl rfl rfl ?_
      rintro _ _ ⟨rfl, rfl⟩
      refine aa_pg 8 rfl ⟨43, rfl, .inl ⟨_, rfl, gdq (v := false) (nt h1865) rfl⟩⟩ (lt_not rfl) ?_
      refine aa_p 9 rfl (lt_pick false rfl (nt h1865) rfl) (aa_p 10 rfl (lt_move rfl) ?_)
      refine aa_o 11 rfl ⟨49, rfl, .inl ⟨_, rfl, gdq (v := true) (nf (bf h1868)) rfl⟩⟩ ?_
      refine aa_o 12 rfl ⟨49, rfl, .inl ⟨_, rfl, gdq (v := true) (nf (bf h1868)) rfl⟩⟩ ?_
      refine aa_o 13 rfl ⟨49, rfl, .inl ⟨_, rfl, gdq (v := true) (nf (bf h1868)) rfl⟩⟩ ?_
      refine aa_o 14 rfl ⟨52, rfl, .inr ⟨rfl, rfl⟩⟩ ?_
      refine aa_o 15 rfl ⟨52, rfl, .inr ⟨rfl, rfl⟩⟩ ?_
      refine aa_o 16 rfl ⟨52, rfl, .inr ⟨rfl, rfl⟩⟩ ?_
      refine aa_o 17 rfl ⟨52, rfl, .inr ⟨rfl, rfl⟩⟩ ?_
      refine aa_o 18 rfl ⟨52, rfl, .inr ⟨rfl, rfl⟩⟩ ?_
      refine aa_o 19 rfl ⟨52, rfl, .inr ⟨rfl, rfl⟩⟩ ?_
      refine aa_o 20 rfl ⟨52, rfl, .inr ⟨rfl, rfl⟩⟩ ?_
      refine aa_o 21 rfl ⟨52, rfl, .inr ⟨rfl, rfl⟩⟩ ?_
      refine aa_o 22 rfl ⟨52, rfl, .inr ⟨rfl, rfl⟩⟩ ?_
      refine aa_o 23 rfl ⟨52, rfl, .inr ⟨rfl, rfl⟩⟩ ?_
      refine aa_o 24 rfl ⟨49, rfl, .inl ⟨_, rfl, gdq (v := true) (nf (bf h1868)) rfl⟩⟩ ?_
      refine aa_p 25 rfl (lt_pick true rfl (nf (bf h1868)) rfl) ?_
      refine aa_done (by kernel_rfl) (ts_in 0 0 rfl rfl) ?_
      refine at_then (at_true rfl rfl (s_sr (s_as rfl (s_nt (at_ret ?_)))))
      have hq := oinj hr
      clear hr
      subst hq
      have hq := oinj hk1856
      clear hk1856
      subst hq
      refine at_in_ret (at_then_ret (at_then_ret (at_in_ret (at_then_ret (at_then_ret ?_)))))
      exact at_return (.bool false) [] hS Tryz.results55 (.cons (.tmp rfl) .nil) rfl rfl ⟨rfl, rfl⟩
     replace hr := ineg h1865 hr
     refine aa_start 26 (by kernel_rfl) ?_
     refine aa_p 0 rfl (lt_fieldAddr 0 rfl fld83_0 rfl) (aa_l 1 rfl (lt_load_box 0 rfl ti5 rfl rfl rfl rfl rfl) (aa_one 2 (aa_op rfl rfl (hv_call0 [] (f88_spec h1864) rfl rfl rfl rfl ?_))))
     rintro _ _ ⟨rfl, rfl⟩
     refine aa_p 3 rfl (lt_not rfl) (aa_p 4 rfl (lt_move rfl) ?_)
     refine aa_o 5 rfl ⟨43, rfl, .inl ⟨_, rfl, gdq (v := true) (nf (bf h1865)) rfl⟩⟩ ?_
     refine aa_o 6 rfl ⟨43, rfl, .inl ⟨_, rfl, gdq (v := true) (nf (bf h1865)) rfl⟩⟩ ?_
     refine aa_o 7 rfl ⟨43, rfl, .inl ⟨_, rfl, gdq (v := true) (nf (bf h1865)) rfl⟩⟩ ?_
     refine aa_o 8 rfl ⟨43, rfl, .inl ⟨_, rfl, gdq (v := true) (nf (bf h1865)) rfl⟩⟩ ?_
     refine aa_p 9 rfl (lt_pick true rfl (nf (bf h1865)) rfl) (aa_p 10 rfl (lt_move rfl) ?_)
     refine aa_o 11 rfl ⟨49, rfl, .inl ⟨_, rfl, gdq (v := true) rfl rfl⟩⟩ ?_
     refine aa_o 12 rfl ⟨49, rfl, .inl ⟨_, rfl, gdq (v := true) rfl rfl⟩⟩ ?_
     refine aa_o 13 rfl ⟨49, rfl, .inl ⟨_, rfl, gdq (v := true) rfl rfl⟩⟩ ?_
     refine aa_o 14 rfl ⟨52, rfl, .inr ⟨rfl, rfl⟩⟩ ?_
     refine aa_o 15 rfl ⟨52, rfl, .inr ⟨rfl, rfl⟩⟩ ?_
     refine aa_o 16 rfl ⟨52, rfl, .inr ⟨rfl, rfl⟩⟩ ?_
     refine aa_o 17 rfl ⟨52, rfl, .inr ⟨rfl, rfl⟩⟩ ?_
     refine aa_o 18 rfl ⟨52, rfl, .inr ⟨rfl, rfl⟩⟩ ?_
     refine aa_o 19 rfl ⟨52, rfl, .inr ⟨rfl, rfl⟩⟩ ?_
     refine aa_o 20 rfl ⟨52, rfl, .inr ⟨rfl, rfl⟩⟩ ?_
     refine aa_o 21 rfl ⟨52, rfl, .inr ⟨rfl, rfl⟩⟩ ?_
     refine aa_o 22 rfl ⟨52, rfl, .inr ⟨rfl, rfl⟩⟩ ?_
     refine aa_o 23 rfl ⟨52, rfl, .inr ⟨rfl, rfl⟩⟩ ?_
     refine aa_o 24 rfl ⟨49, rfl, .inl ⟨_, rfl, gdq (v := true) rfl rfl⟩⟩ ?_
     refine aa_p 25 rfl (lt_pick true rfl rfl rfl) ?_
     refine aa_done (by kernel_rfl) (ts_in 0 0 rfl rfl) ?_
     refine at_then (at_true rfl rfl (s_sr (s_as rfl (s_nt (at_ret ?_)))))
     have hq := oinj hr
     clear hr
     subst hq
     have hq := oinj hk1856
     clear hk1856
     subst hq
     refine at_in_ret (at_then_ret (at_then_ret (at_in_ret (at_then_ret (at_then_ret ?_)))))
     exact at_return (.bool false) [] hS Tryz.results55 (.cons (.tmp rfl) .nil) rfl rfl ⟨rfl, rfl⟩
    replace hr := ineg h1857 hr
    refine at_false rfl (decide_eq_false (by omega)) ?_
    refine at_exit (at_then_exit (at_then_exit (at_in_exit ?_)))
    have hq := oinj hr
    clear hr
    subst hq
    exact at_leafP ((), ()) rfl ⟨trivial, ⟨[false], rfl⟩, ⟨[], rfl⟩, ⟨[], rfl⟩⟩
   rintro ⟨_, _⟩ hp
   replace hr := hk1856
   subst hp
   clear hl1855
   change At _ _ (⟨[], [], [], []⟩ : St) _
   refine s_tsr (s_as rfl (s_nt (at_ret ?_)))
   have hq := oinj hr
   clear hr
   subst hq
   exact at_return (.bool true) [] hS Tryz.results55 (.cons (.tmp rfl) .nil) rfl rfl ⟨rfl, rfl⟩
  replace hr := ineg h1848 hr
  refine at_off rfl rfl (nf (bf h1848)) rfl (at_off rfl rfl (nf (bf h1848)) rfl (at_off rfl rfl (nf (bf h1848)) rfl (at_off rfl rfl (nf (bf h1848)) rfl (at_lt (lt_pick true rfl (nf (bf h1848)) rfl) rfl (s_mv rfl (at_off rfl rfl rfl rfl (at_off rfl rfl rfl rfl (at_off rfl rfl rfl rfl (at_off rfl rfl rfl rfl ?_)))))))))
  refine at_lt (lt_pick true rfl rfl rfl) rfl (s_nt (at_true rfl rfl (s_sr (s_as rfl (s_nt (at_ret ?_))))))
  have hq := oinj hr
  clear hr
  subst hq
  refine at_then_ret ?_
  exact at_return (.bool false) [] hS Tryz.results55 (.cons (.tmp rfl) .nil) rfl rfl ⟨rfl, rfl⟩
 replace hr := ineg h1845 hr
 refine at_off rfl rfl (nf (bf h1845)) rfl (at_off rfl rfl (nf (bf h1845)) rfl (at_off rfl rfl (nf (bf h1845)) rfl (at_off rfl rfl (nf (bf h1845)) rfl (at_lt (lt_pick true rfl (nf (bf h1845)) rfl) rfl (s_mv rfl (at_off rfl rfl rfl rfl (at_off rfl rfl rfl rfl (at_off rfl rfl rfl rfl (at_off rfl rfl rfl rfl ?_)))))))))
 refine at_lt (lt_pick true rfl rfl rfl) rfl (s_mv rfl (at_off rfl rfl rfl rfl (at_off rfl rfl rfl rfl (at_off rfl rfl rfl rfl (at_off rfl rfl rfl rfl (at_lt (lt_pick true rfl rfl rfl) rfl (s_nt (at_true rfl rfl (s_sr ?_)))))))))
 refine s_as rfl (s_nt (at_ret ?_))
 have hq := oinj hr
 clear hr
 subst hq
 refine at_then_ret ?_
 exact at_return (.bool false) [] hS Tryz.results55 (.cons (.tmp rfl) .nil) rfl rfl ⟨rfl, rfl⟩
def m24_l1 (a0 : (List D_ref16_Entry)) : Nat → Nat → Option (Fl Bool Unit)
  | 0, _ => none
  | k + 1, x1876 =>
    if x1876 < a0.length then
     (a0[x1876]?).bind fun x1883 =>
     (m55 x1883).bind fun x1888 =>
     if x1888 = true then
      if 0 < x1876 then
       (a0[x1876]?).bind fun x1892 =>
       (at? a0 ((x1876 : Int) - 1)).bind fun x1897 =>
       if (Op.bytesLess x1897.From x1892.From) = true then
        m24_l1 a0 k (x1876 + 1)
       else
        some (Fl.ret false)
      else
       m24_l1 a0 k (x1876 + 1)
     else
      some (Fl.ret false)
    else
     some (Fl.go ())
def m24 (a0 : (List D_ref16_Entry)) : Option Bool :=
  (m24_l1 a0 (a0.length + 1) 0).bind fun r => match r with
  | .ret x => some x
  | .go _ =>
   some (decide ((a0.length : Int) ≤ 60))
def post24 (r : Bool) (v : Value) (fs : List Fact) : Prop := v = .bool r ∧ fs = []
theorem en24 : Enters Tryz.prog 24 := ⟨_, Tryz.func24, by kernel_rfl, rfl⟩
theorem f24_spec {a0 : (List D_ref16_Entry)} {w1875 : Value} {r : Bool} (hr : m24 a0 = some r) : Spec Tryz.prog 24 [w1875] [((Ty.slice ty50).fact a0 [w1875])] (post24 r) := by
 refine spec_start (N := 37) Tryz.func24 (by kernel_rfl) rfl rfl rfl ?_
 intro g hS
 unfold m24 at hr
 refine s_sr (s_as rfl (s_nt (at_seq (s_sr (s_as rfl (s_nt (at_int .i64 0 (by simp only [lo, hi]; omega) ?_)))))))
 replace hr := obind hr
 obtain ⟨r1877, hl1878, hk1879⟩ := hr
 refine at_cutP (V := (Unit) × (Unit)) (fun v => r1877 = Fl.go v.1) (fun v => (⟨[(0, w1875)], [], [], [((Ty.slice ty50).fact a0 [w1875])]⟩ : St)) ?_ ?_
 ·refine at_block ?_
  refine at_loopW (σ := Nat) (V := Unit) (r := r1877) (fun n s => m24_l1 a0 n s) (fun s e => (⟨[(0, w1875), (3, .int .i64 (s : Int))], [], [], [((Ty.int .i64).fact (s : Int) [.int .i64 (s : Int)]), ((Ty.slice ty50).fact a0 [w1875])]⟩ : St)) (fun _ => rfl) _ 0 () hl1878 ⟨⟨rfl, ⟨rfl, trivial⟩⟩, ⟨[], rfl⟩, ⟨[], rfl⟩, ⟨[0, 1], rfl⟩⟩ ?_
  clear hl1878
  intro n x1876 hr e
  skip
  skip
  change m24_l1 a0 (n + 1) x1876 = some r1877 at hr
  change At _ _ (⟨[(0, w1875), (3, .int .i64 (x1876 : Int))], [], [], [((Ty.int .i64).fact (x1876 : Int) [.int .i64 (x1876 : Int)]), ((Ty.slice ty50).fact a0 [w1875])]⟩ : St) _
  rw [m24_l1] at hr
  refine at_seq (s_sr (s_mv rfl (s_mv rfl ?_)))
  refine at_inv 1 rfl (fun i1880 => ?_)
  have l1881 := slice_len i1880
  refine at_lt (lt_flen 1 rfl rfl und22) rfl (at_lt (lt_lss rfl rfl) rfl (s_nt ?_))
  by_cases h1882 : x1876 < a0.length
  ·replace hr := ipos h1882 hr
   refine at_true rfl (decide_eq_true (by omega)) ?_
   refine at_skip (at_then (at_seq (at_block (at_seq ?_))))
   replace hr := obind hr
   obtain ⟨x1883, h1884, hr⟩ := hr
   have := (List.getElem?_eq_some_iff.1 h1884).1
   refine at_elem 1 rfl (nat_at' h1884) (fun p1886 ec pa1887 => ?_)
   refine at_open (A := Value) 0 rfl _ _ (fun F w h => op50 h) ?_
   rintro s1885 rfl
   replace hr := obind hr
   obtain ⟨x1888, h1889, hr⟩ := hr
   by_cases h1890 : x1888 = true
   ·replace hr := ipos h1890 hr
    by_cases h1891 : 0 < x1876
    ·replace hr := ipos h1891 hr
     replace hr := obind hr
     obtain ⟨x1892, h1893, hr⟩ := hr
     have := (List.getElem?_eq_some_iff.1 h1893).1
     refine at_elem 6 rfl (nat_at' h1893) (fun p1895 ec pa1896 => ?_)
     refine at_open (A := Value) 0 rfl _ _ (fun F w h => op50 h) ?_
     rintro s1894 rfl
     replace hr := obind hr
     obtain ⟨x1897, h1898, hr⟩ := hr
     have := at?_lt h1898
     refine at_elem 11 rfl h1898 (fun p1900 ec pa1901 => ?_)
     refine at_open (A := Value) 0 rfl _ _ (fun F w h => op50 h) ?_
     rintro s1899 rfl
     refine aa_start 24 (by kernel_rfl) ?_
     refine aa_p 0 rfl (lt_move rfl) (aa_p 1 rfl (lt_move rfl) (aa_p 2 rfl (lt_idx rfl rfl pa1887 und22 ti50) (aa_l 3 rfl (lt_load_peek 14 rfl ti50 rfl rfl rfl rfl rfl) (aa_one 4 (aa_op rfl rfl (hv_call0 [13] (f55_spec h1889) rfl rfl rfl rfl ?_))))))
     rintro _ _ ⟨rfl, rfl⟩
     refine aa_p 5 rfl (lt_not rfl) (aa_p 6 rfl (lt_move rfl) ?_)
     refine aa_pg 7 rfl ⟨16, rfl, .inl ⟨_, rfl, gdq (v := false) (nt h1890) rfl⟩⟩ (lt_move rfl) ?_
     refine aa_pg 8 rfl ⟨16, rfl, .inl ⟨_, rfl, gdq (v := false) (nt h1890) rfl⟩⟩ (lt_gtr rfl rfl) ?_
     refine aa_pg 9 rfl ⟨16, rfl, .inl ⟨_, rfl, gdq (v := false) (nt h1890) rfl⟩⟩ (lt_move rfl) ?_
     refine aa_pg 10 rfl ⟨19, rfl, .inl ⟨_, rfl, gdq (v := true) (decide_eq_true (by omega)) rfl⟩⟩ (lt_move rfl) ?_
     refine aa_pg 11 rfl ⟨19, rfl, .inl ⟨_, rfl, gdq (v := true) (decide_eq_true (by omega)) rfl⟩⟩ (lt_move rfl) ?_
     refine aa_pg 12 rfl ⟨19, rfl, .inl ⟨_, rfl, gdq (v := true) (decide_eq_true (by omega)) rfl⟩⟩ (lt_idx rfl rfl pa1896 und22 ti50) ?_
     refine aa_pg 13 rfl ⟨19, rfl, .inl ⟨_, rfl, gdq (v := true) (decide_eq_true (by omega)) rfl⟩⟩ (lt_fieldAddr 0 rfl fld50_0 rfl) ?_
     refine aa_lg 14 rfl ⟨19, rfl, .inl ⟨_, rfl, gdq (v := true) (decide_eq_true (by omega)) rfl⟩⟩ (lt_load_peek 9 rfl ti9 rfl rfl rfl rfl rfl) ?_
     refine aa_pg 15 rfl ⟨19, rfl, .inl ⟨_, rfl, gdq (v := true) (decide_eq_true (by omega)) rfl⟩⟩ (lt_move rfl) ?_
     refine aa_pg 16 rfl ⟨19, rfl, .inl ⟨_, rfl, gdq (v := true) (decide_eq_true (by omega)) rfl⟩⟩ (lt_move rfl) ?_
     refine aa_pg 17 rfl ⟨19, rfl, .inl ⟨_, rfl, gdq (v := true) (decide_eq_true (by omega)) rfl⟩⟩ (lt_sub rfl rfl (by simp only [lo, hi]; omega)) ?_
     refine aa_pg 18 rfl ⟨19, rfl, .inl ⟨_, rfl, gdq (v := true) (decide_eq_true (by omega)) rfl⟩⟩ (lt_idx rfl rfl pa1901 und22 ti50) ?_
     refine aa_pg 19 rfl ⟨19, rfl, .inl ⟨_, rfl, gdq (v := true) (decide_eq_true (by omega)) rfl⟩⟩ (lt_fieldAddr 0 rfl fld50_0 rfl) ?_
     refine aa_lg 20 rfl ⟨19, rfl, .inl ⟨_, rfl, gdq (v := true) (decide_eq_true (by omega)) rfl⟩⟩ (lt_load_peek 4 rfl ti9 rfl rfl rfl rfl rfl) ?_
     refine aa_pg 21 rfl ⟨19, rfl, .inl ⟨_, rfl, gdq (v := true) (decide_eq_true (by omega)) rfl⟩⟩ (lt_sleq rfl rfl) ?_
     refine aa_pg 22 rfl ⟨16, rfl, .inl ⟨_, rfl, gdq (v := false) (nt h1890) rfl⟩⟩ (lt_pick true rfl (decide_eq_true (by omega)) rfl) ?_
     refine aa_p 23 rfl (lt_pick false rfl (nt h1890) rfl) ?_
     refine aa_done (by kernel_rfl) (ts_in 0 0 rfl rfl) ?_
     refine at_then ?_
     by_cases h1902 : (Op.bytesLess x1897.From x1892.From) = true
     ·replace hr := ipos h1902 hr
      refine at_false rfl (nt h1902) (at_skip (at_in (s_tr (s_mv rfl (at_lt (lt_add rfl rfl (by simp only [lo, hi]; omega)) rfl (s_as rfl (at_nil (at_int .i64 (x1876 + 1 : Int) (by simp only [lo, hi]; omega) ?_))))))))
      exact at_again (σ := Nat) (V := Unit) (lp := fun n s => m24_l1 a0 n s) (S := fun s e => (⟨[(0, w1875), (3, .int .i64 (s : Int))], [], [], [((Ty.int .i64).fact (s : Int) [.int .i64 (s : Int)]), ((Ty.slice ty50).fact a0 [w1875])]⟩ : St)) (x1876 + 1) () hr ⟨⟨rfl, ⟨rfl, trivial⟩⟩, ⟨[], rfl⟩, ⟨[], rfl⟩, ⟨[0, 17], rfl⟩⟩
     replace hr := ineg h1902 hr
     refine at_true rfl (nf (bf h1902)) (s_sr (s_as rfl (s_nt (at_ret ?_))))
     have hq := oinj hr
     clear hr
     subst hq
     have hq := oinj hk1879
     clear hk1879
     subst hq
     refine at_in_ret (at_then_ret (at_then_ret (at_in_ret (at_then_ret (at_then_ret ?_)))))
     exact at_return (.bool false) [] hS Tryz.results24 (.cons (.tmp rfl) .nil) rfl rfl ⟨rfl, rfl⟩
    replace hr := ineg h1891 hr
    refine aa_start 24 (by kernel_rfl) ?_
    refine aa_p 0 rfl (lt_move rfl) (aa_p 1 rfl (lt_move rfl) (aa_p 2 rfl (lt_idx rfl rfl pa1887 und22 ti50) (aa_l 3 rfl (lt_load_peek 4 rfl ti50 rfl rfl rfl rfl rfl) (aa_one 4 (aa_op rfl rfl (hv_call0 [3] (f55_spec h1889) rfl rfl rfl rfl ?_))))))
    rintro _ _ ⟨rfl, rfl⟩
    refine aa_p 5 rfl (lt_not rfl) (aa_p 6 rfl (lt_move rfl) ?_)
    refine aa_pg 7 rfl ⟨16, rfl, .inl ⟨_, rfl, gdq (v := false) (nt h1890) rfl⟩⟩ (lt_move rfl) ?_
    refine aa_pg 8 rfl ⟨16, rfl, .inl ⟨_, rfl, gdq (v := false) (nt h1890) rfl⟩⟩ (lt_gtr rfl rfl) ?_
    refine aa_pg 9 rfl ⟨16, rfl, .inl ⟨_, rfl, gdq (v := false) (nt h1890) rfl⟩⟩ (lt_move rfl) ?_
    refine aa_o 10 rfl ⟨19, rfl, .inl ⟨_, rfl, gdq (v := false) (decide_eq_false (by omega)) rfl⟩⟩ ?_
    refine aa_o 11 rfl ⟨19, rfl, .inl ⟨_, rfl, gdq (v := false) (decide_eq_false (by omega)) rfl⟩⟩ ?_
    refine aa_o 12 rfl ⟨19, rfl, .inl ⟨_, rfl, gdq (v := false) (decide_eq_false (by omega)) rfl⟩⟩ ?_
    refine aa_o 13 rfl ⟨19, rfl, .inl ⟨_, rfl, gdq (v := false) (decide_eq_false (by omega)) rfl⟩⟩ ?_
    refine aa_o 14 rfl ⟨19, rfl, .inl ⟨_, rfl, gdq (v := false) (decide_eq_false (by omega)) rfl⟩⟩ ?_
    refine aa_o 15 rfl ⟨19, rfl, .inl ⟨_, rfl, gdq (v := false) (decide_eq_false (by omega)) rfl⟩⟩ ?_
    refine aa_o 16 rfl ⟨19, rfl, .inl ⟨_, rfl, gdq (v := false) (decide_eq_false (by omega)) rfl⟩⟩ ?_
    refine aa_o 17 rfl ⟨19, rfl, .inl ⟨_, rfl, gdq (v := false) (decide_eq_false (by omega)) rfl⟩⟩ ?_
    refine aa_o 18 rfl ⟨19, rfl, .inl ⟨_, rfl, gdq (v := false) (decide_eq_false (by omega)) rfl⟩⟩ ?_
    refine aa_o 19 rfl ⟨19, rfl, .inl ⟨_, rfl, gdq (v := false) (decide_eq_false (by omega)) rfl⟩⟩ ?_
    refine aa_o 20 rfl ⟨19, rfl, .inl ⟨_, rfl, gdq (v := false) (decide_eq_false (by omega)) rfl⟩⟩ ?_
    refine aa_o 21 rfl ⟨19, rfl, .inl ⟨_, rfl, gdq (v := false) (decide_eq_false (by omega)) rfl⟩⟩ ?_
    refine aa_pg 22 rfl ⟨16, rfl, .inl ⟨_, rfl, gdq (v := false) (nt h1890) rfl⟩⟩ (lt_pick false rfl (decide_eq_false (by omega)) rfl) ?_
    refine aa_p 23 rfl (lt_pick false rfl (nt h1890) rfl) ?_
    refine aa_done (by kernel_rfl) (ts_in 0 0 rfl rfl) ?_
    refine at_then (at_false rfl rfl (at_skip (at_in (s_tr (s_mv rfl (at_lt (lt_add rfl rfl (by simp only [lo, hi]; omega)) rfl (s_as rfl (at_nil (at_int .i64 (x1876 + 1 : Int) (by simp only [lo, hi]; omega) ?_)))))))))
    exact at_again (σ := Nat) (V := Unit) (lp := fun n s => m24_l1 a0 n s) (S := fun s e => (⟨[(0, w1875), (3, .int .i64 (s : Int))], [], [], [((Ty.int .i64).fact (s : Int) [.int .i64 (s : Int)]), ((Ty.slice ty50).fact a0 [w1875])]⟩ : St)) (x1876 + 1) () hr ⟨⟨rfl, ⟨rfl, trivial⟩⟩, ⟨[], rfl⟩, ⟨[], rfl⟩, ⟨[0, 7], rfl⟩⟩
   replace hr := ineg h1890 hr
   refine aa_start 24 (by kernel_rfl) ?_
   refine aa_p 0 rfl (lt_move rfl) (aa_p 1 rfl (lt_move rfl) (aa_p 2 rfl (lt_idx rfl rfl pa1887 und22 ti50) (aa_l 3 rfl (lt_load_peek 4 rfl ti50 rfl rfl rfl rfl rfl) (aa_one 4 (aa_op rfl rfl (hv_call0 [3] (f55_spec h1889) rfl rfl rfl rfl ?_))))))
   rintro _ _ ⟨rfl, rfl⟩
   refine aa_p 5 rfl (lt_not rfl) (aa_p 6 rfl (lt_move rfl) ?_)
   refine aa_o 7 rfl ⟨16, rfl, .inl ⟨_, rfl, gdq (v := true) (nf (bf h1890)) rfl⟩⟩ ?_
   refine aa_o 8 rfl ⟨16, rfl, .inl ⟨_, rfl, gdq (v := true) (nf (bf h1890)) rfl⟩⟩ ?_
   refine aa_o 9 rfl ⟨16, rfl, .inl ⟨_, rfl, gdq (v := true) (nf (bf h1890)) rfl⟩⟩ ?_
   refine aa_o 10 rfl ⟨19, rfl, .inr ⟨rfl, rfl⟩⟩ ?_
   refine aa_o 11 rfl ⟨19, rfl, .inr ⟨rfl, rfl⟩⟩ ?_
   refine aa_o 12 rfl ⟨19, rfl, .inr ⟨rfl, rfl⟩⟩ ?_
   refine aa_o 13 rfl ⟨19, rfl, .inr ⟨rfl, rfl⟩⟩ ?_
   refine aa_o 14 rfl ⟨19, rfl, .inr ⟨rfl, rfl⟩⟩ ?_
   refine aa_o 15 rfl ⟨19, rfl, .inr ⟨rfl, rfl⟩⟩ ?_
   refine aa_o 16 rfl ⟨19, rfl, .inr ⟨rfl, rfl⟩⟩ ?_
   refine aa_o 17 rfl ⟨19, rfl, .inr ⟨rfl, rfl⟩⟩ ?_
   refine aa_o 18 rfl ⟨19, rfl, .inr ⟨rfl, rfl⟩⟩ ?_
   refine aa_o 19 rfl ⟨19, rfl, .inr ⟨rfl, rfl⟩⟩ ?_
   refine aa_o 20 rfl ⟨19, rfl, .inr ⟨rfl, rfl⟩⟩ ?_
   refine aa_o 21 rfl ⟨19, rfl, .inr ⟨rfl, rfl⟩⟩ ?_
   refine aa_o 22 rfl ⟨16, rfl, .inl ⟨_, rfl, gdq (v := true) (nf (bf h1890)) rfl⟩⟩ ?_
   refine aa_p 23 rfl (lt_pick true rfl (nf (bf h1890)) rfl) ?_
   refine aa_done (by kernel_rfl) (ts_in 0 0 rfl rfl) ?_
   refine at_then (at_true rfl rfl (s_sr (s_as rfl (s_nt (at_ret ?_)))))
   have hq := oinj hr
   clear hr
   subst hq
   have hq := oinj hk1879
   clear hk1879
   subst hq
   refine at_in_ret (at_then_ret (at_then_ret (at_in_ret (at_then_ret (at_then_ret ?_)))))
   exact at_return (.bool false) [] hS Tryz.results24 (.cons (.tmp rfl) .nil) rfl rfl ⟨rfl, rfl⟩
  replace hr := ineg h1882 hr
  refine at_false rfl (decide_eq_false (by omega)) ?_
  refine at_exit (at_then_exit (at_then_exit (at_in_exit ?_)))
  have hq := oinj hr
  clear hr
  subst hq
  exact at_leafP ((), ()) rfl ⟨⟨rfl, trivial⟩, ⟨[], rfl⟩, ⟨[], rfl⟩, ⟨[1], rfl⟩⟩
 rintro ⟨_, _⟩ hp
 replace hr := hk1879
 subst hp
 clear hl1878
 change At _ _ (⟨[(0, w1875)], [], [], [((Ty.slice ty50).fact a0 [w1875])]⟩ : St) _
 refine s_tsr (s_mv rfl ?_)
 refine at_inv 0 rfl (fun i1903 => ?_)
 have l1904 := slice_len i1903
 refine at_lt (lt_flen 0 rfl rfl und22) rfl (at_lt (lt_leq rfl rfl) rfl (s_as rfl (s_nt (at_ret ?_))))
 have hq := oinj hr
 clear hr
 subst hq
 exact at_return (.bool (decide ((a0.length : Int) ≤ 60))) [] hS Tryz.results24 (.cons (.tmp rfl) .nil) rfl rfl ⟨rfl, rfl⟩
def m39_l1 (a0 : (List D_ref16_Entry)) (a1 : Str) (a2 : Bool) : Nat → Nat → Option (Fl Int Unit)
  | 0, _ => none
  | k + 1, x1906 =>
    if x1906 < a0.length then
     if a2 = true then
      (a0[x1906]?).bind fun x1914 =>
      if x1914.To = a1 then
       some (Fl.ret (x1906 : Int))
      else
       m39_l1 a0 a1 a2 k (x1906 + 1)
     else
      (a0[x1906]?).bind fun x1920 =>
      if x1920.From = a1 then
       some (Fl.ret (x1906 : Int))
      else
       m39_l1 a0 a1 a2 k (x1906 + 1)
    else
     some (Fl.go ())
def m39 (a0 : (List D_ref16_Entry)) (a1 : Str) (a2 : Bool) : Option Int :=
  (m39_l1 a0 a1 a2 (a0.length + 1) 0).bind fun r => match r with
  | .ret x => some x
  | .go _ =>
   some (-1)
def post39 (r : Int) (v : Value) (fs : List Fact) : Prop := v = .int .i64 r ∧ fs = [((Ty.int .i64).fact r [.int .i64 r])]
theorem en39 : Enters Tryz.prog 39 := ⟨_, Tryz.func39, by kernel_rfl, rfl⟩
theorem f39_spec {a0 : (List D_ref16_Entry)} {a1 : Str} {a2 : Bool} {w1905 : Value} {r : Int} (hr : m39 a0 a1 a2 = some r) : Spec Tryz.prog 39 [w1905, str a1, .bool a2] [((Ty.slice ty50).fact a0 [w1905]), (Ty.str.fact a1 [str a1])] (post39 r) := by
 refine spec_start (N := 38) Tryz.func39 (by kernel_rfl) rfl rfl rfl ?_
 intro g hS
 unfold m39 at hr
 refine s_sr (s_as rfl (s_nt (at_seq (s_sr (s_as rfl (s_nt (at_int .i64 0 (by simp only [lo, hi]; omega) ?_)))))))
 replace hr := obind hr
 obtain ⟨r1907, hl1908, hk1909⟩ := hr
 refine at_cutP (V := (Unit) × (Unit)) (fun v => r1907 = Fl.go v.1) (fun v => (⟨[], [], [], []⟩ : St)) ?_ ?_
 ·refine at_block ?_
  refine at_loopW (σ := Nat) (V := Unit) (r := r1907) (fun n s => m39_l1 a0 a1 a2 n s) (fun s e => (⟨[(0, w1905), (1, str a1), (2, .bool a2), (7, .int .i64 (s : Int))], [], [], [((Ty.int .i64).fact (s : Int) [.int .i64 (s : Int)]), ((Ty.slice ty50).fact a0 [w1905]), (Ty.str.fact a1 [str a1])]⟩ : St)) (fun _ => rfl) _ 0 () hl1908 ⟨⟨rfl, ⟨rfl, ⟨rfl, ⟨rfl, trivial⟩⟩⟩⟩, ⟨[], rfl⟩, ⟨[], rfl⟩, ⟨[0, 1, 2], rfl⟩⟩ ?_
  clear hl1908
  intro n x1906 hr e
  skip
  skip
  change m39_l1 a0 a1 a2 (n + 1) x1906 = some r1907 at hr
  change At _ _ (⟨[(0, w1905), (1, str a1), (2, .bool a2), (7, .int .i64 (x1906 : Int))], [], [], [((Ty.int .i64).fact (x1906 : Int) [.int .i64 (x1906 : Int)]), ((Ty.slice ty50).fact a0 [w1905]), (Ty.str.fact a1 [str a1])]⟩ : St) _
  rw [m39_l1] at hr
  refine at_seq (s_sr (s_mv rfl (s_mv rfl ?_)))
  refine at_inv 1 rfl (fun i1910 => ?_)
  have l1911 := slice_len i1910
  refine at_lt (lt_flen 1 rfl rfl und22) rfl (at_lt (lt_lss rfl rfl) rfl (s_nt ?_))
  by_cases h1912 : x1906 < a0.length
  ·replace hr := ipos h1912 hr
   refine at_true rfl (decide_eq_true (by omega)) ?_
   refine at_skip (at_then (at_seq (at_block (s_sr (s_mv rfl (at_lt (lt_not rfl) rfl (s_mv rfl ?_)))))))
   by_cases h1913 : a2 = true
   ·replace hr := ipos h1913 hr
    refine at_off rfl rfl (nt h1913) rfl (at_off rfl rfl (nt h1913) rfl (at_off rfl rfl (nt h1913) rfl (at_off rfl rfl (nt h1913) rfl (at_off rfl rfl (nt h1913) rfl (at_off rfl rfl (nt h1913) rfl (at_off rfl rfl (nt h1913) rfl (at_lt (lt_pick false rfl (nt h1913) rfl) rfl (s_mv rfl (at_on rfl rfl rfl ?_)))))))))
    refine s_mv rfl (at_on rfl rfl rfl (s_mv rfl (at_on rfl rfl h1913 (s_mv rfl (at_on rfl rfl h1913 (s_mv rfl ?_))))))
    replace hr := obind hr
    obtain ⟨x1914, h1915, hr⟩ := hr
    have := (List.getElem?_eq_some_iff.1 h1915).1
    refine at_elem 1 rfl (nat_at' h1915) (fun p1917 ec pa1918 => ?_)
    refine at_open (A := Value) 0 rfl _ _ (fun F w h => op50 h) ?_
    rintro s1916 rfl
    refine at_on rfl rfl h1913 (at_lt (lt_idx rfl rfl pa1918 und22 ti50) rfl (at_on rfl rfl h1913 (at_lt (lt_fieldAddr 1 rfl fld50_1 rfl) rfl (at_on rfl rfl h1913 (at_lt (lt_load_peek 4 rfl ti9 rfl rfl rfl rfl rfl) rfl (at_on rfl rfl h1913 (s_mv rfl (at_on rfl rfl h1913 (at_lt (lt_seql rfl rfl) rfl ?_)))))))))
    refine at_on rfl rfl rfl (at_lt (lt_pick true rfl h1913 rfl) rfl (at_lt (lt_pick false rfl rfl rfl) rfl (s_nt ?_)))
    by_cases h1919 : x1914.To = a1
    ·replace hr := ipos h1919 hr
     refine at_true rfl (decide_eq_true h1919) (s_sr (s_mv rfl (s_as rfl (s_nt (at_ret ?_)))))
     have hq := oinj hr
     clear hr
     subst hq
     have hq := oinj hk1909
     clear hk1909
     subst hq
     refine at_in_ret (at_then_ret (at_then_ret (at_in_ret (at_then_ret (at_then_ret ?_)))))
     exact at_return (.int .i64 (x1906 : Int)) [5] hS Tryz.results39 (.cons (.tmp rfl) .nil) rfl rfl ⟨rfl, rfl⟩
    replace hr := ineg h1919 hr
    refine at_false rfl (decide_eq_false h1919) (at_skip (at_in (s_tr (s_mv rfl (at_lt (lt_add rfl rfl (by simp only [lo, hi]; omega)) rfl (s_as rfl (at_nil (at_int .i64 (x1906 + 1 : Int) (by simp only [lo, hi]; omega) ?_))))))))
    exact at_again (σ := Nat) (V := Unit) (lp := fun n s => m39_l1 a0 a1 a2 n s) (S := fun s e => (⟨[(0, w1905), (1, str a1), (2, .bool a2), (7, .int .i64 (s : Int))], [], [], [((Ty.int .i64).fact (s : Int) [.int .i64 (s : Int)]), ((Ty.slice ty50).fact a0 [w1905]), (Ty.str.fact a1 [str a1])]⟩ : St)) (x1906 + 1) () hr ⟨⟨rfl, ⟨rfl, ⟨rfl, ⟨rfl, trivial⟩⟩⟩⟩, ⟨[], rfl⟩, ⟨[], rfl⟩, ⟨[0, 7, 8], rfl⟩⟩
   replace hr := ineg h1913 hr
   refine at_on rfl rfl (nf (bf h1913)) (s_mv rfl (at_on rfl rfl (nf (bf h1913)) (s_mv rfl ?_)))
   replace hr := obind hr
   obtain ⟨x1920, h1921, hr⟩ := hr
   have := (List.getElem?_eq_some_iff.1 h1921).1
   refine at_elem 1 rfl (nat_at' h1921) (fun p1923 ec pa1924 => ?_)
   refine at_open (A := Value) 0 rfl _ _ (fun F w h => op50 h) ?_
   rintro s1922 rfl
   refine at_on rfl rfl (nf (bf h1913)) (at_lt (lt_idx rfl rfl pa1924 und22 ti50) rfl (at_on rfl rfl (nf (bf h1913)) (at_lt (lt_fieldAddr 0 rfl fld50_0 rfl) rfl (at_on rfl rfl (nf (bf h1913)) (at_lt (lt_load_peek 4 rfl ti9 rfl rfl rfl rfl rfl) rfl (at_on rfl rfl (nf (bf h1913)) (s_mv rfl (at_on rfl rfl (nf (bf h1913)) (at_lt (lt_seql rfl rfl) rfl ?_)))))))))
   refine at_lt (lt_pick true rfl (nf (bf h1913)) rfl) rfl (s_mv rfl ?_)
   by_cases h1925 : x1920.From = a1
   ·replace hr := ipos h1925 hr
    refine at_off rfl rfl (decide_eq_true h1925) rfl (at_off rfl rfl (decide_eq_true h1925) rfl (at_offu rfl rfl rfl (at_offu rfl rfl rfl (at_offu rfl rfl rfl (at_offu rfl rfl rfl (at_offu rfl rfl rfl (at_offu rfl rfl rfl (at_offu rfl rfl rfl (at_off rfl rfl (decide_eq_true h1925) rfl ?_)))))))))
    refine at_lt (lt_pick true rfl (decide_eq_true h1925) rfl) rfl (s_nt (at_true rfl rfl (s_sr (s_mv rfl (s_as rfl (s_nt (at_ret ?_)))))))
    have hq := oinj hr
    clear hr
    subst hq
    have hq := oinj hk1909
    clear hk1909
    subst hq
    refine at_in_ret (at_then_ret (at_then_ret (at_in_ret (at_then_ret (at_then_ret ?_)))))
    exact at_return (.int .i64 (x1906 : Int)) [5] hS Tryz.results39 (.cons (.tmp rfl) .nil) rfl rfl ⟨rfl, rfl⟩
   replace hr := ineg h1925 hr
   refine at_on rfl rfl (decide_eq_false h1925) (s_mv rfl (at_on rfl rfl (decide_eq_false h1925) (s_mv rfl (at_off rfl rfl (bf h1913) rfl (at_off rfl rfl (bf h1913) rfl (at_off rfl rfl (bf h1913) rfl (at_off rfl rfl (bf h1913) rfl (at_off rfl rfl (bf h1913) rfl (at_off rfl rfl (bf h1913) rfl ?_)))))))))
   refine at_off rfl rfl (bf h1913) rfl (at_on rfl rfl (decide_eq_false h1925) (at_lt (lt_pick false rfl (bf h1913) rfl) rfl (at_lt (lt_pick false rfl (decide_eq_false h1925) rfl) rfl (s_nt (at_false rfl rfl (at_skip (at_in (s_tr (s_mv rfl ?_)))))))))
   refine at_lt (lt_add rfl rfl (by simp only [lo, hi]; omega)) rfl (s_as rfl (at_nil (at_int .i64 (x1906 + 1 : Int) (by simp only [lo, hi]; omega) ?_)))
   exact at_again (σ := Nat) (V := Unit) (lp := fun n s => m39_l1 a0 a1 a2 n s) (S := fun s e => (⟨[(0, w1905), (1, str a1), (2, .bool a2), (7, .int .i64 (s : Int))], [], [], [((Ty.int .i64).fact (s : Int) [.int .i64 (s : Int)]), ((Ty.slice ty50).fact a0 [w1905]), (Ty.str.fact a1 [str a1])]⟩ : St)) (x1906 + 1) () hr ⟨⟨rfl, ⟨rfl, ⟨rfl, ⟨rfl, trivial⟩⟩⟩⟩, ⟨[], rfl⟩, ⟨[], rfl⟩, ⟨[0, 7, 8], rfl⟩⟩
  replace hr := ineg h1912 hr
  refine at_false rfl (decide_eq_false (by omega)) ?_
  refine at_exit (at_then_exit (at_then_exit (at_in_exit ?_)))
  have hq := oinj hr
  clear hr
  subst hq
  exact at_leafP ((), ()) rfl ⟨trivial, ⟨[], rfl⟩, ⟨[], rfl⟩, ⟨[], rfl⟩⟩
 rintro ⟨_, _⟩ hp
 replace hr := hk1909
 subst hp
 clear hl1908
 change At _ _ (⟨[], [], [], []⟩ : St) _
 refine s_tsr (s_as rfl (s_nt (at_ret ?_)))
 have hq := oinj hr
 clear hr
 subst hq
 refine at_int .i64 (-1) (by simp only [lo, hi]; omega) ?_
 exact at_return (.int .i64 (-1)) [0] hS Tryz.results39 (.cons (.tmp rfl) .nil) rfl rfl ⟨rfl, rfl⟩
def m40_l1 (a0 : (List D_ref16_Pair)) (a1 : UInt8) (a2 : Bool) : Nat → Nat → Option (Fl UInt8 Unit)
  | 0, _ => none
  | k + 1, x1927 =>
    if x1927 < a0.length then
     Option.bind (α := Bool) (
      if a2 = true then
       some false
      else
       (a0[x1927]?).bind fun x1937 =>
       some (decide ((x1937.From.toNat : Int) = (a1.toNat : Int)))
     ) fun x1934 =>
     if x1934 = true then
      (a0[x1927]?).bind fun x1942 =>
      some (Fl.ret x1942.To)
     else
      Option.bind (α := Bool) (
       if a2 = true then
        (a0[x1927]?).bind fun x1949 =>
        some (decide ((x1949.To.toNat : Int) = (a1.toNat : Int)))
       else
        some false
      ) fun x1946 =>
      if x1946 = true then
       (a0[x1927]?).bind fun x1954 =>
       some (Fl.ret x1954.From)
      else
       m40_l1 a0 a1 a2 k (x1927 + 1)
    else
     some (Fl.go ())
def m40 (a0 : (List D_ref16_Pair)) (a1 : UInt8) (a2 : Bool) : Option UInt8 :=
  (m40_l1 a0 a1 a2 (a0.length + 1) 0).bind fun r => match r with
  | .ret x => some x
  | .go _ =>
   some 0
def post40 (r : UInt8) (v : Value) (fs : List Fact) : Prop := v = .int .u8 (r.toNat : Int) ∧ fs = []
theorem en40 : Enters Tryz.prog 40 := ⟨_, Tryz.func40, by kernel_rfl, rfl⟩
theorem f40_spec {a0 : (List D_ref16_Pair)} {a1 : UInt8} {a2 : Bool} {w1926 : Value} {r : UInt8} (hr : m40 a0 a1 a2 = some r) : Spec Tryz.prog 40 [w1926, .int .u8 (a1.toNat : Int), .bool a2] [((Ty.slice ty83).fact a0 [w1926])] (post40 r) := by
 refine spec_start (N := 45) Tryz.func40 (by kernel_rfl) rfl rfl rfl ?_
 intro g hS
 unfold m40 at hr
 refine s_sr (s_as rfl (s_nt (at_seq (s_sr (s_as rfl (s_nt (at_int .i64 0 (by simp only [lo, hi]; omega) ?_)))))))
 replace hr := obind hr
 obtain ⟨r1928, hl1929, hk1930⟩ := hr
 refine at_cutP (V := (Unit) × (Unit)) (fun v => r1928 = Fl.go v.1) (fun v => (⟨[], [], [], []⟩ : St)) ?_ ?_
 ·refine at_block ?_
  refine at_loopW (σ := Nat) (V := Unit) (r := r1928) (fun n s => m40_l1 a0 a1 a2 n s) (fun s e => (⟨[(0, w1926), (1, .int .u8 (a1.toNat : Int)), (2, .bool a2), (7, .int .i64 (s : Int))], [], [], [((Ty.int .i64).fact (s : Int) [.int .i64 (s : Int)]), ((Ty.slice ty83).fact a0 [w1926])]⟩ : St)) (fun _ => rfl) _ 0 () hl1929 ⟨⟨rfl, ⟨rfl, ⟨rfl, ⟨rfl, trivial⟩⟩⟩⟩, ⟨[], rfl⟩, ⟨[], rfl⟩, ⟨[0, 1], rfl⟩⟩ ?_
  clear hl1929
  intro n x1927 hr e
  skip
  skip
  change m40_l1 a0 a1 a2 (n + 1) x1927 = some r1928 at hr
  change At _ _ (⟨[(0, w1926), (1, .int .u8 (a1.toNat : Int)), (2, .bool a2), (7, .int .i64 (x1927 : Int))], [], [], [((Ty.int .i64).fact (x1927 : Int) [.int .i64 (x1927 : Int)]), ((Ty.slice ty83).fact a0 [w1926])]⟩ : St) _
  rw [m40_l1] at hr
  refine at_seq (s_sr (s_mv rfl (s_mv rfl ?_)))
  refine at_inv 1 rfl (fun i1931 => ?_)
  have l1932 := slice_len i1931
  refine at_lt (lt_flen 1 rfl rfl und48) rfl (at_lt (lt_lss rfl rfl) rfl (s_nt ?_))
  by_cases h1933 : x1927 < a0.length
  ·replace hr := ipos h1933 hr
   refine at_true rfl (decide_eq_true (by omega)) ?_
   refine at_skip (at_then (at_seq (at_block (at_seq (at_seq ?_)))))
   replace hr := obind hr
   obtain ⟨x1934, hc1935, hr⟩ := hr
   refine at_cut (V := Unit) (fun e => (⟨[(0, w1926), (1, .int .u8 (a1.toNat : Int)), (2, .bool a2), (7, .int .i64 (x1927 : Int)), (24, .bool x1934)], [], [], [((Ty.slice ty83).fact a0 [w1926]), ((Ty.int .i64).fact (x1927 : Int) [.int .i64 (x1927 : Int)])]⟩ : St)) ?_ ?_
   ·clear hr
    have hr := hc1935
    clear hc1935
    refine at_region (s_mv rfl (at_lt (lt_not rfl) rfl (s_mv rfl ?_)))
    by_cases h1936 : a2 = true
    ·replace hr := ipos h1936 hr
     refine at_off rfl rfl (nt h1936) rfl (at_off rfl rfl (nt h1936) rfl (at_off rfl rfl (nt h1936) rfl (at_off rfl rfl (nt h1936) rfl (at_off rfl rfl (nt h1936) rfl (at_off rfl rfl (nt h1936) rfl (at_off rfl rfl (nt h1936) rfl (at_lt (lt_pick false rfl (nt h1936) rfl) rfl (at_nil ?_))))))))
     have hq := oinj hr
     clear hr
     subst hq
     exact at_leaf () ⟨⟨rfl, ⟨rfl, ⟨rfl, ⟨rfl, ⟨rfl, trivial⟩⟩⟩⟩⟩, ⟨[], rfl⟩, ⟨[], rfl⟩, ⟨[1, 0], rfl⟩⟩
    replace hr := ineg h1936 hr
    refine at_on rfl rfl (nf (bf h1936)) (s_mv rfl (at_on rfl rfl (nf (bf h1936)) (s_mv rfl ?_)))
    replace hr := obind hr
    obtain ⟨x1937, h1938, hr⟩ := hr
    have := (List.getElem?_eq_some_iff.1 h1938).1
    refine at_elem 1 rfl (nat_at' h1938) (fun p1939 ec pa1940 => ?_)
    refine at_open (A := Unit) 0 rfl _ _ (fun F w h => op83 h) ?_
    rintro _ rfl
    refine at_on rfl rfl (nf (bf h1936)) (at_lt (lt_idx rfl rfl pa1940 und48 ti83) rfl (at_on rfl rfl (nf (bf h1936)) (at_lt (lt_fieldAddr 0 rfl fld83_0 rfl) rfl (at_on rfl rfl (nf (bf h1936)) (at_lt (lt_load_peek 1 rfl ti5 rfl rfl rfl rfl rfl) rfl (at_on rfl rfl (nf (bf h1936)) (s_mv rfl (at_on rfl rfl (nf (bf h1936)) (at_lt (lt_eql rfl rfl) rfl ?_)))))))))
    refine at_lt (lt_pick true rfl (nf (bf h1936)) rfl) rfl (at_nil ?_)
    have hq := oinj hr
    clear hr
    subst hq
    exact at_leaf () ⟨⟨rfl, ⟨rfl, ⟨rfl, ⟨rfl, ⟨rfl, trivial⟩⟩⟩⟩⟩, ⟨[], rfl⟩, ⟨[], rfl⟩, ⟨[3, 2], rfl⟩⟩
   clear hc1935
   intro _
   change At _ _ (⟨[(0, w1926), (1, .int .u8 (a1.toNat : Int)), (2, .bool a2), (7, .int .i64 (x1927 : Int)), (24, .bool x1934)], [], [], [((Ty.slice ty83).fact a0 [w1926]), ((Ty.int .i64).fact (x1927 : Int) [.int .i64 (x1927 : Int)])]⟩ : St) _
   refine at_then ?_
   by_cases h1941 : x1934 = true
   ·replace hr := ipos h1941 hr
    refine at_true rfl h1941 (s_sr (s_mv rfl (s_mv rfl ?_)))
    replace hr := obind hr
    obtain ⟨x1942, h1943, hr⟩ := hr
    have := (List.getElem?_eq_some_iff.1 h1943).1
    refine at_elem 0 rfl (nat_at' h1943) (fun p1944 ec pa1945 => ?_)
    refine at_open (A := Unit) 0 rfl _ _ (fun F w h => op83 h) ?_
    rintro _ rfl
    refine at_lt (lt_idx rfl rfl pa1945 und48 ti83) rfl (at_lt (lt_fieldAddr 1 rfl fld83_1 rfl) rfl (at_lt (lt_load_peek 1 rfl ti5 rfl rfl rfl rfl rfl) rfl (s_as rfl (s_nt (at_ret ?_)))))
    have hq := oinj hr
    clear hr
    subst hq
    have hq := oinj hk1930
    clear hk1930
    subst hq
    refine at_then_ret (at_in_ret (at_then_ret (at_then_ret (at_in_ret (at_then_ret (at_then_ret ?_))))))
    exact at_return (.int .u8 (x1942.To.toNat : Int)) [] hS Tryz.results40 (.cons (.tmp rfl) .nil) rfl rfl ⟨rfl, rfl⟩
   replace hr := ineg h1941 hr
   refine at_false rfl (bf h1941) (at_skip (at_then (at_seq ?_)))
   replace hr := obind hr
   obtain ⟨x1946, hc1947, hr⟩ := hr
   refine at_cut (V := Unit) (fun e => (⟨[(0, w1926), (1, .int .u8 (a1.toNat : Int)), (2, .bool a2), (7, .int .i64 (x1927 : Int)), (39, .bool x1946)], [], [], [((Ty.slice ty83).fact a0 [w1926]), ((Ty.int .i64).fact (x1927 : Int) [.int .i64 (x1927 : Int)])]⟩ : St)) ?_ ?_
   ·clear hr
    have hr := hc1947
    clear hc1947
    refine at_region (s_mv rfl (s_mv rfl ?_))
    by_cases h1948 : a2 = true
    ·replace hr := ipos h1948 hr
     refine at_on rfl rfl h1948 (s_mv rfl (at_on rfl rfl h1948 (s_mv rfl ?_)))
     replace hr := obind hr
     obtain ⟨x1949, h1950, hr⟩ := hr
     have := (List.getElem?_eq_some_iff.1 h1950).1
     refine at_elem 0 rfl (nat_at' h1950) (fun p1951 ec pa1952 => ?_)
     refine at_open (A := Unit) 0 rfl _ _ (fun F w h => op83 h) ?_
     rintro _ rfl
     refine at_on rfl rfl h1948 (at_lt (lt_idx rfl rfl pa1952 und48 ti83) rfl (at_on rfl rfl h1948 (at_lt (lt_fieldAddr 1 rfl fld83_1 rfl) rfl (at_on rfl rfl h1948 (at_lt (lt_load_peek 1 rfl ti5 rfl rfl rfl rfl rfl) rfl (at_on rfl rfl h1948 (s_mv rfl (at_on rfl rfl h1948 (at_lt (lt_eql rfl rfl) rfl ?_)))))))))
     refine at_lt (lt_pick true rfl h1948 rfl) rfl (at_nil ?_)
     have hq := oinj hr
     clear hr
     subst hq
     exact at_leaf () ⟨⟨rfl, ⟨rfl, ⟨rfl, ⟨rfl, ⟨rfl, trivial⟩⟩⟩⟩⟩, ⟨[], rfl⟩, ⟨[], rfl⟩, ⟨[2, 3], rfl⟩⟩
    replace hr := ineg h1948 hr
    refine at_off rfl rfl (bf h1948) rfl (at_off rfl rfl (bf h1948) rfl (at_off rfl rfl (bf h1948) rfl (at_off rfl rfl (bf h1948) rfl (at_off rfl rfl (bf h1948) rfl (at_off rfl rfl (bf h1948) rfl (at_off rfl rfl (bf h1948) rfl (at_lt (lt_pick false rfl (bf h1948) rfl) rfl (at_nil ?_))))))))
    have hq := oinj hr
    clear hr
    subst hq
    exact at_leaf () ⟨⟨rfl, ⟨rfl, ⟨rfl, ⟨rfl, ⟨rfl, trivial⟩⟩⟩⟩⟩, ⟨[], rfl⟩, ⟨[], rfl⟩, ⟨[0, 1], rfl⟩⟩
   clear hc1947
   intro _
   change At _ _ (⟨[(0, w1926), (1, .int .u8 (a1.toNat : Int)), (2, .bool a2), (7, .int .i64 (x1927 : Int)), (39, .bool x1946)], [], [], [((Ty.slice ty83).fact a0 [w1926]), ((Ty.int .i64).fact (x1927 : Int) [.int .i64 (x1927 : Int)])]⟩ : St) _
   refine at_then ?_
   by_cases h1953 : x1946 = true
   ·replace hr := ipos h1953 hr
    refine at_true rfl h1953 (s_sr (s_mv rfl (s_mv rfl ?_)))
    replace hr := obind hr
    obtain ⟨x1954, h1955, hr⟩ := hr
    have := (List.getElem?_eq_some_iff.1 h1955).1
    refine at_elem 0 rfl (nat_at' h1955) (fun p1956 ec pa1957 => ?_)
    refine at_open (A := Unit) 0 rfl _ _ (fun F w h => op83 h) ?_
    rintro _ rfl
    refine at_lt (lt_idx rfl rfl pa1957 und48 ti83) rfl (at_lt (lt_fieldAddr 0 rfl fld83_0 rfl) rfl (at_lt (lt_load_peek 1 rfl ti5 rfl rfl rfl rfl rfl) rfl (s_as rfl (s_nt (at_ret ?_)))))
    have hq := oinj hr
    clear hr
    subst hq
    have hq := oinj hk1930
    clear hk1930
    subst hq
    refine at_in_ret (at_then_ret (at_then_ret (at_in_ret (at_then_ret (at_then_ret ?_)))))
    exact at_return (.int .u8 (x1954.From.toNat : Int)) [] hS Tryz.results40 (.cons (.tmp rfl) .nil) rfl rfl ⟨rfl, rfl⟩
   replace hr := ineg h1953 hr
   refine at_false rfl (bf h1953) (at_skip (at_in (s_tr (s_mv rfl (at_lt (lt_add rfl rfl (by simp only [lo, hi]; omega)) rfl (s_as rfl (at_nil (at_int .i64 (x1927 + 1 : Int) (by simp only [lo, hi]; omega) ?_))))))))
   exact at_again (σ := Nat) (V := Unit) (lp := fun n s => m40_l1 a0 a1 a2 n s) (S := fun s e => (⟨[(0, w1926), (1, .int .u8 (a1.toNat : Int)), (2, .bool a2), (7, .int .i64 (s : Int))], [], [], [((Ty.int .i64).fact (s : Int) [.int .i64 (s : Int)]), ((Ty.slice ty83).fact a0 [w1926])]⟩ : St)) (x1927 + 1) () hr ⟨⟨rfl, ⟨rfl, ⟨rfl, ⟨rfl, trivial⟩⟩⟩⟩, ⟨[], rfl⟩, ⟨[], rfl⟩, ⟨[0, 1], rfl⟩⟩
  replace hr := ineg h1933 hr
  refine at_false rfl (decide_eq_false (by omega)) ?_
  refine at_exit (at_then_exit (at_then_exit (at_in_exit ?_)))
  have hq := oinj hr
  clear hr
  subst hq
  exact at_leafP ((), ()) rfl ⟨trivial, ⟨[], rfl⟩, ⟨[], rfl⟩, ⟨[], rfl⟩⟩
 rintro ⟨_, _⟩ hp
 replace hr := hk1930
 subst hp
 clear hl1929
 change At _ _ (⟨[], [], [], []⟩ : St) _
 refine s_tsr (s_as rfl (s_nt (at_ret ?_)))
 have hq := oinj hr
 clear hr
 subst hq
 exact at_return (.int .u8 0) [] hS Tryz.results40 (.cons (.tmp rfl) .nil) rfl rfl ⟨rfl, rfl⟩
def m103_l1 (a0 : (List D_ref16_Pair)) : Nat → Nat → Option (Fl Int Unit)
  | 0, _ => none
  | k + 1, x1959 =>
    if x1959 < a0.length then
     (a0[x1959]?).bind fun x1966 =>
     (m40 a0 x1966.To true).bind fun x1970 =>
     (a0[x1959]?).bind fun x1972 =>
     if x1970.toNat = x1972.From.toNat then
      m103_l1 a0 k (x1959 + 1)
     else
      some (Fl.ret (x1959 : Int))
    else
     some (Fl.go ())
def m103 (a0 : (List D_ref16_Pair)) : Option Int :=
  (m103_l1 a0 (a0.length + 1) 0).bind fun r => match r with
  | .ret x => some x
  | .go _ =>
   some (-1)
def post103 (r : Int) (v : Value) (fs : List Fact) : Prop := v = .int .i64 r ∧ fs = [((Ty.int .i64).fact r [.int .i64 r])]
theorem en103 : Enters Tryz.prog 103 := ⟨_, Tryz.func103, by kernel_rfl, rfl⟩
theorem f103_spec {a0 : (List D_ref16_Pair)} {w1958 : Value} {r : Int} (hr : m103 a0 = some r) : Spec Tryz.prog 103 [w1958] [((Ty.slice ty83).fact a0 [w1958])] (post103 r) := by
 refine spec_start (N := 24) Tryz.func103 (by kernel_rfl) rfl rfl rfl ?_
 intro g hS
 unfold m103 at hr
 refine s_sr (s_as rfl (s_nt (at_seq (s_sr (s_as rfl (s_nt (at_int .i64 0 (by simp only [lo, hi]; omega) ?_)))))))
 replace hr := obind hr
 obtain ⟨r1960, hl1961, hk1962⟩ := hr
 refine at_cutP (V := (Unit) × (Unit)) (fun v => r1960 = Fl.go v.1) (fun v => (⟨[], [], [], []⟩ : St)) ?_ ?_
 ·refine at_block ?_
  refine at_loopW (σ := Nat) (V := Unit) (r := r1960) (fun n s => m103_l1 a0 n s) (fun s e => (⟨[(0, w1958), (3, .int .i64 (s : Int))], [], [], [((Ty.int .i64).fact (s : Int) [.int .i64 (s : Int)]), ((Ty.slice ty83).fact a0 [w1958])]⟩ : St)) (fun _ => rfl) _ 0 () hl1961 ⟨⟨rfl, ⟨rfl, trivial⟩⟩, ⟨[], rfl⟩, ⟨[], rfl⟩, ⟨[0, 1], rfl⟩⟩ ?_
  clear hl1961
  intro n x1959 hr e
  skip
  skip
  change m103_l1 a0 (n + 1) x1959 = some r1960 at hr
  change At _ _ (⟨[(0, w1958), (3, .int .i64 (x1959 : Int))], [], [], [((Ty.int .i64).fact (x1959 : Int) [.int .i64 (x1959 : Int)]), ((Ty.slice ty83).fact a0 [w1958])]⟩ : St) _
  rw [m103_l1] at hr
  refine at_seq (s_sr (s_mv rfl (s_mv rfl ?_)))
  refine at_inv 1 rfl (fun i1963 => ?_)
  have l1964 := slice_len i1963
  refine at_lt (lt_flen 1 rfl rfl und48) rfl (at_lt (lt_lss rfl rfl) rfl (s_nt ?_))
  by_cases h1965 : x1959 < a0.length
  ·replace hr := ipos h1965 hr
   refine at_true rfl (decide_eq_true (by omega)) ?_
   refine at_skip (at_then (at_seq (at_block (at_seq ?_))))
   replace hr := obind hr
   obtain ⟨x1966, h1967, hr⟩ := hr
   have := (List.getElem?_eq_some_iff.1 h1967).1
   refine at_elem 1 rfl (nat_at' h1967) (fun p1968 ec pa1969 => ?_)
   refine at_open (A := Unit) 0 rfl _ _ (fun F w h => op83 h) ?_
   rintro _ rfl
   replace hr := obind hr
   obtain ⟨x1970, h1971, hr⟩ := hr
   replace hr := obind hr
   obtain ⟨x1972, h1973, hr⟩ := hr
   have := (List.getElem?_eq_some_iff.1 h1973).1
   refine at_elem 3 rfl (nat_at' h1973) (fun p1974 ec pa1975 => ?_)
   refine at_open (A := Unit) 0 rfl _ _ (fun F w h => op83 h) ?_
   rintro _ rfl
   refine aa_start 13 (by kernel_rfl) ?_
   refine aa_p 0 rfl (lt_move rfl) (aa_p 1 rfl (lt_move rfl) (aa_p 2 rfl (lt_move rfl) (aa_p 3 rfl (lt_idx rfl rfl pa1969 und48 ti83) (aa_p 4 rfl (lt_fieldAddr 1 rfl fld83_1 rfl) (aa_l 5 rfl (lt_load_peek 3 rfl ti5 rfl rfl rfl rfl rfl) (aa_p 7 rfl (lt_move rfl) (aa_p 8 rfl (lt_move rfl) (aa_p 9 rfl (lt_idx rfl rfl pa1975 und48 ti83) (aa_p 10 rfl (lt_fieldAddr 0 rfl fld83_0 rfl) ?_)))))))))
   refine aa_l 11 rfl (lt_load_peek 1 rfl ti5 rfl rfl rfl rfl rfl) (aa_one 6 (aa_op rfl rfl (hv_call0 [5] (f40_spec h1971) rfl rfl rfl rfl ?_)))
   rintro _ _ ⟨rfl, rfl⟩
   refine aa_p 12 rfl (lt_neq rfl rfl) ?_
   refine aa_done (by kernel_rfl) (ts_in 0 0 rfl rfl) ?_
   refine at_then ?_
   by_cases h1976 : x1970.toNat = x1972.From.toNat
   ·replace hr := ipos h1976 hr
    refine at_false rfl (nt (decide_eq_true (by omega))) ?_
    refine at_skip (at_in (s_tr (s_mv rfl (at_lt (lt_add rfl rfl (by simp only [lo, hi]; omega)) rfl (s_as rfl (at_nil (at_int .i64 (x1959 + 1 : Int) (by simp only [lo, hi]; omega) ?_)))))))
    exact at_again (σ := Nat) (V := Unit) (lp := fun n s => m103_l1 a0 n s) (S := fun s e => (⟨[(0, w1958), (3, .int .i64 (s : Int))], [], [], [((Ty.int .i64).fact (s : Int) [.int .i64 (s : Int)]), ((Ty.slice ty83).fact a0 [w1958])]⟩ : St)) (x1959 + 1) () hr ⟨⟨rfl, ⟨rfl, trivial⟩⟩, ⟨[], rfl⟩, ⟨[], rfl⟩, ⟨[0, 6], rfl⟩⟩
   replace hr := ineg h1976 hr
   refine at_true rfl (nf (decide_eq_false (by omega))) ?_
   refine s_sr (s_mv rfl (s_as rfl (s_nt (at_ret ?_))))
   have hq := oinj hr
   clear hr
   subst hq
   have hq := oinj hk1962
   clear hk1962
   subst hq
   refine at_in_ret (at_then_ret (at_then_ret (at_in_ret (at_then_ret (at_then_ret ?_)))))
   exact at_return (.int .i64 (x1959 : Int)) [4] hS Tryz.results103 (.cons (.tmp rfl) .nil) rfl rfl ⟨rfl, rfl⟩
  replace hr := ineg h1965 hr
  refine at_false rfl (decide_eq_false (by omega)) ?_
  refine at_exit (at_then_exit (at_then_exit (at_in_exit ?_)))
  have hq := oinj hr
  clear hr
  subst hq
  exact at_leafP ((), ()) rfl ⟨trivial, ⟨[], rfl⟩, ⟨[], rfl⟩, ⟨[], rfl⟩⟩
 rintro ⟨_, _⟩ hp
 replace hr := hk1962
 subst hp
 clear hl1961
 change At _ _ (⟨[], [], [], []⟩ : St) _
 refine s_tsr (s_as rfl (s_nt (at_ret ?_)))
 have hq := oinj hr
 clear hr
 subst hq
 refine at_int .i64 (-1) (by simp only [lo, hi]; omega) ?_
 exact at_return (.int .i64 (-1)) [0] hS Tryz.results103 (.cons (.tmp rfl) .nil) rfl rfl ⟨rfl, rfl⟩
def m65_l1 (a0 : (List D_ref16_Entry)) : Nat → Nat → Option (Fl (Int × Int × Bool) Unit)
  | 0, _ => none
  | k + 1, x1978 =>
    if x1978 < a0.length then
     (a0[x1978]?).bind fun x1985 =>
     (m39 a0 x1985.To true).bind fun x1990 =>
     if x1990 = (x1978 : Int) then
      m65_l1 a0 k (x1978 + 1)
     else
      some (Fl.ret ((x1978 : Int), 0, true))
    else
     some (Fl.go ())
def m65_l2 (a0 : (List D_ref16_Entry)) : Nat → Nat → Option (Fl (Int × Int × Bool) Unit)
  | 0, _ => none
  | k + 1, x1994 =>
    if x1994 < a0.length then
     (a0[x1994]?).bind fun x2001 =>
     (m103 x2001.Codes).bind fun x2006 =>
     if (0 : Int) ≤ x2006 then
      some (Fl.ret ((x1994 : Int), x2006, true))
     else
      m65_l2 a0 k (x1994 + 1)
    else
     some (Fl.go ())
def m65 (a0 : (List D_ref16_Entry)) : Option (Int × Int × Bool) :=
  (m65_l1 a0 (a0.length + 1) 0).bind fun r => match r with
  | .ret x => some x
  | .go _ =>
   (m65_l2 a0 (a0.length + 1) 0).bind fun r => match r with
   | .ret x => some x
   | .go _ =>
    some (0, 0, false)
def post65 (r : (Int × Int × Bool)) (v : Value) (fs : List Fact) : Prop := v = .tuple #[.int .i64 r.1, .int .i64 r.2.1, .bool r.2.2] ∧ fs = [((Ty.int .i64).fact r.1 [.int .i64 r.1]), ((Ty.int .i64).fact r.2.1 [.int .i64 r.2.1])]
theorem en65 : Enters Tryz.prog 65 := ⟨_, Tryz.func65, by kernel_rfl, rfl⟩
theorem f65_spec {a0 : (List D_ref16_Entry)} {w1977 : Value} {r : (Int × Int × Bool)} (hr : m65 a0 = some r) : Spec Tryz.prog 65 [w1977] [((Ty.slice ty50).fact a0 [w1977])] (post65 r) := by
 refine spec_start (N := 40) Tryz.func65 (by kernel_rfl) rfl rfl rfl ?_
 intro g hS
 unfold m65 at hr
 refine s_sr (s_as rfl (s_as rfl (s_as rfl (s_nt (at_seq (s_sr (s_as rfl (s_nt (at_int .i64 0 (by simp only [lo, hi]; omega) ?_)))))))))
 replace hr := obind hr
 obtain ⟨r1979, hl1980, hk1981⟩ := hr
 refine at_cutP (V := (Unit) × (Unit)) (fun v => r1979 = Fl.go v.1) (fun v => (⟨[(0, w1977)], [], [], [((Ty.slice ty50).fact a0 [w1977])]⟩ : St)) ?_ ?_
 ·refine at_block ?_
  refine at_loopW (σ := Nat) (V := Unit) (r := r1979) (fun n s => m65_l1 a0 n s) (fun s e => (⟨[(0, w1977), (5, .int .i64 (s : Int))], [], [], [((Ty.int .i64).fact (s : Int) [.int .i64 (s : Int)]), ((Ty.slice ty50).fact a0 [w1977])]⟩ : St)) (fun _ => rfl) _ 0 () hl1980 ⟨⟨rfl, ⟨rfl, trivial⟩⟩, ⟨[], rfl⟩, ⟨[], rfl⟩, ⟨[0, 1], rfl⟩⟩ ?_
  clear hl1980
  intro n x1978 hr e
  skip
  skip
  change m65_l1 a0 (n + 1) x1978 = some r1979 at hr
  change At _ _ (⟨[(0, w1977), (5, .int .i64 (x1978 : Int))], [], [], [((Ty.int .i64).fact (x1978 : Int) [.int .i64 (x1978 : Int)]), ((Ty.slice ty50).fact a0 [w1977])]⟩ : St) _
  rw [m65_l1] at hr
  refine at_seq (s_sr (s_mv rfl (s_mv rfl ?_)))
  refine at_inv 1 rfl (fun i1982 => ?_)
  have l1983 := slice_len i1982
  refine at_lt (lt_flen 1 rfl rfl und22) rfl (at_lt (lt_lss rfl rfl) rfl (s_nt ?_))
  by_cases h1984 : x1978 < a0.length
  ·replace hr := ipos h1984 hr
   refine at_true rfl (decide_eq_true (by omega)) ?_
   refine at_skip (at_then (at_seq (at_block (s_sr (s_mv rfl (s_mv rfl (s_mv rfl ?_)))))))
   replace hr := obind hr
   obtain ⟨x1985, h1986, hr⟩ := hr
   have := (List.getElem?_eq_some_iff.1 h1986).1
   refine at_elem 1 rfl (nat_at' h1986) (fun p1988 ec pa1989 => ?_)
   refine at_open (A := Value) 0 rfl _ _ (fun F w h => op50 h) ?_
   rintro s1987 rfl
   refine at_lt (lt_idx rfl rfl pa1989 und22 ti50) rfl (at_lt (lt_fieldAddr 1 rfl fld50_1 rfl) rfl (at_lt (lt_load_peek 4 rfl ti9 rfl rfl rfl rfl rfl) rfl ?_))
   replace hr := obind hr
   obtain ⟨x1990, h1991, hr⟩ := hr
   refine at_hv rfl (hv_call0 [6, 1] (f39_spec h1991) rfl rfl rfl rfl ?_)
   rintro _ _ ⟨rfl, rfl⟩
   refine at_inv 0 rfl (fun l1992 => ?_)
   replace l1992 : (-9223372036854775808) ≤ x1990 ∧ x1990 ≤ 9223372036854775807 := l1992
   refine s_mv rfl (at_lt (lt_neq rfl rfl) rfl (s_nt ?_))
   by_cases h1993 : x1990 = (x1978 : Int)
   ·replace hr := ipos h1993 hr
    refine at_false rfl (nt (decide_eq_true (by first | exact h1993 | omega))) ?_
    refine at_skip (at_in (s_tr (s_mv rfl (at_lt (lt_add rfl rfl (by simp only [lo, hi]; omega)) rfl (s_as rfl (at_nil (at_int .i64 (x1978 + 1 : Int) (by simp only [lo, hi]; omega) ?_)))))))
    exact at_again (σ := Nat) (V := Unit) (lp := fun n s => m65_l1 a0 n s) (S := fun s e => (⟨[(0, w1977), (5, .int .i64 (s : Int))], [], [], [((Ty.int .i64).fact (s : Int) [.int .i64 (s : Int)]), ((Ty.slice ty50).fact a0 [w1977])]⟩ : St)) (x1978 + 1) () hr ⟨⟨rfl, ⟨rfl, trivial⟩⟩, ⟨[], rfl⟩, ⟨[], rfl⟩, ⟨[0, 8], rfl⟩⟩
   replace hr := ineg h1993 hr
   refine at_true rfl (nf (decide_eq_false (by first | exact h1993 | omega))) ?_
   refine s_sr (s_mv rfl (s_as rfl (s_as rfl (s_as rfl (s_nt (at_ret ?_))))))
   have hq := oinj hr
   clear hr
   subst hq
   have hq := oinj hk1981
   clear hk1981
   subst hq
   refine at_in_ret (at_then_ret (at_then_ret (at_in_ret (at_then_ret (at_then_ret (at_int .i64 0 (by simp only [lo, hi]; omega) ?_))))))
   exact at_return (.tuple #[.int .i64 (x1978 : Int), .int .i64 0, .bool true]) [7, 0] hS Tryz.results65 (.cons (.tmp rfl) (.cons (.tmp rfl) (.cons (.tmp rfl) .nil))) rfl rfl ⟨rfl, rfl⟩
  replace hr := ineg h1984 hr
  refine at_false rfl (decide_eq_false (by omega)) ?_
  refine at_exit (at_then_exit (at_then_exit (at_in_exit ?_)))
  have hq := oinj hr
  clear hr
  subst hq
  exact at_leafP ((), ()) rfl ⟨⟨rfl, trivial⟩, ⟨[], rfl⟩, ⟨[], rfl⟩, ⟨[1], rfl⟩⟩
 rintro ⟨_, _⟩ hp
 replace hr := hk1981
 subst hp
 clear hl1980
 change At _ _ (⟨[(0, w1977)], [], [], [((Ty.slice ty50).fact a0 [w1977])]⟩ : St) _
 refine at_then (at_seq (s_sr (s_as rfl (s_nt (at_int .i64 0 (by simp only [lo, hi]; omega) ?_)))))
 replace hr := obind hr
 obtain ⟨r1995, hl1996, hk1997⟩ := hr
 refine at_cutP (V := (Unit) × (Unit)) (fun v => r1995 = Fl.go v.1) (fun v => (⟨[], [], [], []⟩ : St)) ?_ ?_
 ·refine at_block ?_
  refine at_loopW (σ := Nat) (V := Unit) (r := r1995) (fun n s => m65_l2 a0 n s) (fun s e => (⟨[(0, w1977), (6, .int .i64 (s : Int))], [], [], [((Ty.int .i64).fact (s : Int) [.int .i64 (s : Int)]), ((Ty.slice ty50).fact a0 [w1977])]⟩ : St)) (fun _ => rfl) _ 0 () hl1996 ⟨⟨rfl, ⟨rfl, trivial⟩⟩, ⟨[], rfl⟩, ⟨[], rfl⟩, ⟨[0, 1], rfl⟩⟩ ?_
  clear hl1996
  intro n x1994 hr e
  skip
  skip
  change m65_l2 a0 (n + 1) x1994 = some r1995 at hr
  change At _ _ (⟨[(0, w1977), (6, .int .i64 (x1994 : Int))], [], [], [((Ty.int .i64).fact (x1994 : Int) [.int .i64 (x1994 : Int)]), ((Ty.slice ty50).fact a0 [w1977])]⟩ : St) _
  rw [m65_l2] at hr
  refine at_seq (s_sr (s_mv rfl (s_mv rfl ?_)))
  refine at_inv 1 rfl (fun i1998 => ?_)
  have l1999 := slice_len i1998
  refine at_lt (lt_flen 1 rfl rfl und22) rfl (at_lt (lt_lss rfl rfl) rfl (s_nt ?_))
  by_cases h2000 : x1994 < a0.length
  ·replace hr := ipos h2000 hr
   refine at_true rfl (decide_eq_true (by omega)) ?_
   refine at_skip (at_then (at_seq (at_block (s_sr (s_mv rfl (s_mv rfl ?_))))))
   replace hr := obind hr
   obtain ⟨x2001, h2002, hr⟩ := hr
   have := (List.getElem?_eq_some_iff.1 h2002).1
   refine at_elem 1 rfl (nat_at' h2002) (fun p2004 ec pa2005 => ?_)
   refine at_open (A := Value) 0 rfl _ _ (fun F w h => op50 h) ?_
   rintro s2003 rfl
   refine at_lt (lt_idx rfl rfl pa2005 und22 ti50) rfl (at_lt (lt_fieldAddr 2 rfl fld50_2 rfl) rfl (at_lt (lt_load_peek 4 rfl ti48 rfl rfl rfl rfl rfl) rfl ?_))
   replace hr := obind hr
   obtain ⟨x2006, h2007, hr⟩ := hr
   refine at_hv rfl (hv_call0 [2] (f103_spec h2007) rfl rfl rfl rfl ?_)
   rintro _ _ ⟨rfl, rfl⟩
   refine at_inv 0 rfl (fun l2008 => ?_)
   replace l2008 : (-9223372036854775808) ≤ x2006 ∧ x2006 ≤ 9223372036854775807 := l2008
   refine s_as rfl (s_ntsr (s_mv rfl (at_lt (lt_geq rfl rfl) rfl (s_nt ?_))))
   by_cases h2009 : (0 : Int) ≤ x2006
   ·replace hr := ipos h2009 hr
    refine at_true rfl (decide_eq_true (by first | exact h2009 | omega)) ?_
    refine s_sr (s_mv rfl (s_mv rfl (s_as rfl (s_as rfl (s_as rfl (s_nt (at_ret ?_)))))))
    have hq := oinj hr
    clear hr
    subst hq
    have hq := oinj hk1997
    clear hk1997
    subst hq
    refine at_in_ret (at_then_ret (at_then_ret (at_in_ret (at_then_ret (at_then_ret ?_)))))
    exact at_return (.tuple #[.int .i64 (x1994 : Int), .int .i64 x2006, .bool true]) [6, 0] hS Tryz.results65 (.cons (.tmp rfl) (.cons (.tmp rfl) (.cons (.tmp rfl) .nil))) rfl rfl ⟨rfl, rfl⟩
   replace hr := ineg h2009 hr
   refine at_false rfl (decide_eq_false (by first | exact h2009 | omega)) ?_
   refine at_skip (at_in (s_tr (s_mv rfl (at_lt (lt_add rfl rfl (by simp only [lo, hi]; omega)) rfl (s_as rfl (at_nil (at_int .i64 (x1994 + 1 : Int) (by simp only [lo, hi]; omega) ?_)))))))
   exact at_again (σ := Nat) (V := Unit) (lp := fun n s => m65_l2 a0 n s) (S := fun s e => (⟨[(0, w1977), (6, .int .i64 (s : Int))], [], [], [((Ty.int .i64).fact (s : Int) [.int .i64 (s : Int)]), ((Ty.slice ty50).fact a0 [w1977])]⟩ : St)) (x1994 + 1) () hr ⟨⟨rfl, ⟨rfl, trivial⟩⟩, ⟨[], rfl⟩, ⟨[], rfl⟩, ⟨[0, 8], rfl⟩⟩
  replace hr := ineg h2000 hr
  refine at_false rfl (decide_eq_false (by omega)) ?_
  refine at_exit (at_then_exit (at_then_exit (at_in_exit ?_)))
  have hq := oinj hr
  clear hr
  subst hq
  exact at_leafP ((), ()) rfl ⟨trivial, ⟨[], rfl⟩, ⟨[], rfl⟩, ⟨[], rfl⟩⟩
 rintro ⟨_, _⟩ hp
 replace hr := hk1997
 subst hp
 clear hl1996
 change At _ _ (⟨[], [], [], []⟩ : St) _
 refine s_tsr (s_as rfl (s_as rfl (s_as rfl (s_nt (at_ret ?_)))))
 have hq := oinj hr
 clear hr
 subst hq
 refine at_int .i64 0 (by simp only [lo, hi]; omega) ?_
 exact at_return (.tuple #[.int .i64 0, .int .i64 0, .bool false]) [0, 0] hS Tryz.results65 (.cons (.tmp rfl) (.cons (.tmp rfl) (.cons (.tmp rfl) .nil))) rfl rfl ⟨rfl, rfl⟩
def m32 (a0 : (List D_ref16_Entry)) : Option Bool :=
  (m65 a0).bind fun x2011 =>
  (m24 a0).bind fun x2015 =>
  if x2015 = true then
   some (!x2011.2.2)
  else
   some false
def post32 (r : Bool) (v : Value) (fs : List Fact) : Prop := v = .bool r ∧ fs = []
theorem en32 : Enters Tryz.prog 32 := ⟨_, Tryz.func32, by kernel_rfl, rfl⟩
theorem f32_spec {a0 : (List D_ref16_Entry)} {w2010 : Value} {r : Bool} (hr : m32 a0 = some r) : Spec Tryz.prog 32 [w2010] [((Ty.slice ty50).fact a0 [w2010])] (post32 r) := by
 refine spec_start (N := 18) Tryz.func32 (by kernel_rfl) rfl rfl rfl ?_
 intro g hS
 unfold m32 at hr
 refine s_sr (s_as rfl (s_ntsr (s_mv rfl ?_)))
 replace hr := obind hr
 obtain ⟨x2011, h2012, hr⟩ := hr
 refine at_hv rfl (hv_call0 [0] (f65_spec h2012) rfl rfl rfl rfl ?_)
 rintro _ _ ⟨rfl, rfl⟩
 refine at_inv 0 rfl (fun l2013 => ?_)
 replace l2013 : (-9223372036854775808) ≤ x2011.1 ∧ x2011.1 ≤ 9223372036854775807 := l2013
 refine at_inv 1 rfl (fun l2014 => ?_)
 replace l2014 : (-9223372036854775808) ≤ x2011.2.1 ∧ x2011.2.1 ≤ 9223372036854775807 := l2014
 refine s_mv rfl (at_lt (lt_extract rfl rfl) rfl (at_lt (lt_extract rfl rfl) rfl (at_lt (lt_extract rfl rfl) rfl (s_as rfl (s_as rfl (s_as rfl (s_ntsr (s_mv rfl ?_))))))))
 replace hr := obind hr
 obtain ⟨x2015, h2016, hr⟩ := hr
 refine at_hv rfl (hv_call0 [2] (f24_spec h2016) rfl rfl rfl rfl ?_)
 rintro _ _ ⟨rfl, rfl⟩
 refine s_mv rfl ?_
 by_cases h2017 : x2015 = true
 ·replace hr := ipos h2017 hr
  refine at_on rfl rfl h2017 (s_mv rfl (at_on rfl rfl h2017 (at_lt (lt_not rfl) rfl (at_lt (lt_pick true rfl h2017 rfl) rfl (s_as rfl (s_nt (at_ret ?_)))))))
  have hq := oinj hr
  clear hr
  subst hq
  exact at_return (.bool (!x2011.2.2)) [] hS Tryz.results32 (.cons (.tmp rfl) .nil) rfl rfl ⟨rfl, rfl⟩
 replace hr := ineg h2017 hr
 refine at_off rfl rfl (bf h2017) rfl (at_off rfl rfl (bf h2017) rfl (at_lt (lt_pick false rfl (bf h2017) rfl) rfl (s_as rfl (s_nt (at_ret ?_)))))
 have hq := oinj hr
 clear hr
 subst hq
 exact at_return (.bool false) [] hS Tryz.results32 (.cons (.tmp rfl) .nil) rfl rfl ⟨rfl, rfl⟩
def m106 (a0 : UInt8) : Option Bool :=
  some (!decide ((a0.toNat : Int) = (a0.toNat : Int)))
def post106 (r : Bool) (v : Value) (fs : List Fact) : Prop := v = .bool r ∧ fs = []
theorem en106 : Enters Tryz.prog 106 := ⟨_, Tryz.func106, by kernel_rfl, rfl⟩
theorem f106_spec {a0 : UInt8} {r : Bool} (hr : m106 a0 = some r) : Spec Tryz.prog 106 [.int .u8 (a0.toNat : Int)] [] (post106 r) := by
 refine spec_start (N := 6) Tryz.func106 (by kernel_rfl) rfl rfl rfl ?_
 intro g hS
 unfold m106 at hr
 refine s_sr (s_as rfl (s_ntsr (s_mv rfl (s_mv rfl (at_lt (lt_neq rfl rfl) rfl (s_as rfl (s_nt (at_ret ?_))))))))
 have hq := oinj hr
 clear hr
 subst hq
 exact at_return (.bool (!decide ((a0.toNat : Int) = (a0.toNat : Int)))) [] hS Tryz.results106 (.cons (.tmp rfl) .nil) rfl rfl ⟨rfl, rfl⟩
def m68 (a0 : UInt8) (a1 : UInt8) : Option Int :=
  (m106 a0).bind fun x2018 =>
  (m106 a1).bind fun x2020 =>
  if x2018 = true then
   if x2020 = true then
    some 0
   else
    some (-1)
  else
   if x2020 = true then
    some 1
   else
    if a0.toNat < a1.toNat then
     some (-1)
    else
     if a1.toNat < a0.toNat then
      some 1
     else
      some 0
def post68 (r : Int) (v : Value) (fs : List Fact) : Prop := v = .int .i64 r ∧ fs = [((Ty.int .i64).fact r [.int .i64 r])]
theorem en68 : Enters Tryz.prog 68 := ⟨_, Tryz.func68, by kernel_rfl, rfl⟩
theorem f68_spec {a0 : UInt8} {a1 : UInt8} {r : Int} (hr : m68 a0 a1 = some r) : Spec Tryz.prog 68 [.int .u8 (a0.toNat : Int), .int .u8 (a1.toNat : Int)] [] (post68 r) := by
 refine spec_start (N := 20) Tryz.func68 (by kernel_rfl) rfl rfl rfl ?_
 intro g hS
 unfold m68 at hr
 refine s_sr (s_as rfl (s_ntsr (s_mv rfl ?_)))
 replace hr := obind hr
 obtain ⟨x2018, h2019, hr⟩ := hr
 refine at_hv rfl (hv_call0 [] (f106_spec h2019) rfl rfl rfl rfl ?_)
 rintro _ _ ⟨rfl, rfl⟩
 refine s_as rfl (s_ntsr (s_mv rfl ?_))
 replace hr := obind hr
 obtain ⟨x2020, h2021, hr⟩ := hr
 refine at_hv rfl (hv_call0 [] (f106_spec h2021) rfl rfl rfl rfl ?_)
 rintro _ _ ⟨rfl, rfl⟩
 refine s_as rfl (s_nt (at_seq (s_sr (s_mv rfl (s_nt ?_)))))
 by_cases h2022 : x2018 = true
 ·replace hr := ipos h2022 hr
  refine at_true rfl h2022 (at_seq (s_sr (s_mv rfl (s_nt ?_))))
  by_cases h2023 : x2020 = true
  ·replace hr := ipos h2023 hr
   refine at_true rfl h2023 (s_sr (s_as rfl (s_nt (at_ret ?_))))
   have hq := oinj hr
   clear hr
   subst hq
   refine at_then_ret (at_then_ret (at_int .i64 0 (by simp only [lo, hi]; omega) ?_))
   exact at_return (.int .i64 0) [0] hS Tryz.results68 (.cons (.tmp rfl) .nil) rfl rfl ⟨rfl, rfl⟩
  replace hr := ineg h2023 hr
  refine at_false rfl (bf h2023) (at_skip (s_tsr (s_as rfl (s_nt (at_ret ?_)))))
  have hq := oinj hr
  clear hr
  subst hq
  refine at_then_ret (at_int .i64 (-1) (by simp only [lo, hi]; omega) ?_)
  exact at_return (.int .i64 (-1)) [0] hS Tryz.results68 (.cons (.tmp rfl) .nil) rfl rfl ⟨rfl, rfl⟩
 replace hr := ineg h2022 hr
 refine at_false rfl (bf h2022) (at_skip (at_then (at_seq (s_sr (s_mv rfl (s_nt ?_))))))
 by_cases h2024 : x2020 = true
 ·replace hr := ipos h2024 hr
  refine at_true rfl h2024 (s_sr (s_as rfl (s_nt (at_ret ?_))))
  have hq := oinj hr
  clear hr
  subst hq
  refine at_then_ret (at_int .i64 1 (by simp only [lo, hi]; omega) ?_)
  exact at_return (.int .i64 1) [0] hS Tryz.results68 (.cons (.tmp rfl) .nil) rfl rfl ⟨rfl, rfl⟩
 replace hr := ineg h2024 hr
 refine at_false rfl (bf h2024) (at_skip (at_then (at_seq (s_sr (s_mv rfl (s_mv rfl (at_lt (lt_lss rfl rfl) rfl (s_nt ?_))))))))
 by_cases h2025 : a0.toNat < a1.toNat
 ·replace hr := ipos h2025 hr
  refine at_true rfl (decide_eq_true (by omega)) ?_
  refine s_sr (s_as rfl (s_nt (at_ret ?_)))
  have hq := oinj hr
  clear hr
  subst hq
  refine at_then_ret (at_int .i64 (-1) (by simp only [lo, hi]; omega) ?_)
  exact at_return (.int .i64 (-1)) [0] hS Tryz.results68 (.cons (.tmp rfl) .nil) rfl rfl ⟨rfl, rfl⟩
 replace hr := ineg h2025 hr
 refine at_false rfl (decide_eq_false (by omega)) ?_
 refine at_skip (at_then (at_seq (s_sr (s_mv rfl (s_mv rfl (at_lt (lt_gtr rfl rfl) rfl (s_nt ?_)))))))
 by_cases h2026 : a1.toNat < a0.toNat
 ·replace hr := ipos h2026 hr
  refine at_true rfl (decide_eq_true (by omega)) ?_
  refine s_sr (s_as rfl (s_nt (at_ret ?_)))
  have hq := oinj hr
  clear hr
  subst hq
  refine at_then_ret (at_int .i64 1 (by simp only [lo, hi]; omega) ?_)
  exact at_return (.int .i64 1) [0] hS Tryz.results68 (.cons (.tmp rfl) .nil) rfl rfl ⟨rfl, rfl⟩
 replace hr := ineg h2026 hr
 refine at_false rfl (decide_eq_false (by omega)) ?_
 refine at_skip (s_tsr (s_as rfl (s_nt (at_ret ?_))))
 have hq := oinj hr
 clear hr
 subst hq
 refine at_int .i64 0 (by simp only [lo, hi]; omega) ?_
 exact at_return (.int .i64 0) [0] hS Tryz.results68 (.cons (.tmp rfl) .nil) rfl rfl ⟨rfl, rfl⟩
def m67 (a0 : D_crosswalk_Pair) (a1 : D_crosswalk_Pair) : Option Int :=
  (m68 a0.From a1.From).bind fun x2029 =>
  some x2029
def post67 (r : Int) (v : Value) (fs : List Fact) : Prop := v = .int .i64 r ∧ fs = [((Ty.int .i64).fact r [.int .i64 r])]
theorem en67 : Enters Tryz.prog 67 := ⟨_, Tryz.func67, by kernel_rfl, rfl⟩
theorem f67_spec {a0 : D_crosswalk_Pair} {a1 : D_crosswalk_Pair} {r : Int} (hr : m67 a0 a1 = some r) : Spec Tryz.prog 67 [.agg #[.int .u8 (a0.From.toNat : Int), .int .u8 (a0.To.toNat : Int)], .agg #[.int .u8 (a1.From.toNat : Int), .int .u8 (a1.To.toNat : Int)]] [(ty82.fact a0 [.int .u8 (a0.From.toNat : Int), .int .u8 (a0.To.toNat : Int)]), (ty82.fact a1 [.int .u8 (a1.From.toNat : Int), .int .u8 (a1.To.toNat : Int)])] (post67 r) := by
 refine spec_start (N := 10) Tryz.func67 (by kernel_rfl) rfl rfl rfl ?_
 intro g hS
 unfold m67 at hr
 refine s_sr (at_hv rfl ?_)
 refine hv_box (cs := [.int .u8 (a0.From.toNat : Int), .int .u8 (a0.To.toNat : Int)]) rfl rfl rfl (fun b2027 => ?_)
 refine at_hv rfl ?_
 refine hv_box (cs := [.int .u8 (a1.From.toNat : Int), .int .u8 (a1.To.toNat : Int)]) rfl rfl rfl (fun b2028 => ?_)
 refine s_as rfl (s_ntsr (at_lt (lt_fieldAddr 0 rfl fld82_0 rfl) rfl (at_lt (lt_load_box 1 rfl ti5 rfl rfl rfl rfl rfl) rfl (at_lt (lt_fieldAddr 0 rfl fld82_0 rfl) rfl (at_lt (lt_load_box 0 rfl ti5 rfl rfl rfl rfl rfl) rfl ?_)))))
 replace hr := obind hr
 obtain ⟨x2029, h2030, hr⟩ := hr
 refine at_hv rfl (hv_call0 [] (f68_spec h2030) rfl rfl rfl rfl ?_)
 rintro _ _ ⟨rfl, rfl⟩
 refine at_inv 0 rfl (fun l2031 => ?_)
 replace l2031 : (-9223372036854775808) ≤ x2029 ∧ x2029 ≤ 9223372036854775807 := l2031
 refine s_as rfl (s_nt (at_ret ?_))
 have hq := oinj hr
 clear hr
 subst hq
 exact at_return (.int .i64 x2029) [0] hS Tryz.results67 (.cons (.tmp rfl) .nil) rfl rfl ⟨rfl, rfl⟩
def m70 (a0 : D_crosswalk_Entry) (a1 : D_crosswalk_Entry) : Option Int :=
  (m71 a0.From a1.From).bind fun x2036 =>
  some x2036
def post70 (r : Int) (v : Value) (fs : List Fact) : Prop := v = .int .i64 r ∧ fs = [((Ty.int .i64).fact r [.int .i64 r])]
theorem en70 : Enters Tryz.prog 70 := ⟨_, Tryz.func70, by kernel_rfl, rfl⟩
theorem f70_spec {a0 : D_crosswalk_Entry} {a1 : D_crosswalk_Entry} {s2032 : Value} {s2033 : Value} {r : Int} (hr : m70 a0 a1 = some r) : Spec Tryz.prog 70 [.agg #[str a0.From, str a0.To, s2032], .agg #[str a1.From, str a1.To, s2033]] [(ty76.fact a0 [str a0.From, str a0.To, s2032]), (ty76.fact a1 [str a1.From, str a1.To, s2033])] (post70 r) := by
 refine spec_start (N := 10) Tryz.func70 (by kernel_rfl) rfl rfl rfl ?_
 intro g hS
 unfold m70 at hr
 refine at_open (A := Unit) 0 rfl (fun _ => True) (fun _ => [(Ty.str.fact a0.From [str a0.From]), (Ty.str.fact a0.To [str a0.To]), ((Ty.slice ty82).fact a0.Codes [s2032])]) (fun F w h => ⟨(), trivial, ex76 h⟩) (fun _ _ => ?_)
 refine at_open (A := Unit) 4 rfl (fun _ => True) (fun _ => [(Ty.str.fact a1.From [str a1.From]), (Ty.str.fact a1.To [str a1.To]), ((Ty.slice ty82).fact a1.Codes [s2033])]) (fun F w h => ⟨(), trivial, ex76 h⟩) (fun _ _ => ?_)
 refine s_sr (at_hv rfl ?_)
 refine hv_box (cs := [str a0.From, str a0.To, s2032]) rfl rfl rfl (fun b2034 => ?_)
 refine at_hv rfl ?_
 refine hv_box (cs := [str a1.From, str a1.To, s2033]) rfl rfl rfl (fun b2035 => ?_)
 refine s_as rfl (s_ntsr (at_lt (lt_fieldAddr 0 rfl fld76_0 rfl) rfl (at_lt (lt_load_box 1 rfl ti9 rfl rfl rfl rfl rfl) rfl (at_lt (lt_fieldAddr 0 rfl fld76_0 rfl) rfl (at_lt (lt_load_box 0 rfl ti9 rfl rfl rfl rfl rfl) rfl ?_)))))
 replace hr := obind hr
 obtain ⟨x2036, h2037, hr⟩ := hr
 refine at_hv rfl (hv_call0 [3, 0] (f71_spec h2037) rfl rfl rfl rfl ?_)
 rintro _ _ ⟨rfl, rfl⟩
 refine at_inv 0 rfl (fun l2038 => ?_)
 replace l2038 : (-9223372036854775808) ≤ x2036 ∧ x2036 ≤ 9223372036854775807 := l2038
 refine s_as rfl (s_nt (at_ret ?_))
 have hq := oinj hr
 clear hr
 subst hq
 exact at_return (.int .i64 x2036) [0] hS Tryz.results70 (.cons (.tmp rfl) .nil) rfl rfl ⟨rfl, rfl⟩
def m33_l2 (x2060 : D_crosswalk_Entry) : Nat → Nat → (List D_crosswalk_Pair) → Option (List D_crosswalk_Pair)
  | 0, _, _ => none
  | k + 1, x2070, x2071 =>
    if x2070 < x2060.Codes.length then
     (x2060.Codes[x2070]?).bind fun x2082 =>
     if x2071.length + 1 ≤ 70368744177664 then
      m33_l2 x2060 k (x2070 + 1) (x2071 ++ [(⟨x2082.To, x2082.From⟩ : D_crosswalk_Pair)])
     else none
    else
     some x2071
def m33_l1 (a0 : (List D_crosswalk_Entry)) : Nat → (List D_crosswalk_Entry) → Nat → Option (List D_crosswalk_Entry)
  | 0, _, _ => none
  | k + 1, x2048, x2049 =>
    if x2049 < a0.length then
     (a0[x2049]?).bind fun x2060 =>
     (m33_l2 x2060 (x2060.Codes.length + 1) 0 ([] : (List D_crosswalk_Pair))).bind fun x2075 =>
     (m66 x2075 m67).bind fun x2092 =>
     if x2048.length + 1 ≤ 2513169434916 then
      m33_l1 a0 k (x2048 ++ [(⟨x2060.To, x2060.From, x2092⟩ : D_crosswalk_Entry)]) (x2049 + 1)
     else none
    else
     some x2048
def m33 (a0 : (List D_crosswalk_Entry)) : Option ((List D_crosswalk_Entry) × Int) :=
  (m27 a0).bind fun x2040 =>
  if x2040 = true then
   (m17 a0).bind fun x2043 =>
   if x2043 = true then
    (m33_l1 a0 (a0.length + 1) ([] : (List D_crosswalk_Entry)) 0).bind fun x2053 =>
    (m69 x2053 m70).bind fun x2102 =>
    some (x2102, 0)
   else
    some (([] : (List D_crosswalk_Entry)), 16)
  else
   some (([] : (List D_crosswalk_Entry)), 1)
def post33 (r : ((List D_crosswalk_Entry) × Int)) (v : Value) (fs : List Fact) : Prop := ∃ s2107 : Value, v = .tuple #[s2107, .int .i64 r.2] ∧ fs = [((Ty.slice ty76).fact r.1 [s2107]), ((Ty.int .i64).fact r.2 [.int .i64 r.2])]
theorem en33 : Enters Tryz.prog 33 := ⟨_, Tryz.func33, by kernel_rfl, rfl⟩
theorem f33_spec {a0 : (List D_crosswalk_Entry)} {w2039 : Value} {r : ((List D_crosswalk_Entry) × Int)} (hr : m33 a0 = some r) : Spec Tryz.prog 33 [w2039] [((Ty.slice ty76).fact a0 [w2039])] (post33 r) := by
 refine spec_start (N := 58) Tryz.func33 (by kernel_rfl) rfl rfl rfl ?_
 intro g hS
 unfold m33 at hr
 refine s_sr (s_as rfl (s_as rfl (s_nt (at_seq (at_block (s_sr (s_mv rfl ?_)))))))
 replace hr := obind hr
 obtain ⟨x2040, h2041, hr⟩ := hr
 refine at_hv rfl (hv_call0 [0] (f27_spec h2041) rfl rfl rfl rfl ?_)
 rintro _ _ ⟨rfl, rfl⟩
 refine at_lt (lt_not rfl) rfl (s_as rfl (s_nt ?_))
 by_cases h2042 : x2040 = true
 ·replace hr := ipos h2042 hr
  refine at_false rfl (nt h2042) (s_sr (s_mv rfl ?_))
  replace hr := obind hr
  obtain ⟨x2043, h2044, hr⟩ := hr
  refine at_hv rfl (hv_call0 [0] (f17_spec h2044) rfl rfl rfl rfl ?_)
  rintro _ _ ⟨rfl, rfl⟩
  refine at_lt (lt_not rfl) rfl (s_as rfl (s_nt ?_))
  by_cases h2045 : x2043 = true
  ·replace hr := ipos h2045 hr
   refine at_false rfl (nt h2045) (at_skip (at_in (s_tsr (s_as rfl (s_nt (at_seq (s_sr (s_mv rfl ?_))))))))
   refine at_inv 0 rfl (fun i2046 => ?_)
   have l2047 := slice_len i2046
   refine at_lt (lt_flen 0 rfl rfl und34) rfl (s_mv rfl (s_nt (at_rownew none 76 3 (at_rownil ty76 ?_))))
   refine at_mkpure (q := (([] : (List D_crosswalk_Entry)).length * ty76.bytes ≤ 140737488355328)) (by simp only [List.nil_append, List.cons_append, List.length_cons, List.length_nil, ty76_bytes] <;> omega) ?_
   refine at_int .i64 0 (by simp only [lo, hi]; omega) ?_
   replace hr := obind hr
   obtain ⟨x2053, hl2057, hr⟩ := hr
   refine at_cut (V := Value × Nat × (List Value)) (fun e => (⟨[(4, e.1)], [], [⟨e.1, 76, 3, e.2.1, e.2.2⟩], [(ty76.row x2053 e.2.2), (pureF (x2053.length * ty76.bytes ≤ 140737488355328))]⟩ : St)) ?_ ?_
   ·refine at_block ?_
    refine at_loopW (σ := ((List D_crosswalk_Entry) × Nat)) (V := Value × Nat × (List Value)) (r := x2053) (fun n s => m33_l1 a0 n s.1 s.2) (fun s e => (⟨[(4, e.1), (18, w2039), (19, .int .i64 (a0.length : Int)), (20, .int .i64 (s.2 : Int))], [], [⟨e.1, 76, 3, e.2.1, e.2.2⟩], [(ty76.row s.1 e.2.2), (pureF (s.1.length * ty76.bytes ≤ 140737488355328)), ((Ty.int .i64).fact (s.2 : Int) [.int .i64 (s.2 : Int)]), ((Ty.slice ty76).fact a0 [w2039])]⟩ : St)) (fun _ => rfl) _ (([] : (List D_crosswalk_Entry)), 0) ((.slice none 0 0), 0, []) hl2057 ⟨⟨rfl, ⟨rfl, ⟨rfl, ⟨rfl, trivial⟩⟩⟩⟩, ⟨[], rfl⟩, ⟨[true], rfl⟩, ⟨[2, 1, 0, 3], rfl⟩⟩ ?_
    clear hr hl2057
    intro n s hr e
    obtain ⟨x2048, x2049⟩ := s
    obtain ⟨v2050, n2051, i2052⟩ := e
    change m33_l1 a0 (n + 1) x2048 x2049 = some x2053 at hr
    change At _ _ (⟨[(4, v2050), (18, w2039), (19, .int .i64 (a0.length : Int)), (20, .int .i64 (x2049 : Int))], [], [⟨v2050, 76, 3, n2051, i2052⟩], [(ty76.row x2048 i2052), (pureF (x2048.length * ty76.bytes ≤ 140737488355328)), ((Ty.int .i64).fact (x2049 : Int) [.int .i64 (x2049 : Int)]), ((Ty.slice ty76).fact a0 [w2039])]⟩ : St) _
    rw [m33_l1] at hr
    refine s_sr (at_lt (lt_lss rfl rfl) rfl (s_nt (at_seq ?_)))
    by_cases h2059 : x2049 < a0.length
    ·replace hr := ipos h2059 hr
     refine at_true rfl (decide_eq_true (by omega)) ?_
     refine at_skip (at_then (at_seq (at_block (s_sr ?_))))
     replace hr := obind hr
     obtain ⟨x2060, h2061, hr⟩ := hr
     have := (List.getElem?_eq_some_iff.1 h2061).1
     refine at_elem 3 rfl (nat_at' h2061) (fun p2063 ec pa2064 => ?_)
     refine at_open (A := Value) 0 rfl _ _ (fun F w h => op76 h) ?_
     rintro s2062 rfl
     refine at_lt (lt_idx rfl rfl pa2064 und34 ti76) rfl (at_lt (lt_load_peek 4 rfl ti76 rfl rfl rfl rfl rfl) rfl (at_hv rfl ?_))
     refine hv_alloc (cs := [str ([] : Str), str ([] : Str), (.slice none 0 0)]) ti76 rfl rfl (fun b2065 => ?_)
     refine at_one 2 rfl (fun ho2066 => ?_)
     refine at_hv rfl (hv_store_box 0 (cs' := [str x2060.From, str x2060.To, s2062]) rfl rfl ti76 rfl rfl rfl rfl (allc rfl (allc rfl (allc ho2066 rfl))) (s_ntsr (at_lt (lt_fieldAddr 1 rfl fld76_1 rfl) rfl (at_lt (lt_load_box 0 rfl ti9 rfl rfl rfl rfl rfl) rfl (at_lt (lt_fieldAddr 0 rfl fld76_0 rfl) rfl (at_lt (lt_load_box 0 rfl ti9 rfl rfl rfl rfl rfl) rfl (at_lt (lt_build (cs := [str x2060.To, str x2060.From, (.slice none 0 0)]) rfl ti76 pl76 rfl) rfl (at_hv rfl ?_))))))))
     refine hv_alloc (cs := [str ([] : Str), str ([] : Str), (.slice none 0 0)]) ti76 rfl rfl (fun b2067 => ?_)
     refine at_hv rfl (hv_store_box 0 (cs' := [str x2060.To, str x2060.From, (.slice none 0 0)]) rfl rfl ti76 rfl rfl rfl rfl rfl (s_nt (at_seq (s_sr (at_lt (lt_fieldAddr 2 rfl fld76_2 rfl) rfl (at_lt (lt_load_box 1 rfl ti74 rfl rfl rfl rfl rfl) rfl ?_))))))
     refine at_inv 2 rfl (fun i2068 => ?_)
     have l2069 := slice_len i2068
     refine at_lt (lt_flen 2 rfl rfl und74) rfl (s_mv rfl (s_nt (at_int .i64 0 (by simp only [lo, hi]; omega) (at_rownew none 82 2 (at_rownil ty82 ?_)))))
     refine at_mkpure (q := (([] : (List D_crosswalk_Pair)).length * ty82.bytes ≤ 140737488355328)) (by simp only [List.nil_append, List.cons_append, List.length_cons, List.length_nil, ty82_bytes] <;> omega) ?_
     replace hr := obind hr
     obtain ⟨x2075, hl2079, hr⟩ := hr
     refine at_cut (V := Value × Nat × (List Value)) (fun e => (⟨[(4, v2050), (7, .pointer (some (Addr.add ⟨b2067, 0, none⟩ 0))), (18, w2039), (19, .int .i64 (a0.length : Int)), (20, .int .i64 (x2049 : Int))], [⟨b2067, [str x2060.To, str x2060.From, e.1], 76⟩], [⟨e.1, 82, 2, e.2.1, e.2.2⟩, ⟨v2050, 76, 3, n2051, i2052⟩], [(ty82.row x2075 e.2.2), (pureF (x2075.length * ty82.bytes ≤ 140737488355328)), (ty76.row x2048 i2052), (pureF (x2048.length * ty76.bytes ≤ 140737488355328)), ((Ty.slice ty76).fact a0 [w2039]), ((Ty.int .i64).fact (x2049 : Int) [.int .i64 (x2049 : Int)]), (Ty.str.fact x2060.To [str x2060.To]), (Ty.str.fact x2060.From [str x2060.From])]⟩ : St)) ?_ ?_
     ·refine at_block ?_
      refine at_loopW (σ := (Nat × (List D_crosswalk_Pair))) (V := Value × Nat × (List Value)) (r := x2075) (fun n s => m33_l2 x2060 n s.1 s.2) (fun s e => (⟨[(4, v2050), (7, .pointer (some (Addr.add ⟨b2067, 0, none⟩ 0))), (18, w2039), (19, .int .i64 (a0.length : Int)), (20, .int .i64 (x2049 : Int)), (30, s2062), (31, .int .i64 (x2060.Codes.length : Int)), (32, .int .i64 (s.1 : Int))], [⟨b2067, [str x2060.To, str x2060.From, e.1], 76⟩], [⟨e.1, 82, 2, e.2.1, e.2.2⟩, ⟨v2050, 76, 3, n2051, i2052⟩], [((Ty.int .i64).fact (s.1 : Int) [.int .i64 (s.1 : Int)]), (ty82.row s.2 e.2.2), (pureF (s.2.length * ty82.bytes ≤ 140737488355328)), (ty76.row x2048 i2052), (pureF (x2048.length * ty76.bytes ≤ 140737488355328)), ((Ty.slice ty76).fact a0 [w2039]), ((Ty.int .i64).fact (x2049 : Int) [.int .i64 (x2049 : Int)]), ((Ty.slice ty82).fact x2060.Codes [s2062]), (Ty.str.fact x2060.To [str x2060.To]), (Ty.str.fact x2060.From [str x2060.From])]⟩ : St)) (fun _ => rfl) _ (0, ([] : (List D_crosswalk_Pair))) ((.slice none 0 0), 0, []) hl2079 ⟨⟨rfl, ⟨rfl, ⟨rfl, ⟨rfl, ⟨rfl, ⟨rfl, ⟨rfl, ⟨rfl, trivial⟩⟩⟩⟩⟩⟩⟩⟩, ⟨[true, false], rfl⟩, ⟨[true, true], rfl⟩, ⟨[2, 1, 0, 8, 9, 11, 10, 5, 4, 3], rfl⟩⟩ ?_
      clear hr hl2079
      intro n s hr e
      obtain ⟨x2070, x2071⟩ := s
      obtain ⟨v2072, n2073, i2074⟩ := e
      change m33_l2 x2060 (n + 1) x2070 x2071 = some x2075 at hr
      change At _ _ (⟨[(4, v2050), (7, .pointer (some (Addr.add ⟨b2067, 0, none⟩ 0))), (18, w2039), (19, .int .i64 (a0.length : Int)), (20, .int .i64 (x2049 : Int)), (30, s2062), (31, .int .i64 (x2060.Codes.length : Int)), (32, .int .i64 (x2070 : Int))], [⟨b2067, [str x2060.To, str x2060.From, v2072], 76⟩], [⟨v2072, 82, 2, n2073, i2074⟩, ⟨v2050, 76, 3, n2051, i2052⟩], [((Ty.int .i64).fact (x2070 : Int) [.int .i64 (x2070 : Int)]), (ty82.row x2071 i2074), (pureF (x2071.length * ty82.bytes ≤ 140737488355328)), (ty76.row x2048 i2052), (pureF (x2048.length * ty76.bytes ≤ 140737488355328)), ((Ty.slice ty76).fact a0 [w2039]), ((Ty.int .i64).fact (x2049 : Int) [.int .i64 (x2049 : Int)]), ((Ty.slice ty82).fact x2060.Codes [s2062]), (Ty.str.fact x2060.To [str x2060.To]), (Ty.str.fact x2060.From [str x2060.From])]⟩ : St) _
      rw [m33_l2] at hr
      refine s_sr (at_lt (lt_lss rfl rfl) rfl (s_nt (at_seq ?_)))
      by_cases h2081 : x2070 < x2060.Codes.length
      ·replace hr := ipos h2081 hr
       refine at_true rfl (decide_eq_true (by omega)) ?_
       refine at_skip (at_then (at_seq (at_block (s_sr ?_))))
       replace hr := obind hr
       obtain ⟨x2082, h2083, hr⟩ := hr
       have := (List.getElem?_eq_some_iff.1 h2083).1
       refine at_elem 7 rfl (nat_at' h2083) (fun p2084 ec pa2085 => ?_)
       refine at_open (A := Unit) 0 rfl _ _ (fun F w h => op82 h) ?_
       rintro _ rfl
       refine at_lt (lt_idx rfl rfl pa2085 und74 ti82) rfl (at_lt (lt_load_peek 1 rfl ti82 rfl rfl rfl rfl rfl) rfl (at_hv rfl ?_))
       refine hv_alloc (cs := [.int .u8 0, .int .u8 0]) ti82 rfl rfl (fun b2086 => ?_)
       refine at_hv rfl (hv_store_box 0 (cs' := [.int .u8 (x2082.From.toNat : Int), .int .u8 (x2082.To.toNat : Int)]) rfl rfl ti82 rfl rfl rfl rfl rfl (at_nil (s_tr (at_lt (lt_fieldAddr 2 rfl fld76_2 rfl) rfl (at_lt (lt_load_box 1 rfl ti74 rfl rfl rfl rfl rfl) rfl (at_lt (lt_fieldAddr 1 rfl fld82_1 rfl) rfl (at_lt (lt_load_box 0 rfl ti5 rfl rfl rfl rfl rfl) rfl (at_lt (lt_fieldAddr 0 rfl fld82_0 rfl) rfl (at_lt (lt_load_box 0 rfl ti5 rfl rfl rfl rfl rfl) rfl ?_)))))))))
       refine at_lt (lt_build (cs := [.int .u8 (x2082.To.toNat : Int), .int .u8 (x2082.From.toNat : Int)]) rfl ti82 pl82 rfl) rfl (at_hv rfl ?_)
       refine hv_bslice (cs := [.int .u8 (x2082.To.toNat : Int), .int .u8 (x2082.From.toNat : Int)]) rfl und74 ti82 rfl rfl rfl rfl rfl (fun s2087 => ?_)
       replace hr := imust hr
       obtain ⟨h2088, hr⟩ := hr
       refine at_derive [] (ty82.fact (⟨x2082.To, x2082.From⟩ : D_crosswalk_Pair) [.int .u8 (x2082.To.toNat : Int), .int .u8 (x2082.From.toNat : Int)]) rfl (fun F w h => mk82 (x := (⟨x2082.To, x2082.From⟩ : D_crosswalk_Pair)) h) ?_
       refine at_rown 1 4 rfl rfl rfl (fun hn2090 => ?_)
       refine at_hv rfl ?_
       refine hv_append 1 0 rfl rfl rfl rfl und74 ti82 rfl rfl rfl (by omega) (by omega) rfl (fun s2089 => ?_)
       refine at_rowsnoc 4 0 rfl rfl (at_lt (lt_fieldAddr 2 rfl fld76_2 rfl) rfl ?_)
       refine at_rowv 1 rfl (fun ho2091 => ?_)
       replace ho2091 := row_one (by obtain ⟨a, c, h⟩ := ho2091; exact ⟨a, _, c, h⟩)
       refine at_hv rfl (hv_store1 1 (cs' := [str x2060.To, str x2060.From, s2089]) rfl rfl ti74 rfl rfl rfl rfl ho2091 (at_nil (at_in (s_tr (at_lt (lt_add rfl rfl (by simp only [lo, hi]; omega)) rfl (s_mv rfl (at_nil (at_int .i64 (x2070 + 1 : Int) (by simp only [lo, hi]; omega) ?_))))))))
       refine at_mkpure (q := ((x2071 ++ [(⟨x2082.To, x2082.From⟩ : D_crosswalk_Pair)]).length * ty82.bytes ≤ 140737488355328)) (by simp only [List.length_append, List.length_cons, List.length_nil, ty82_bytes] <;> omega) ?_
       exact at_again (σ := (Nat × (List D_crosswalk_Pair))) (V := Value × Nat × (List Value)) (lp := fun n s => m33_l2 x2060 n s.1 s.2) (S := fun s e => (⟨[(4, v2050), (7, .pointer (some (Addr.add ⟨b2067, 0, none⟩ 0))), (18, w2039), (19, .int .i64 (a0.length : Int)), (20, .int .i64 (x2049 : Int)), (30, s2062), (31, .int .i64 (x2060.Codes.length : Int)), (32, .int .i64 (s.1 : Int))], [⟨b2067, [str x2060.To, str x2060.From, e.1], 76⟩], [⟨e.1, 82, 2, e.2.1, e.2.2⟩, ⟨v2050, 76, 3, n2051, i2052⟩], [((Ty.int .i64).fact (s.1 : Int) [.int .i64 (s.1 : Int)]), (ty82.row s.2 e.2.2), (pureF (s.2.length * ty82.bytes ≤ 140737488355328)), (ty76.row x2048 i2052), (pureF (x2048.length * ty76.bytes ≤ 140737488355328)), ((Ty.slice ty76).fact a0 [w2039]), ((Ty.int .i64).fact (x2049 : Int) [.int .i64 (x2049 : Int)]), ((Ty.slice ty82).fact x2060.Codes [s2062]), (Ty.str.fact x2060.To [str x2060.To]), (Ty.str.fact x2060.From [str x2060.From])]⟩ : St)) (x2070 + 1, x2071 ++ [(⟨x2082.To, x2082.From⟩ : D_crosswalk_Pair)]) (s2089, n2073 + 1, i2074 ++ [.int .u8 (x2082.To.toNat : Int), .int .u8 (x2082.From.toNat : Int)]) hr ⟨⟨rfl, ⟨rfl, ⟨rfl, ⟨rfl, ⟨rfl, ⟨rfl, ⟨rfl, ⟨rfl, trivial⟩⟩⟩⟩⟩⟩⟩⟩, ⟨[false, true], rfl⟩, ⟨[false, true, true], rfl⟩, ⟨[1, 2, 0, 9, 10, 11, 12, 13, 14, 15], rfl⟩⟩
      replace hr := ineg h2081 hr
      refine at_false rfl (decide_eq_false (by omega)) ?_
      refine at_exit (at_then_exit (at_then_exit (at_in_exit ?_)))
      have hq := oinj hr
      clear hr
      subst hq
      exact at_leaf (v2072, n2073, i2074) ⟨⟨rfl, ⟨rfl, ⟨rfl, ⟨rfl, ⟨rfl, trivial⟩⟩⟩⟩⟩, ⟨[true], rfl⟩, ⟨[true, true], rfl⟩, ⟨[1, 2, 3, 4, 5, 6, 8, 9], rfl⟩⟩
     clear hl2079
     intro e
     obtain ⟨v2076, n2077, i2078⟩ := e
     change At _ _ (⟨[(4, v2050), (7, .pointer (some (Addr.add ⟨b2067, 0, none⟩ 0))), (18, w2039), (19, .int .i64 (a0.length : Int)), (20, .int .i64 (x2049 : Int))], [⟨b2067, [str x2060.To, str x2060.From, v2076], 76⟩], [⟨v2076, 82, 2, n2077, i2078⟩, ⟨v2050, 76, 3, n2051, i2052⟩], [(ty82.row x2075 i2078), (pureF (x2075.length * ty82.bytes ≤ 140737488355328)), (ty76.row x2048 i2052), (pureF (x2048.length * ty76.bytes ≤ 140737488355328)), ((Ty.slice ty76).fact a0 [w2039]), ((Ty.int .i64).fact (x2049 : Int) [.int .i64 (x2049 : Int)]), (Ty.str.fact x2060.To [str x2060.To]), (Ty.str.fact x2060.From [str x2060.From])]⟩ : St) _
     refine s_tsr (at_lt (lt_fieldAddr 2 rfl fld76_2 rfl) rfl (at_lt (lt_load_box 0 rfl ti74 rfl rfl rfl rfl rfl) rfl ?_))
     replace hr := obind hr
     obtain ⟨x2092, h2093, hr⟩ := hr
     refine at_pure 1 rfl (fun hb2094 => ?_)
     refine at_hv rfl (hv_callG0 [true, false] [0, 1] (f66_spec h2093) rfl rfl rfl rfl rfl rfl ?_)
     rintro _ _ _ ⟨rfl, i2095, rfl, rfl⟩
     refine at_nil (s_tr (s_mv rfl (at_lt (lt_load_box 0 rfl ti76 rfl rfl rfl rfl rfl) rfl (at_hv rfl ?_))))
     refine hv_bslice (cs := [str x2060.To, str x2060.From, v2076]) rfl und34 ti76 rfl rfl rfl rfl rfl (fun s2096 => ?_)
     replace hr := imust hr
     obtain ⟨h2097, hr⟩ := hr
     refine at_pure 1 rfl (fun hb2099 => ?_)
     refine at_release 1 0 rfl rfl rfl hb2099 ?_
     refine at_derive [9, 10, 0] (ty76.fact (⟨x2060.To, x2060.From, x2092⟩ : D_crosswalk_Entry) [str x2060.To, str x2060.From, v2076]) rfl (fun F w h => mk76 (x := (⟨x2060.To, x2060.From, x2092⟩ : D_crosswalk_Entry)) h) ?_
     refine at_rown 1 6 rfl rfl rfl (fun hn2100 => ?_)
     refine at_one 1 rfl (fun ho2101 => ?_)
     refine at_hv rfl ?_
     refine hv_append 1 0 rfl rfl rfl rfl und34 ti76 rfl rfl (allc rfl (allc rfl (allc ho2101 rfl))) (by omega) (by omega) rfl (fun s2098 => ?_)
     refine at_rowsnoc 6 0 rfl rfl (s_as rfl (at_nil (at_in (s_tr (at_lt (lt_add rfl rfl (by simp only [lo, hi]; omega)) rfl (s_mv rfl (at_nil ?_)))))))
     refine at_mkpure (q := ((x2048 ++ [(⟨x2060.To, x2060.From, x2092⟩ : D_crosswalk_Entry)]).length * ty76.bytes ≤ 140737488355328)) (by simp only [List.length_append, List.length_cons, List.length_nil, ty76_bytes] <;> omega) ?_
     refine at_int .i64 (x2049 + 1 : Int) (by simp only [lo, hi]; omega) ?_
     exact at_again (σ := ((List D_crosswalk_Entry) × Nat)) (V := Value × Nat × (List Value)) (lp := fun n s => m33_l1 a0 n s.1 s.2) (S := fun s e => (⟨[(4, e.1), (18, w2039), (19, .int .i64 (a0.length : Int)), (20, .int .i64 (s.2 : Int))], [], [⟨e.1, 76, 3, e.2.1, e.2.2⟩], [(ty76.row s.1 e.2.2), (pureF (s.1.length * ty76.bytes ≤ 140737488355328)), ((Ty.int .i64).fact (s.2 : Int) [.int .i64 (s.2 : Int)]), ((Ty.slice ty76).fact a0 [w2039])]⟩ : St)) (x2048 ++ [(⟨x2060.To, x2060.From, x2092⟩ : D_crosswalk_Entry)], x2049 + 1) (s2098, n2051 + 1, i2052 ++ [str x2060.To, str x2060.From, v2076]) hr ⟨⟨rfl, ⟨rfl, ⟨rfl, ⟨rfl, trivial⟩⟩⟩⟩, ⟨[false], rfl⟩, ⟨[false, true], rfl⟩, ⟨[2, 1, 0, 11], rfl⟩⟩
    replace hr := ineg h2059 hr
    refine at_false rfl (decide_eq_false (by omega)) ?_
    refine at_exit (at_then_exit (at_then_exit (at_in_exit ?_)))
    have hq := oinj hr
    clear hr
    subst hq
    exact at_leaf (v2050, n2051, i2052) ⟨⟨rfl, trivial⟩, ⟨[], rfl⟩, ⟨[true], rfl⟩, ⟨[0, 1], rfl⟩⟩
   clear hl2057
   intro e
   obtain ⟨v2054, n2055, i2056⟩ := e
   change At _ _ (⟨[(4, v2054)], [], [⟨v2054, 76, 3, n2055, i2056⟩], [(ty76.row x2053 i2056), (pureF (x2053.length * ty76.bytes ≤ 140737488355328))]⟩ : St) _
   refine s_tsr (s_mv rfl ?_)
   replace hr := obind hr
   obtain ⟨x2102, h2103, hr⟩ := hr
   refine at_pure 1 rfl (fun hb2104 => ?_)
   refine at_hv rfl (hv_callG0 [true] [0, 1] (f69_spec h2103) rfl rfl rfl rfl rfl rfl ?_)
   rintro _ _ _ ⟨rfl, i2105, rfl, rfl⟩
   refine s_ntsr (s_mv rfl (s_as rfl (s_as rfl (s_nt (at_ret ?_)))))
   have hq := oinj hr
   clear hr
   subst hq
   refine at_pure 1 rfl (fun hb2106 => ?_)
   refine at_release 0 0 rfl rfl rfl hb2106 (at_int .i64 0 (by simp only [lo, hi]; omega) ?_)
   exact at_return (.tuple #[v2054, .int .i64 0]) [1, 0] hS Tryz.results33 (.cons (.tmp rfl) (.cons (.tmp rfl) .nil)) rfl rfl ⟨v2054, rfl, rfl⟩
  replace hr := ineg h2045 hr
  refine at_true rfl (nf (bf h2045)) (s_sr (s_as rfl (s_as rfl (s_nt (at_ret ?_)))))
  have hq := oinj hr
  clear hr
  subst hq
  refine at_in_ret (at_then_ret (at_fnil ty76 none (at_int .i64 16 (by simp only [lo, hi]; omega) ?_)))
  exact at_return (.tuple #[(.slice none 0 0), .int .i64 16]) [1, 0] hS Tryz.results33 (.cons (.tmp rfl) (.cons (.tmp rfl) .nil)) rfl rfl ⟨((.slice none 0 0)), rfl, rfl⟩
 replace hr := ineg h2042 hr
 refine at_true rfl (nf (bf h2042)) (s_sr (s_as rfl (s_as rfl (s_nt (at_ret ?_)))))
 have hq := oinj hr
 clear hr
 subst hq
 refine at_in_ret (at_then_ret (at_fnil ty76 none (at_int .i64 1 (by simp only [lo, hi]; omega) ?_)))
 exact at_return (.tuple #[(.slice none 0 0), .int .i64 1]) [1, 0] hS Tryz.results33 (.cons (.tmp rfl) (.cons (.tmp rfl) .nil)) rfl rfl ⟨((.slice none 0 0)), rfl, rfl⟩
end Go.WK.S
