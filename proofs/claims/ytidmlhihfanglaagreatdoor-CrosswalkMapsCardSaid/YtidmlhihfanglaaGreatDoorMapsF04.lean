
/- What functions of this program compute: a model of each, and the proof that it is kept. -/
import Derived.Test.YtidmlhihfanglaaGreatDoorMapsF03
import Derived.KernelRfl
set_option linter.unusedSimpArgs false
set_option linter.unusedVariables false
namespace Go.WK.S
open Go Go.Proofs Go.WK Go.RowKit
set_option linter.unusedVariables false
set_option maxRecDepth 100000
set_option maxHeartbeats 4000000
def m22_l2 (a0 : (List D_crosswalk_Entry)) (x1605 : Nat) : Nat → Nat → (List D_ref16_Pair) → Option (List D_ref16_Pair)
  | 0, _, _ => none
  | k + 1, x1630, x1631 =>
    (a0[x1605]?).bind fun x1641 =>
    if x1630 < x1641.Codes.length then
     (a0[x1605]?).bind fun x1649 =>
     (x1649.Codes[x1630]?).bind fun x1654 =>
     if x1631.length + 1 ≤ 70368744177664 then
      m22_l2 a0 x1605 k (x1630 + 1) (x1631 ++ [(⟨x1654.From, x1654.To⟩ : D_ref16_Pair)])
     else none
    else
     some x1631
def m22_l1 (a0 : (List D_crosswalk_Entry)) : Nat → (List D_ref16_Entry) → Nat → Option (List D_ref16_Entry)
  | 0, _, _ => none
  | k + 1, x1604, x1605 =>
    if x1605 < a0.length then
     (a0[x1605]?).bind fun x1618 =>
     (a0[x1605]?).bind fun x1623 =>
     (m22_l2 a0 x1605 9223372036854775808 0 ([] : (List D_ref16_Pair))).bind fun x1635 =>
     if x1604.length + 1 ≤ 2513169434916 then
      m22_l1 a0 k (x1604 ++ [(⟨x1618.From, x1623.To, x1635⟩ : D_ref16_Entry)]) (x1605 + 1)
     else none
    else
     some x1604
def m22 (a0 : (List D_crosswalk_Entry)) : Option (List D_ref16_Entry) :=
  (m22_l1 a0 (a0.length + 1) ([] : (List D_ref16_Entry)) 0).bind fun x1609 =>
  some x1609
def post22 (r : (List D_ref16_Entry)) (v : Value) (fs : List Fact) : Prop := ∃ s1674 : Value, v = s1674 ∧ fs = [((Ty.slice ty50).fact r [s1674])]
theorem en22 : Enters Tryz.prog 22 := ⟨_, Tryz.func22, by kernel_rfl, rfl⟩
theorem f22_spec {a0 : (List D_crosswalk_Entry)} {w1603 : Value} {r : (List D_ref16_Entry)} (hr : m22 a0 = some r) : Spec Tryz.prog 22 [w1603] [((Ty.slice ty76).fact a0 [w1603])] (post22 r) := by
 refine spec_start (N := 52) Tryz.func22 (by kernel_rfl) rfl rfl rfl ?_
 intro g hS
 unfold m22 at hr
 refine s_sr (s_as rfl (s_ntsr (s_as rfl (s_nt (at_seq (s_sr (s_as rfl (s_nt (at_rownew none 50 3 ?_)))))))))
 refine at_rownil ty50 ?_
 refine at_mkpure (q := (([] : (List D_ref16_Entry)).length * ty50.bytes ≤ 140737488355328)) (by simp only [List.nil_append, List.cons_append, List.length_cons, List.length_nil, ty50_bytes] <;> omega) ?_
 refine at_int .i64 0 (by simp only [lo, hi]; omega) ?_
 replace hr := obind hr
 obtain ⟨x1609, hl1613, hr⟩ := hr
 refine at_cut (V := Value × Nat × (List Value)) (fun e => (⟨[(3, e.1)], [], [⟨e.1, 50, 3, e.2.1, e.2.2⟩], [(ty50.row x1609 e.2.2), (pureF (x1609.length * ty50.bytes ≤ 140737488355328))]⟩ : St)) ?_ ?_
 ·refine at_block ?_
  refine at_loopW (σ := ((List D_ref16_Entry) × Nat)) (V := Value × Nat × (List Value)) (r := x1609) (fun n s => m22_l1 a0 n s.1 s.2) (fun s e => (⟨[(0, w1603), (3, e.1), (4, .int .i64 (s.2 : Int))], [], [⟨e.1, 50, 3, e.2.1, e.2.2⟩], [(ty50.row s.1 e.2.2), (pureF (s.1.length * ty50.bytes ≤ 140737488355328)), ((Ty.int .i64).fact (s.2 : Int) [.int .i64 (s.2 : Int)]), ((Ty.slice ty76).fact a0 [w1603])]⟩ : St)) (fun _ => rfl) _ (([] : (List D_ref16_Entry)), 0) ((.slice none 0 0), 0, []) hl1613 ⟨⟨rfl, ⟨rfl, ⟨rfl, trivial⟩⟩⟩, ⟨[], rfl⟩, ⟨[true], rfl⟩, ⟨[2, 1, 0, 3], rfl⟩⟩ ?_
  clear hr hl1613
  intro n s hr e
  obtain ⟨x1604, x1605⟩ := s
  obtain ⟨v1606, n1607, i1608⟩ := e
  change m22_l1 a0 (n + 1) x1604 x1605 = some x1609 at hr
  change At _ _ (⟨[(0, w1603), (3, v1606), (4, .int .i64 (x1605 : Int))], [], [⟨v1606, 50, 3, n1607, i1608⟩], [(ty50.row x1604 i1608), (pureF (x1604.length * ty50.bytes ≤ 140737488355328)), ((Ty.int .i64).fact (x1605 : Int) [.int .i64 (x1605 : Int)]), ((Ty.slice ty76).fact a0 [w1603])]⟩ : St) _
  rw [m22_l1] at hr
  refine at_seq (s_sr (s_mv rfl (s_mv rfl ?_)))
  refine at_inv 3 rfl (fun i1615 => ?_)
  have l1616 := slice_len i1615
  refine at_lt (lt_flen 3 rfl rfl und34) rfl (at_lt (lt_lss rfl rfl) rfl (s_nt ?_))
  by_cases h1617 : x1605 < a0.length
  ·replace hr := ipos h1617 hr
   refine at_true rfl (decide_eq_true (by omega)) ?_
   refine at_skip (at_then (at_seq (at_block (at_seq ?_))))
   replace hr := obind hr
   obtain ⟨x1618, h1619, hr⟩ := hr
   have := (List.getElem?_eq_some_iff.1 h1619).1
   refine at_elem 3 rfl (nat_at' h1619) (fun p1621 ec pa1622 => ?_)
   refine at_open (A := Value) 0 rfl _ _ (fun F w h => op76 h) ?_
   rintro s1620 rfl
   replace hr := obind hr
   obtain ⟨x1623, h1624, hr⟩ := hr
   have := (List.getElem?_eq_some_iff.1 h1624).1
   refine at_elem 8 rfl (nat_at' h1624) (fun p1626 ec pa1627 => ?_)
   refine at_open (A := Value) 0 rfl _ _ (fun F w h => op76 h) ?_
   rintro s1625 rfl
   refine aa_start 13 (by kernel_rfl) ?_
   refine aa_p 0 rfl (lt_move rfl) (aa_p 1 rfl (lt_move rfl) (aa_p 2 rfl (lt_idx rfl rfl pa1622 und34 ti76) (aa_p 3 rfl (lt_fieldAddr 0 rfl fld76_0 rfl) (aa_l 4 rfl (lt_load_peek 9 rfl ti9 rfl rfl rfl rfl rfl) (aa_p 5 rfl (lt_move rfl) (aa_p 6 rfl (lt_move rfl) (aa_p 7 rfl (lt_idx rfl rfl pa1627 und34 ti76) (aa_p 8 rfl (lt_fieldAddr 1 rfl fld76_1 rfl) (aa_l 9 rfl (lt_load_peek 4 rfl ti9 rfl rfl rfl rfl rfl) ?_)))))))))
   refine aa_p 10 rfl (lt_build (cs := [str x1618.From, str x1623.To, (.slice none 0 0)]) rfl ti50 pl50 rfl) (aa_one 11 (aa_op rfl rfl ?_))
   refine hv_alloc (cs := [str ([] : Str), str ([] : Str), (.slice none 0 0)]) ti50 rfl rfl (fun b1629 => ?_)
   refine aa_all (rs := [12]) (by kernel_rfl) rfl (ts_in 1 0 rfl rfl) (List.forall_mem_singleton.2 ?_)
   refine aa_op rfl rfl (hv_store_box 0 (cs' := [str x1618.From, str x1623.To, (.slice none 0 0)]) rfl rfl ti50 rfl rfl rfl rfl rfl ?_)
   refine aa_done (by kernel_rfl) (ts_in 1 0 rfl rfl) ?_
   refine at_then (at_seq (s_sr (s_as rfl (s_nt (at_int .i64 0 (by simp only [lo, hi]; omega) (at_rownew none 83 2 (at_rownil ty83 ?_)))))))
   refine at_mkpure (q := (([] : (List D_ref16_Pair)).length * ty83.bytes ≤ 140737488355328)) (by simp only [List.nil_append, List.cons_append, List.length_cons, List.length_nil, ty83_bytes] <;> omega) ?_
   replace hr := obind hr
   obtain ⟨x1635, hl1639, hr⟩ := hr
   refine at_cut (V := Value × Nat × (List Value)) (fun e => (⟨[(0, w1603), (3, v1606), (4, .int .i64 (x1605 : Int)), (5, .pointer (some (Addr.add ⟨b1629, 0, none⟩ 0)))], [⟨b1629, [str x1618.From, str x1623.To, e.1], 50⟩], [⟨e.1, 83, 2, e.2.1, e.2.2⟩, ⟨v1606, 50, 3, n1607, i1608⟩], [(ty83.row x1635 e.2.2), (pureF (x1635.length * ty83.bytes ≤ 140737488355328)), ((Ty.slice ty76).fact a0 [w1603]), (ty50.row x1604 i1608), (pureF (x1604.length * ty50.bytes ≤ 140737488355328)), ((Ty.int .i64).fact (x1605 : Int) [.int .i64 (x1605 : Int)]), (Ty.str.fact x1618.From [str x1618.From]), (Ty.str.fact x1623.To [str x1623.To])]⟩ : St)) ?_ ?_
   ·refine at_block ?_
    refine at_loopW (σ := (Nat × (List D_ref16_Pair))) (V := Value × Nat × (List Value)) (r := x1635) (fun n s => m22_l2 a0 x1605 n s.1 s.2) (fun s e => (⟨[(0, w1603), (3, v1606), (4, .int .i64 (x1605 : Int)), (5, .pointer (some (Addr.add ⟨b1629, 0, none⟩ 0))), (6, .int .i64 (s.1 : Int))], [⟨b1629, [str x1618.From, str x1623.To, e.1], 50⟩], [⟨e.1, 83, 2, e.2.1, e.2.2⟩, ⟨v1606, 50, 3, n1607, i1608⟩], [((Ty.int .i64).fact (s.1 : Int) [.int .i64 (s.1 : Int)]), (ty83.row s.2 e.2.2), (pureF (s.2.length * ty83.bytes ≤ 140737488355328)), ((Ty.slice ty76).fact a0 [w1603]), (ty50.row x1604 i1608), (pureF (x1604.length * ty50.bytes ≤ 140737488355328)), ((Ty.int .i64).fact (x1605 : Int) [.int .i64 (x1605 : Int)]), (Ty.str.fact x1618.From [str x1618.From]), (Ty.str.fact x1623.To [str x1623.To])]⟩ : St)) (fun _ => rfl) _ (0, ([] : (List D_ref16_Pair))) ((.slice none 0 0), 0, []) hl1639 ⟨⟨rfl, ⟨rfl, ⟨rfl, ⟨rfl, ⟨rfl, trivial⟩⟩⟩⟩⟩, ⟨[true], rfl⟩, ⟨[true, true], rfl⟩, ⟨[2, 1, 0, 16, 13, 14, 15, 8, 4], rfl⟩⟩ ?_
    clear hr hl1639
    intro n s hr e
    obtain ⟨x1630, x1631⟩ := s
    obtain ⟨v1632, n1633, i1634⟩ := e
    change m22_l2 a0 x1605 (n + 1) x1630 x1631 = some x1635 at hr
    change At _ _ (⟨[(0, w1603), (3, v1606), (4, .int .i64 (x1605 : Int)), (5, .pointer (some (Addr.add ⟨b1629, 0, none⟩ 0))), (6, .int .i64 (x1630 : Int))], [⟨b1629, [str x1618.From, str x1623.To, v1632], 50⟩], [⟨v1632, 83, 2, n1633, i1634⟩, ⟨v1606, 50, 3, n1607, i1608⟩], [((Ty.int .i64).fact (x1630 : Int) [.int .i64 (x1630 : Int)]), (ty83.row x1631 i1634), (pureF (x1631.length * ty83.bytes ≤ 140737488355328)), ((Ty.slice ty76).fact a0 [w1603]), (ty50.row x1604 i1608), (pureF (x1604.length * ty50.bytes ≤ 140737488355328)), ((Ty.int .i64).fact (x1605 : Int) [.int .i64 (x1605 : Int)]), (Ty.str.fact x1618.From [str x1618.From]), (Ty.str.fact x1623.To [str x1623.To])]⟩ : St) _
    rw [m22_l2] at hr
    refine at_seq (s_sr (s_mv rfl (s_mv rfl (s_mv rfl ?_))))
    replace hr := obind hr
    obtain ⟨x1641, h1642, hr⟩ := hr
    have := (List.getElem?_eq_some_iff.1 h1642).1
    refine at_elem 3 rfl (nat_at' h1642) (fun p1644 ec pa1645 => ?_)
    refine at_open (A := Value) 0 rfl _ _ (fun F w h => op76 h) ?_
    rintro s1643 rfl
    refine at_lt (lt_idx rfl rfl pa1645 und34 ti76) rfl (at_lt (lt_fieldAddr 2 rfl fld76_2 rfl) rfl (at_lt (lt_load_peek 4 rfl ti74 rfl rfl rfl rfl rfl) rfl ?_))
    refine at_inv 2 rfl (fun i1646 => ?_)
    have l1647 := slice_len i1646
    refine at_lt (lt_flen 2 rfl rfl und74) rfl (at_lt (lt_lss rfl rfl) rfl (s_nt ?_))
    by_cases h1648 : x1630 < x1641.Codes.length
    ·replace hr := ipos h1648 hr
     refine at_true rfl (decide_eq_true (by omega)) ?_
     refine at_skip (at_then (at_seq (at_block ?_)))
     replace hr := obind hr
     obtain ⟨x1649, h1650, hr⟩ := hr
     have := (List.getElem?_eq_some_iff.1 h1650).1
     refine at_elem 8 rfl (nat_at' h1650) (fun p1652 ec pa1653 => ?_)
     refine at_open (A := Value) 0 rfl _ _ (fun F w h => op76 h) ?_
     rintro s1651 rfl
     replace hr := obind hr
     obtain ⟨x1654, h1655, hr⟩ := hr
     have := (List.getElem?_eq_some_iff.1 h1655).1
     refine at_elem 2 rfl (nat_at' h1655) (fun p1656 ec pa1657 => ?_)
     refine at_open (A := Unit) 0 rfl _ _ (fun F w h => op82 h) ?_
     rintro _ rfl
     replace hr := imust hr
     obtain ⟨h1659, hr⟩ := hr
     refine aa_start 13 (by kernel_rfl) ?_
     refine aa_p 0 rfl (lt_fieldAddr 2 rfl fld50_2 rfl) (aa_l 1 rfl (lt_load_box 0 rfl ti48 rfl rfl rfl rfl rfl) (aa_p 2 rfl (lt_move rfl) (aa_p 3 rfl (lt_move rfl) (aa_p 4 rfl (lt_idx rfl rfl pa1653 und34 ti76) (aa_p 5 rfl (lt_fieldAddr 2 rfl fld76_2 rfl) (aa_l 6 rfl (lt_load_peek 6 rfl ti74 rfl rfl rfl rfl rfl) (aa_p 7 rfl (lt_move rfl) (aa_p 8 rfl (lt_idx rfl rfl pa1657 und74 ti82) (aa_l 9 rfl (lt_load_peek 1 rfl ti82 rfl rfl rfl rfl rfl) ?_)))))))))
     refine aa_one 10 (aa_op rfl rfl ?_)
     refine hv_bslice (cs := [.int .u8 (x1654.From.toNat : Int), .int .u8 (x1654.To.toNat : Int)]) rfl und48 ti83 rfl rfl rfl rfl rfl (fun s1663 => ?_)
     refine aa_one 11 ?_
     refine at_derive [] (ty83.fact (⟨x1654.From, x1654.To⟩ : D_ref16_Pair) [.int .u8 (x1654.From.toNat : Int), .int .u8 (x1654.To.toNat : Int)]) rfl (fun F w h => mk83 (x := (⟨x1654.From, x1654.To⟩ : D_ref16_Pair)) h) ?_
     refine at_rown 1 14 rfl rfl rfl (fun hn1665 => ?_)
     refine aa_op rfl rfl ?_
     refine hv_append 1 0 rfl rfl rfl rfl und48 ti83 rfl rfl rfl (by omega) (by omega) rfl (fun s1664 => ?_)
     refine at_rowsnoc 14 0 rfl rfl ?_
     refine aa_pure 12 rfl (by kernel_rfl) rfl rfl (lt_fieldAddr 2 rfl fld50_2 rfl) rfl (ts_in 0 2 rfl rfl) ?_
     refine aa_all (rs := [13]) (by kernel_rfl) rfl (ts_in 0 2 rfl rfl) (List.forall_mem_singleton.2 ?_)
     refine at_rowv 1 rfl (fun ho1666 => ?_)
     replace ho1666 := row_one (by obtain ⟨a, c, h⟩ := ho1666; exact ⟨a, _, c, h⟩)
     refine aa_op rfl rfl (hv_store1 0 (cs' := [str x1618.From, str x1623.To, s1664]) rfl rfl ti48 rfl rfl rfl rfl ho1666 ?_)
     refine aa_done (by kernel_rfl) (ts_out rfl) ?_
     refine at_in (s_tr (s_mv rfl (at_lt (lt_add rfl rfl (by simp only [lo, hi]; omega)) rfl (s_as rfl (at_nil (at_int .i64 (x1630 + 1 : Int) (by simp only [lo, hi]; omega) ?_))))))
     refine at_mkpure (q := ((x1631 ++ [(⟨x1654.From, x1654.To⟩ : D_ref16_Pair)]).length * ty83.bytes ≤ 140737488355328)) (by simp only [List.length_append, List.length_cons, List.length_nil, ty83_bytes] <;> omega) ?_
     exact at_again (σ := (Nat × (List D_ref16_Pair))) (V := Value × Nat × (List Value)) (lp := fun n s => m22_l2 a0 x1605 n s.1 s.2) (S := fun s e => (⟨[(0, w1603), (3, v1606), (4, .int .i64 (x1605 : Int)), (5, .pointer (some (Addr.add ⟨b1629, 0, none⟩ 0))), (6, .int .i64 (s.1 : Int))], [⟨b1629, [str x1618.From, str x1623.To, e.1], 50⟩], [⟨e.1, 83, 2, e.2.1, e.2.2⟩, ⟨v1606, 50, 3, n1607, i1608⟩], [((Ty.int .i64).fact (s.1 : Int) [.int .i64 (s.1 : Int)]), (ty83.row s.2 e.2.2), (pureF (s.2.length * ty83.bytes ≤ 140737488355328)), ((Ty.slice ty76).fact a0 [w1603]), (ty50.row x1604 i1608), (pureF (x1604.length * ty50.bytes ≤ 140737488355328)), ((Ty.int .i64).fact (x1605 : Int) [.int .i64 (x1605 : Int)]), (Ty.str.fact x1618.From [str x1618.From]), (Ty.str.fact x1623.To [str x1623.To])]⟩ : St)) (x1630 + 1, x1631 ++ [(⟨x1654.From, x1654.To⟩ : D_ref16_Pair)]) (s1664, n1633 + 1, i1634 ++ [.int .u8 (x1654.From.toNat : Int), .int .u8 (x1654.To.toNat : Int)]) hr ⟨⟨rfl, ⟨rfl, ⟨rfl, ⟨rfl, ⟨rfl, trivial⟩⟩⟩⟩⟩, ⟨[true], rfl⟩, ⟨[false, true, true], rfl⟩, ⟨[1, 2, 0, 19, 20, 21, 22, 23, 24], rfl⟩⟩
    replace hr := ineg h1648 hr
    refine at_false rfl (decide_eq_false (by omega)) ?_
    refine at_exit (at_then_exit (at_then_exit (at_in_exit ?_)))
    have hq := oinj hr
    clear hr
    subst hq
    exact at_leaf (v1632, n1633, i1634) ⟨⟨rfl, ⟨rfl, ⟨rfl, ⟨rfl, trivial⟩⟩⟩⟩, ⟨[true], rfl⟩, ⟨[true, true], rfl⟩, ⟨[6, 7, 8, 9, 10, 11, 12, 13], rfl⟩⟩
   clear hl1639
   intro e
   obtain ⟨v1636, n1637, i1638⟩ := e
   change At _ _ (⟨[(0, w1603), (3, v1606), (4, .int .i64 (x1605 : Int)), (5, .pointer (some (Addr.add ⟨b1629, 0, none⟩ 0)))], [⟨b1629, [str x1618.From, str x1623.To, v1636], 50⟩], [⟨v1636, 83, 2, n1637, i1638⟩, ⟨v1606, 50, 3, n1607, i1608⟩], [(ty83.row x1635 i1638), (pureF (x1635.length * ty83.bytes ≤ 140737488355328)), ((Ty.slice ty76).fact a0 [w1603]), (ty50.row x1604 i1608), (pureF (x1604.length * ty50.bytes ≤ 140737488355328)), ((Ty.int .i64).fact (x1605 : Int) [.int .i64 (x1605 : Int)]), (Ty.str.fact x1618.From [str x1618.From]), (Ty.str.fact x1623.To [str x1623.To])]⟩ : St) _
   refine s_tr (s_mv rfl (at_lt (lt_load_box 0 rfl ti50 rfl rfl rfl rfl rfl) rfl (at_hv rfl ?_)))
   refine hv_bslice (cs := [str x1618.From, str x1623.To, v1636]) rfl und22 ti50 rfl rfl rfl rfl rfl (fun s1667 => ?_)
   replace hr := imust hr
   obtain ⟨h1668, hr⟩ := hr
   refine at_pure 1 rfl (fun hb1670 => ?_)
   refine at_release 1 0 rfl rfl rfl hb1670 ?_
   refine at_derive [7, 8, 0] (ty50.fact (⟨x1618.From, x1623.To, x1635⟩ : D_ref16_Entry) [str x1618.From, str x1623.To, v1636]) rfl (fun F w h => mk50 (x := (⟨x1618.From, x1623.To, x1635⟩ : D_ref16_Entry)) h) ?_
   refine at_rown 1 5 rfl rfl rfl (fun hn1671 => ?_)
   refine at_one 1 rfl (fun ho1672 => ?_)
   refine at_hv rfl ?_
   refine hv_append 1 0 rfl rfl rfl rfl und22 ti50 rfl rfl (allc rfl (allc rfl (allc ho1672 rfl))) (by omega) (by omega) rfl (fun s1669 => ?_)
   refine at_rowsnoc 5 0 rfl rfl (s_as rfl (at_nil (at_in (s_tr (s_mv rfl (at_lt (lt_add rfl rfl (by simp only [lo, hi]; omega)) rfl (s_as rfl (at_nil ?_))))))))
   refine at_mkpure (q := ((x1604 ++ [(⟨x1618.From, x1623.To, x1635⟩ : D_ref16_Entry)]).length * ty50.bytes ≤ 140737488355328)) (by simp only [List.length_append, List.length_cons, List.length_nil, ty50_bytes] <;> omega) ?_
   refine at_int .i64 (x1605 + 1 : Int) (by simp only [lo, hi]; omega) ?_
   exact at_again (σ := ((List D_ref16_Entry) × Nat)) (V := Value × Nat × (List Value)) (lp := fun n s => m22_l1 a0 n s.1 s.2) (S := fun s e => (⟨[(0, w1603), (3, e.1), (4, .int .i64 (s.2 : Int))], [], [⟨e.1, 50, 3, e.2.1, e.2.2⟩], [(ty50.row s.1 e.2.2), (pureF (s.1.length * ty50.bytes ≤ 140737488355328)), ((Ty.int .i64).fact (s.2 : Int) [.int .i64 (s.2 : Int)]), ((Ty.slice ty76).fact a0 [w1603])]⟩ : St)) (x1604 ++ [(⟨x1618.From, x1623.To, x1635⟩ : D_ref16_Entry)], x1605 + 1) (s1669, n1607 + 1, i1608 ++ [str x1618.From, str x1623.To, v1636]) hr ⟨⟨rfl, ⟨rfl, ⟨rfl, trivial⟩⟩⟩, ⟨[false], rfl⟩, ⟨[false, true], rfl⟩, ⟨[2, 1, 0, 7], rfl⟩⟩
  replace hr := ineg h1617 hr
  refine at_false rfl (decide_eq_false (by omega)) ?_
  refine at_exit (at_then_exit (at_then_exit (at_in_exit ?_)))
  have hq := oinj hr
  clear hr
  subst hq
  exact at_leaf (v1606, n1607, i1608) ⟨⟨rfl, trivial⟩, ⟨[], rfl⟩, ⟨[true], rfl⟩, ⟨[0, 1], rfl⟩⟩
 clear hl1613
 intro e
 obtain ⟨v1610, n1611, i1612⟩ := e
 change At _ _ (⟨[(3, v1610)], [], [⟨v1610, 50, 3, n1611, i1612⟩], [(ty50.row x1609 i1612), (pureF (x1609.length * ty50.bytes ≤ 140737488355328))]⟩ : St) _
 refine s_tsr (s_mv rfl (s_as rfl (s_nt (at_ret ?_))))
 have hq := oinj hr
 clear hr
 subst hq
 refine at_pure 1 rfl (fun hb1673 => ?_)
 refine at_release 0 0 rfl rfl rfl hb1673 ?_
 exact at_return (v1610) [0] hS Tryz.results22 (.cons (.tmp rfl) .nil) rfl rfl ⟨v1610, rfl, rfl⟩
def m23_l1 (a0 : (List D_crosswalk_Entry)) : Nat → Str → Nat → Option Str
  | 0, _, _ => none
  | k + 1, x1681, x1682 =>
    if x1682 < a0.length then
     (a0[x1682]?).bind fun x1687 =>
     (m54 (⟨x1687.From, x1687.To, x1687.Codes⟩ : D_crosswalk_Entry)).bind fun x1694 =>
     if x1694.length + ([10] : Str).length ≤ 9223372036854775807 then
      if x1681.length + (x1694 ++ ([10] : Str)).length ≤ 9223372036854775807 then
       m23_l1 a0 k (x1681 ++ (x1694 ++ ([10] : Str))) (x1682 + 1)
      else none
     else none
    else
     some x1681
def m23 (a0 : (List D_crosswalk_Entry)) : Option (Str × Int) :=
  (m27 a0).bind fun x1676 =>
  if x1676 = true then
   (m23_l1 a0 (a0.length + 1) ([] : Str) 0).bind fun x1683 =>
   some (x1683, 0)
  else
   some (([] : Str), 1)
def post23 (r : (Str × Int)) (v : Value) (fs : List Fact) : Prop := v = .tuple #[str r.1, .int .i64 r.2] ∧ fs = [(Ty.str.fact r.1 [str r.1]), ((Ty.int .i64).fact r.2 [.int .i64 r.2])]
theorem en23 : Enters Tryz.prog 23 := ⟨_, Tryz.func23, by kernel_rfl, rfl⟩
theorem f23_spec {a0 : (List D_crosswalk_Entry)} {w1675 : Value} {r : (Str × Int)} (hr : m23 a0 = some r) : Spec Tryz.prog 23 [w1675] [((Ty.slice ty76).fact a0 [w1675])] (post23 r) := by
 refine spec_start (N := 23) Tryz.func23 (by kernel_rfl) rfl rfl rfl ?_
 intro g hS
 unfold m23 at hr
 refine s_sr (s_as rfl (s_as rfl (s_nt (at_seq (s_sr (s_mv rfl ?_))))))
 replace hr := obind hr
 obtain ⟨x1676, h1677, hr⟩ := hr
 refine at_hv rfl (hv_call0 [0] (f27_spec h1677) rfl rfl rfl rfl ?_)
 rintro _ _ ⟨rfl, rfl⟩
 refine at_lt (lt_not rfl) rfl (s_nt ?_)
 by_cases h1678 : x1676 = true
 ·replace hr := ipos h1678 hr
  refine at_false rfl (nt h1678) (at_skip (s_tsr (s_as rfl (s_nt (at_seq (s_sr (s_mv rfl ?_)))))))
  refine at_inv 0 rfl (fun i1679 => ?_)
  have l1680 := slice_len i1679
  refine at_lt (lt_flen 0 rfl rfl und34) rfl (s_mv rfl (s_nt ?_))
  refine at_str ([] : Str) (by decide) ?_
  refine at_int .i64 0 (by simp only [lo, hi]; omega) ?_
  replace hr := obind hr
  obtain ⟨x1683, hl1684, hr⟩ := hr
  refine at_cut (V := Unit) (fun e => (⟨[(4, str x1683)], [], [], [(Ty.str.fact x1683 [str x1683])]⟩ : St)) ?_ ?_
  ·refine at_block ?_
   refine at_loopW (σ := (Str × Nat)) (V := Unit) (r := x1683) (fun n s => m23_l1 a0 n s.1 s.2) (fun s e => (⟨[(4, str s.1), (10, w1675), (11, .int .i64 (a0.length : Int)), (12, .int .i64 (s.2 : Int))], [], [], [(Ty.str.fact s.1 [str s.1]), ((Ty.int .i64).fact (s.2 : Int) [.int .i64 (s.2 : Int)]), ((Ty.slice ty76).fact a0 [w1675])]⟩ : St)) (fun _ => rfl) _ (([] : Str), 0) () hl1684 ⟨⟨rfl, ⟨rfl, ⟨rfl, ⟨rfl, trivial⟩⟩⟩⟩, ⟨[], rfl⟩, ⟨[], rfl⟩, ⟨[1, 0, 2], rfl⟩⟩ ?_
   clear hr hl1684
   intro n s hr e
   obtain ⟨x1681, x1682⟩ := s
   skip
   change m23_l1 a0 (n + 1) x1681 x1682 = some x1683 at hr
   change At _ _ (⟨[(4, str x1681), (10, w1675), (11, .int .i64 (a0.length : Int)), (12, .int .i64 (x1682 : Int))], [], [], [(Ty.str.fact x1681 [str x1681]), ((Ty.int .i64).fact (x1682 : Int) [.int .i64 (x1682 : Int)]), ((Ty.slice ty76).fact a0 [w1675])]⟩ : St) _
   rw [m23_l1] at hr
   refine s_sr (at_lt (lt_lss rfl rfl) rfl (s_nt (at_seq ?_)))
   by_cases h1686 : x1682 < a0.length
   ·replace hr := ipos h1686 hr
    refine at_true rfl (decide_eq_true (by omega)) ?_
    refine at_skip (at_then (at_seq (at_block (s_sr ?_))))
    replace hr := obind hr
    obtain ⟨x1687, h1688, hr⟩ := hr
    have := (List.getElem?_eq_some_iff.1 h1688).1
    refine at_elem 2 rfl (nat_at' h1688) (fun p1690 ec pa1691 => ?_)
    refine at_open (A := Value) 0 rfl _ _ (fun F w h => op76 h) ?_
    rintro s1689 rfl
    refine at_lt (lt_idx rfl rfl pa1691 und34 ti76) rfl (at_lt (lt_load_peek 4 rfl ti76 rfl rfl rfl rfl rfl) rfl (at_hv rfl ?_))
    refine hv_alloc (cs := [str ([] : Str), str ([] : Str), (.slice none 0 0)]) ti76 rfl rfl (fun b1692 => ?_)
    refine at_one 2 rfl (fun ho1693 => ?_)
    refine at_hv rfl (hv_store_box 0 (cs' := [str x1687.From, str x1687.To, s1689]) rfl rfl ti76 rfl rfl rfl rfl (allc rfl (allc rfl (allc ho1693 rfl))) (at_nil (s_tr (s_mv rfl (at_lt (lt_load_box 0 rfl ti76 rfl rfl rfl rfl rfl) rfl ?_)))))
    replace hr := obind hr
    obtain ⟨x1694, h1695, hr⟩ := hr
    refine at_derive [0, 1, 2] (ty76.fact (⟨x1687.From, x1687.To, x1687.Codes⟩ : D_crosswalk_Entry) [str x1687.From, str x1687.To, s1689]) rfl (fun F w h => mk76 (x := (⟨x1687.From, x1687.To, x1687.Codes⟩ : D_crosswalk_Entry)) h) ?_
    refine at_hv rfl (hv_call0 [0] (f54_spec h1695) rfl rfl rfl rfl ?_)
    rintro _ _ ⟨rfl, rfl⟩
    replace hr := imust hr
    obtain ⟨h1696, hr⟩ := hr
    refine at_lt (lt_sadd rfl rfl h1696) rfl ?_
    replace hr := imust hr
    obtain ⟨h1697, hr⟩ := hr
    refine at_lt (lt_sadd rfl rfl h1697) rfl (s_as rfl (at_nil (at_in (s_tr ?_))))
    refine at_inv 0 rfl (fun l1698 => ?_)
    replace l1698 : x1694.length ≤ 9223372036854775807 := l1698
    refine at_inv 7 rfl (fun l1699 => ?_)
    replace l1699 : x1681.length ≤ 9223372036854775807 := l1699
    refine at_lt (lt_add rfl rfl (by simp only [lo, hi]; omega)) rfl (s_mv rfl (at_nil ?_))
    refine at_str (x1681 ++ (x1694 ++ ([10] : Str))) (by rw [List.length_append]; exact h1697) ?_
    refine at_int .i64 (x1682 + 1 : Int) (by simp only [lo, hi]; omega) ?_
    exact at_again (σ := (Str × Nat)) (V := Unit) (lp := fun n s => m23_l1 a0 n s.1 s.2) (S := fun s e => (⟨[(4, str s.1), (10, w1675), (11, .int .i64 (a0.length : Int)), (12, .int .i64 (s.2 : Int))], [], [], [(Ty.str.fact s.1 [str s.1]), ((Ty.int .i64).fact (s.2 : Int) [.int .i64 (s.2 : Int)]), ((Ty.slice ty76).fact a0 [w1675])]⟩ : St)) (x1681 ++ (x1694 ++ ([10] : Str)), x1682 + 1) () hr ⟨⟨rfl, ⟨rfl, ⟨rfl, ⟨rfl, trivial⟩⟩⟩⟩, ⟨[false], rfl⟩, ⟨[], rfl⟩, ⟨[1, 0, 11], rfl⟩⟩
   replace hr := ineg h1686 hr
   refine at_false rfl (decide_eq_false (by omega)) ?_
   refine at_exit (at_then_exit (at_then_exit (at_in_exit ?_)))
   have hq := oinj hr
   clear hr
   subst hq
   exact at_leaf () ⟨⟨rfl, trivial⟩, ⟨[], rfl⟩, ⟨[], rfl⟩, ⟨[0], rfl⟩⟩
  clear hl1684
  intro e
  change At _ _ (⟨[(4, str x1683)], [], [], [(Ty.str.fact x1683 [str x1683])]⟩ : St) _
  refine s_tsr (s_mv rfl (s_as rfl (s_as rfl (s_nt (at_ret ?_)))))
  have hq := oinj hr
  clear hr
  subst hq
  refine at_int .i64 0 (by simp only [lo, hi]; omega) ?_
  exact at_return (.tuple #[str x1683, .int .i64 0]) [1, 0] hS Tryz.results23 (.cons (.tmp rfl) (.cons (.tmp rfl) .nil)) rfl rfl ⟨rfl, rfl⟩
 replace hr := ineg h1678 hr
 refine at_true rfl (nf (bf h1678)) (s_sr (s_as rfl (s_as rfl (s_nt (at_ret ?_)))))
 have hq := oinj hr
 clear hr
 subst hq
 refine at_then_ret ?_
 refine at_str ([] : Str) (by decide) ?_
 refine at_int .i64 1 (by simp only [lo, hi]; omega) ?_
 exact at_return (.tuple #[str ([] : Str), .int .i64 1]) [1, 0] hS Tryz.results23 (.cons (.tmp rfl) (.cons (.tmp rfl) .nil)) rfl rfl ⟨rfl, rfl⟩
def m115 (a0 : UInt8) : Option Bool :=
  if 48 ≤ a0.toNat then
   some (decide ((a0.toNat : Int) ≤ 57))
  else
   some false
def post115 (r : Bool) (v : Value) (fs : List Fact) : Prop := v = .bool r ∧ fs = []
theorem en115 : Enters Tryz.prog 115 := ⟨_, Tryz.func115, by kernel_rfl, rfl⟩
theorem f115_spec {a0 : UInt8} {r : Bool} (hr : m115 a0 = some r) : Spec Tryz.prog 115 [.int .u8 (a0.toNat : Int)] [] (post115 r) := by
 refine spec_start (N := 9) Tryz.func115 (by kernel_rfl) rfl rfl rfl ?_
 intro g hS
 unfold m115 at hr
 refine s_sr (s_as rfl (s_ntsr (s_mv rfl (at_lt (lt_geq rfl rfl) rfl (s_mv rfl ?_)))))
 by_cases h1700 : 48 ≤ a0.toNat
 ·replace hr := ipos h1700 hr
  refine at_on rfl rfl (decide_eq_true (by omega)) ?_
  refine s_mv rfl ?_
  refine at_on rfl rfl (decide_eq_true (by omega)) ?_
  refine at_lt (lt_leq rfl rfl) rfl ?_
  refine at_lt (lt_pick true rfl (decide_eq_true (by omega)) rfl) rfl ?_
  refine s_as rfl (s_nt (at_ret ?_))
  have hq := oinj hr
  clear hr
  subst hq
  exact at_return (.bool (decide ((a0.toNat : Int) ≤ 57))) [] hS Tryz.results115 (.cons (.tmp rfl) .nil) rfl rfl ⟨rfl, rfl⟩
 replace hr := ineg h1700 hr
 refine at_off rfl rfl (decide_eq_false (by omega)) rfl ?_
 refine at_off rfl rfl (decide_eq_false (by omega)) rfl ?_
 refine at_lt (lt_pick false rfl (decide_eq_false (by omega)) rfl) rfl ?_
 refine s_as rfl (s_nt (at_ret ?_))
 have hq := oinj hr
 clear hr
 subst hq
 exact at_return (.bool false) [] hS Tryz.results115 (.cons (.tmp rfl) .nil) rfl rfl ⟨rfl, rfl⟩
def m87 (a0 : Str) : Option Bool :=
  if a0.length = 3 then
   (a0[0]?).bind fun c1703 =>
   (m115 c1703).bind fun x1705 =>
   if x1705 = true then
    (a0[1]?).bind fun c1708 =>
    (m115 c1708).bind fun x1710 =>
    if x1710 = true then
     (a0[2]?).bind fun c1713 =>
     (m115 c1713).bind fun x1715 =>
     if x1715 = true then
      some (!decide (a0 = ([48, 48, 48] : Str)))
     else
      some false
    else
     some false
   else
    some false
  else
   some false
def post87 (r : Bool) (v : Value) (fs : List Fact) : Prop := v = .bool r ∧ fs = []
theorem en87 : Enters Tryz.prog 87 := ⟨_, Tryz.func87, by kernel_rfl, rfl⟩
theorem f87_spec {a0 : Str} {r : Bool} (hr : m87 a0 = some r) : Spec Tryz.prog 87 [str a0] [(Ty.str.fact a0 [str a0])] (post87 r) := by
 refine spec_start (N := 25) Tryz.func87 (by kernel_rfl) rfl rfl rfl ?_
 intro g hS
 unfold m87 at hr
 refine s_sr (s_as rfl (s_ntsr (s_mv rfl ?_)))
 refine at_inv 0 rfl (fun l1701 => ?_)
 replace l1701 : a0.length ≤ 9223372036854775807 := l1701
 refine at_lt (lt_slen rfl und9) rfl (at_lt (lt_eql rfl rfl) rfl (s_mv rfl ?_))
 by_cases h1702 : a0.length = 3
 ·replace hr := ipos h1702 hr
  refine at_on rfl rfl (decide_eq_true (by omega)) ?_
  refine s_mv rfl ?_
  replace hr := obind hr
  obtain ⟨c1703, h1704, hr⟩ := hr
  have := (List.getElem?_eq_some_iff.1 h1704).1
  have := c1703.toNat_lt
  refine at_on rfl rfl (decide_eq_true (by omega)) ?_
  refine at_lt (lt_sidx rfl rfl und9 (by omega) h1704) rfl ?_
  replace hr := obind hr
  obtain ⟨x1705, h1706, hr⟩ := hr
  refine at_on rfl rfl (decide_eq_true (by omega)) ?_
  refine at_hv rfl (hv_call0 [] (f115_spec h1706) rfl rfl rfl rfl ?_)
  rintro _ _ ⟨rfl, rfl⟩
  refine at_lt (lt_pick true rfl (decide_eq_true (by omega)) rfl) rfl ?_
  refine s_mv rfl ?_
  by_cases h1707 : x1705 = true
  ·replace hr := ipos h1707 hr
   refine at_on rfl rfl h1707 (s_mv rfl ?_)
   replace hr := obind hr
   obtain ⟨c1708, h1709, hr⟩ := hr
   have := (List.getElem?_eq_some_iff.1 h1709).1
   have := c1708.toNat_lt
   refine at_on rfl rfl h1707 ?_
   refine at_lt (lt_sidx rfl rfl und9 (by omega) h1709) rfl ?_
   replace hr := obind hr
   obtain ⟨x1710, h1711, hr⟩ := hr
   refine at_on rfl rfl h1707 (at_hv rfl (hv_call0 [] (f115_spec h1711) rfl rfl rfl rfl ?_))
   rintro _ _ ⟨rfl, rfl⟩
   refine at_lt (lt_pick true rfl h1707 rfl) rfl (s_mv rfl ?_)
   by_cases h1712 : x1710 = true
   ·replace hr := ipos h1712 hr
    refine at_on rfl rfl h1712 (s_mv rfl ?_)
    replace hr := obind hr
    obtain ⟨c1713, h1714, hr⟩ := hr
    have := (List.getElem?_eq_some_iff.1 h1714).1
    have := c1713.toNat_lt
    refine at_on rfl rfl h1712 ?_
    refine at_lt (lt_sidx rfl rfl und9 (by omega) h1714) rfl ?_
    replace hr := obind hr
    obtain ⟨x1715, h1716, hr⟩ := hr
    refine at_on rfl rfl h1712 (at_hv rfl (hv_call0 [] (f115_spec h1716) rfl rfl rfl rfl ?_))
    rintro _ _ ⟨rfl, rfl⟩
    refine at_lt (lt_pick true rfl h1712 rfl) rfl (s_mv rfl ?_)
    by_cases h1717 : x1715 = true
    ·replace hr := ipos h1717 hr
     refine at_on rfl rfl h1717 (s_mv rfl (at_on rfl rfl h1717 (at_lt (lt_sneq rfl rfl) rfl (at_lt (lt_pick true rfl h1717 rfl) rfl (s_as rfl (s_nt (at_ret ?_)))))))
     have hq := oinj hr
     clear hr
     subst hq
     exact at_return (.bool (!decide (a0 = ([48, 48, 48] : Str)))) [] hS Tryz.results87 (.cons (.tmp rfl) .nil) rfl rfl ⟨rfl, rfl⟩
    replace hr := ineg h1717 hr
    refine at_off rfl rfl (bf h1717) rfl (at_off rfl rfl (bf h1717) rfl (at_lt (lt_pick false rfl (bf h1717) rfl) rfl (s_as rfl (s_nt (at_ret ?_)))))
    have hq := oinj hr
    clear hr
    subst hq
    exact at_return (.bool false) [] hS Tryz.results87 (.cons (.tmp rfl) .nil) rfl rfl ⟨rfl, rfl⟩
   replace hr := ineg h1712 hr
   refine at_off rfl rfl (bf h1712) rfl (at_off rfl rfl (bf h1712) rfl (at_off rfl rfl (bf h1712) rfl (at_lt (lt_pick false rfl (bf h1712) rfl) rfl (s_mv rfl (at_off rfl rfl rfl rfl (at_off rfl rfl rfl rfl (at_lt (lt_pick false rfl rfl rfl) rfl (s_as rfl (s_nt ?_)))))))))
   refine at_ret ?_
   have hq := oinj hr
   clear hr
   subst hq
   exact at_return (.bool false) [] hS Tryz.results87 (.cons (.tmp rfl) .nil) rfl rfl ⟨rfl, rfl⟩
  replace hr := ineg h1707 hr
  refine at_off rfl rfl (bf h1707) rfl (at_off rfl rfl (bf h1707) rfl (at_off rfl rfl (bf h1707) rfl (at_lt (lt_pick false rfl (bf h1707) rfl) rfl (s_mv rfl (at_off rfl rfl rfl rfl (at_off rfl rfl rfl rfl (at_off rfl rfl rfl rfl (at_lt (lt_pick false rfl rfl rfl) rfl (s_mv rfl ?_)))))))))
  refine at_off rfl rfl rfl rfl (at_off rfl rfl rfl rfl (at_lt (lt_pick false rfl rfl rfl) rfl (s_as rfl (s_nt (at_ret ?_)))))
  have hq := oinj hr
  clear hr
  subst hq
  exact at_return (.bool false) [] hS Tryz.results87 (.cons (.tmp rfl) .nil) rfl rfl ⟨rfl, rfl⟩
 replace hr := ineg h1702 hr
 refine at_off rfl rfl (decide_eq_false (by omega)) rfl ?_
 refine at_off rfl rfl (decide_eq_false (by omega)) rfl ?_
 refine at_off rfl rfl (decide_eq_false (by omega)) rfl ?_
 refine at_lt (lt_pick false rfl (decide_eq_false (by omega)) rfl) rfl ?_
 refine s_mv rfl (at_off rfl rfl rfl rfl (at_off rfl rfl rfl rfl (at_off rfl rfl rfl rfl (at_lt (lt_pick false rfl rfl rfl) rfl (s_mv rfl (at_off rfl rfl rfl rfl (at_off rfl rfl rfl rfl (at_off rfl rfl rfl rfl (at_lt (lt_pick false rfl rfl rfl) rfl ?_)))))))))
 refine s_mv rfl (at_off rfl rfl rfl rfl (at_off rfl rfl rfl rfl (at_lt (lt_pick false rfl rfl rfl) rfl (s_as rfl (s_nt (at_ret ?_))))))
 have hq := oinj hr
 clear hr
 subst hq
 exact at_return (.bool false) [] hS Tryz.results87 (.cons (.tmp rfl) .nil) rfl rfl ⟨rfl, rfl⟩
def m89 (a0 : UInt8) : Option Bool :=
  (m115 a0).bind fun x1718 =>
  if x1718 = true then
   some true
  else
   if 97 ≤ a0.toNat then
    some (decide ((a0.toNat : Int) ≤ 122))
   else
    some false
def post89 (r : Bool) (v : Value) (fs : List Fact) : Prop := v = .bool r ∧ fs = []
theorem en89 : Enters Tryz.prog 89 := ⟨_, Tryz.func89, by kernel_rfl, rfl⟩
theorem f89_spec {a0 : UInt8} {r : Bool} (hr : m89 a0 = some r) : Spec Tryz.prog 89 [.int .u8 (a0.toNat : Int)] [] (post89 r) := by
 refine spec_start (N := 13) Tryz.func89 (by kernel_rfl) rfl rfl rfl ?_
 intro g hS
 unfold m89 at hr
 refine s_sr (s_as rfl (s_ntsr (s_mv rfl ?_)))
 replace hr := obind hr
 obtain ⟨x1718, h1719, hr⟩ := hr
 refine at_hv rfl (hv_call0 [] (f115_spec h1719) rfl rfl rfl rfl ?_)
 rintro _ _ ⟨rfl, rfl⟩
 refine s_mv rfl ?_
 by_cases h1720 : x1718 = true
 ·replace hr := ipos h1720 hr
  refine at_off rfl rfl h1720 rfl (at_off rfl rfl h1720 rfl (at_off rfl rfl h1720 rfl (at_offu rfl rfl rfl (at_offu rfl rfl rfl (at_off rfl rfl h1720 rfl (at_lt (lt_pick true rfl h1720 rfl) rfl (s_as rfl (s_nt (at_ret ?_)))))))))
  have hq := oinj hr
  clear hr
  subst hq
  exact at_return (.bool true) [] hS Tryz.results89 (.cons (.tmp rfl) .nil) rfl rfl ⟨rfl, rfl⟩
 replace hr := ineg h1720 hr
 refine at_on rfl rfl (bf h1720) (s_mv rfl (at_on rfl rfl (bf h1720) (at_lt (lt_geq rfl rfl) rfl (at_on rfl rfl (bf h1720) (s_mv rfl ?_)))))
 by_cases h1721 : 97 ≤ a0.toNat
 ·replace hr := ipos h1721 hr
  refine at_on rfl rfl (decide_eq_true (by omega)) ?_
  refine s_mv rfl ?_
  refine at_on rfl rfl (decide_eq_true (by omega)) ?_
  refine at_lt (lt_leq rfl rfl) rfl (at_on rfl rfl (bf h1720) ?_)
  refine at_lt (lt_pick true rfl (decide_eq_true (by omega)) rfl) rfl ?_
  refine at_lt (lt_pick false rfl (bf h1720) rfl) rfl (s_as rfl (s_nt (at_ret ?_)))
  have hq := oinj hr
  clear hr
  subst hq
  exact at_return (.bool (decide ((a0.toNat : Int) ≤ 122))) [] hS Tryz.results89 (.cons (.tmp rfl) .nil) rfl rfl ⟨rfl, rfl⟩
 replace hr := ineg h1721 hr
 refine at_off rfl rfl (decide_eq_false (by omega)) rfl ?_
 refine at_off rfl rfl (decide_eq_false (by omega)) rfl ?_
 refine at_on rfl rfl (bf h1720) ?_
 refine at_lt (lt_pick false rfl (decide_eq_false (by omega)) rfl) rfl ?_
 refine at_lt (lt_pick false rfl (bf h1720) rfl) rfl (s_as rfl (s_nt (at_ret ?_)))
 have hq := oinj hr
 clear hr
 subst hq
 exact at_return (.bool false) [] hS Tryz.results89 (.cons (.tmp rfl) .nil) rfl rfl ⟨rfl, rfl⟩
def m88 (a0 : UInt8) : Option Bool :=
  (m89 a0).bind fun x1722 =>
  some x1722
def post88 (r : Bool) (v : Value) (fs : List Fact) : Prop := v = .bool r ∧ fs = []
theorem en88 : Enters Tryz.prog 88 := ⟨_, Tryz.func88, by kernel_rfl, rfl⟩
theorem f88_spec {a0 : UInt8} {r : Bool} (hr : m88 a0 = some r) : Spec Tryz.prog 88 [.int .u8 (a0.toNat : Int)] [] (post88 r) := by
 refine spec_start (N := 5) Tryz.func88 (by kernel_rfl) rfl rfl rfl ?_
 intro g hS
 unfold m88 at hr
 refine s_sr (s_as rfl (s_ntsr (s_mv rfl ?_)))
 replace hr := obind hr
 obtain ⟨x1722, h1723, hr⟩ := hr
 refine at_hv rfl (hv_call0 [] (f89_spec h1723) rfl rfl rfl rfl ?_)
 rintro _ _ ⟨rfl, rfl⟩
 refine s_as rfl (s_nt (at_ret ?_))
 have hq := oinj hr
 clear hr
 subst hq
 exact at_return (.bool x1722) [] hS Tryz.results88 (.cons (.tmp rfl) .nil) rfl rfl ⟨rfl, rfl⟩
def m55_l1 (a0 : D_ref16_Entry) : Nat → Nat → Option (Fl Bool Unit)
  | 0, _ => none
  | k + 1, x1736 =>
    if x1736 < a0.Codes.length then
     (a0.Codes[x1736]?).bind fun x1741 =>
     (m88 x1741.From).bind fun x1746 =>
     if x1746 = true then
      (m88 x1741.To).bind fun x1749 =>
      if x1749 = true then
       if 0 < x1736 then
        (at? a0.Codes ((x1736 : Int) - 1)).bind fun x1753 =>
        if x1741.From.toNat ≤ x1753.From.toNat then
         some (Fl.ret false)
        else
         m55_l1 a0 k (x1736 + 1)
       else
        m55_l1 a0 k (x1736 + 1)
      else
       some (Fl.ret false)
     else
      some (Fl.ret false)
    else
     some (Fl.go ())
def m55 (a0 : D_ref16_Entry) : Option Bool :=
  (m87 a0.From).bind fun x1726 =>
  if x1726 = true then
   (m87 a0.To).bind fun x1729 =>
   if x1729 = true then
    if a0.Codes.length < 1 then
     some false
    else
     if 36 < a0.Codes.length then
      some false
     else
      (m55_l1 a0 (a0.Codes.length + 1) 0).bind fun r => match r with
      | .ret x => some x
      | .go _ =>
       some true
   else
    some false
  else
   some false
def post55 (r : Bool) (v : Value) (fs : List Fact) : Prop := v = .bool r ∧ fs = []
theorem en55 : Enters Tryz.prog 55 := ⟨_, Tryz.func55, by kernel_rfl, rfl⟩
theorem f55_spec {a0 : D_ref16_Entry} {s1724 : Value} {r : Bool} (hr : m55 a0 = some r) : Spec Tryz.prog 55 [.agg #[str a0.From, str a0.To, s1724]] [(ty50.fact a0 [str a0.From, str a0.To, s1724])] (post55 r) := by
 refine spec_start (N := 65) Tryz.func55 (by kernel_rfl) rfl rfl rfl ?_
 intro g hS
 unfold m55 at hr
 refine at_open (A := Unit) 0 rfl (fun _ => True) (fun _ => [(Ty.str.fact a0.From [str a0.From]), (Ty.str.fact a0.To [str a0.To]), ((Ty.slice ty83).fact a0.Codes [s1724])]) (fun F w h => ⟨(), trivial, ex50 h⟩) (fun _ _ => ?_)
 refine s_sr (at_hv rfl ?_)
 refine hv_box (cs := [str a0.From, str a0.To, s1724]) rfl rfl rfl (fun b1725 => ?_)
 refine s_as rfl (s_nt (at_seq (s_sr (at_lt (lt_fieldAddr 0 rfl fld50_0 rfl) rfl (at_lt (lt_load_box 0 rfl ti9 rfl rfl rfl rfl rfl) rfl ?_)))))
 replace hr := obind hr
 obtain ⟨x1726, h1727, hr⟩ := hr
 refine at_hv rfl (hv_call0 [0] (f87_spec h1727) rfl rfl rfl rfl ?_)
 rintro _ _ ⟨rfl, rfl⟩
 refine at_lt (lt_not rfl) rfl (s_mv rfl ?_)
 by_cases h1728 : x1726 = true
 ·replace hr := ipos h1728 hr
  refine at_on rfl rfl (nt h1728) (at_lt (lt_fieldAddr 1 rfl fld50_1 rfl) rfl (at_on rfl rfl (nt h1728) (at_lt (lt_load_box 0 rfl ti9 rfl rfl rfl rfl rfl) rfl ?_)))
  replace hr := obind hr
  obtain ⟨x1729, h1730, hr⟩ := hr
  refine at_on rfl rfl (nt h1728) (at_hv rfl (hv_call0 [1] (f87_spec h1730) rfl rfl rfl rfl ?_))
  rintro _ _ ⟨rfl, rfl⟩
  refine at_on rfl rfl (nt h1728) (at_lt (lt_not rfl) rfl (at_lt (lt_pick false rfl (nt h1728) rfl) rfl (s_mv rfl ?_)))
  by_cases h1731 : x1729 = true
  ·replace hr := ipos h1731 hr
   refine at_on rfl rfl (nt h1731) (at_lt (lt_fieldAddr 2 rfl fld50_2 rfl) rfl (at_on rfl rfl (nt h1731) (at_lt (lt_load_box 0 rfl ti48 rfl rfl rfl rfl rfl) rfl ?_)))
   refine at_inv 2 rfl (fun i1732 => ?_)
   have l1733 := slice_len i1732
   refine at_on rfl rfl (nt h1731) (at_lt (lt_flen 2 rfl rfl und48) rfl (at_on rfl rfl (nt h1731) (at_lt (lt_lss rfl rfl) rfl (at_lt (lt_pick false rfl (nt h1731) rfl) rfl (s_mv rfl ?_)))))
   by_cases h1734 : a0.Codes.length < 1
   ·replace hr := ipos h1734 hr
    refine at_off rfl rfl (decide_eq_true (by omega)) rfl ?_
    refine at_off rfl rfl (decide_eq_true (by omega)) rfl ?_
    refine at_off rfl rfl (decide_eq_true (by omega)) rfl ?_
    refine at_off rfl rfl (decide_eq_true (by omega)) rfl ?_
    refine at_lt (lt_pick true rfl (decide_eq_true (by omega)) rfl) rfl ?_
    refine s_nt (at_true rfl rfl (s_sr (s_as rfl (s_nt (at_ret ?_)))))
    have hq := oinj hr
    clear hr
    subst hq
    refine at_then_ret ?_
    exact at_return (.bool false) [] hS Tryz.results55 (.cons (.tmp rfl) .nil) rfl rfl ⟨rfl, rfl⟩
   replace hr := ineg h1734 hr
   refine at_on rfl rfl (decide_eq_false (by omega)) ?_
   refine at_lt (lt_fieldAddr 2 rfl fld50_2 rfl) rfl ?_
   refine at_on rfl rfl (decide_eq_false (by omega)) ?_
   refine at_lt (lt_load_box 0 rfl ti48 rfl rfl rfl rfl rfl) rfl ?_
   refine at_on rfl rfl (decide_eq_false (by omega)) ?_
   refine at_lt (lt_flen 2 rfl rfl und48) rfl ?_
   refine at_on rfl rfl (decide_eq_false (by omega)) ?_
   refine at_lt (lt_gtr rfl rfl) rfl ?_
   refine at_lt (lt_pick false rfl (decide_eq_false (by omega)) rfl) rfl ?_
   refine s_nt ?_
   by_cases h1735 : 36 < a0.Codes.length
   ·replace hr := ipos h1735 hr
    refine at_true rfl (decide_eq_true (by omega)) ?_
    refine s_sr (s_as rfl (s_nt (at_ret ?_)))
    have hq := oinj hr
    clear hr
    subst hq
    refine at_then_ret ?_
    exact at_return (.bool false) [] hS Tryz.results55 (.cons (.tmp rfl) .nil) rfl rfl ⟨rfl, rfl⟩
   replace hr := ineg h1735 hr
   refine at_false rfl (decide_eq_false (by omega)) ?_
   refine at_skip (at_then (at_seq (s_sr (s_as rfl (s_nt (at_int .i64 0 (by simp only [lo, hi]; omega) ?_))))))
   replace hr := obind hr
   obtain ⟨r1737, hl1738, hk1739⟩ := hr
   refine at_cutP (V := (Unit) × (Unit)) (fun v => r1737 = Fl.go v.1) (fun v => (⟨[], [], [], []⟩ : St)) ?_ ?_
   ·refine at_block ?_
    refine at_loopW (σ := Nat) (V := Unit) (r := r1737) (fun n s => m55_l1 a0 n s) (fun s e => (⟨[(1, .pointer (some (Addr.add ⟨b1725, 0, none⟩ 0))), (3, .int .i64 (s : Int))], [⟨b1725, [str a0.From, str a0.To, s1724], 50⟩], [], [((Ty.int .i64).fact (s : Int) [.int .i64 (s : Int)]), (Ty.str.fact a0.From [str a0.From]), (Ty.str.fact a0.To [str a0.To]), ((Ty.slice ty83).fact a0.Codes [s1724])]⟩ : St)) (fun _ => rfl) _ 0 () hl1738 ⟨⟨rfl, ⟨rfl, trivial⟩⟩, ⟨[true], rfl⟩, ⟨[], rfl⟩, ⟨[0, 1, 2, 3], rfl⟩⟩ ?_
    clear hl1738
    intro n x1736 hr e
    skip
    skip
    change m55_l1 a0 (n + 1) x1736 = some r1737 at hr
    change At _ _ (⟨[(1, .pointer (some (Addr.add ⟨b1725, 0, none⟩ 0))), (3, .int .i64 (x1736 : Int))], [⟨b1725, [str a0.From, str a0.To, s1724], 50⟩], [], [((Ty.int .i64).fact (x1736 : Int) [.int .i64 (x1736 : Int)]), (Ty.str.fact a0.From [str a0.From]), (Ty.str.fact a0.To [str a0.To]), ((Ty.slice ty83).fact a0.Codes [s1724])]⟩ : St) _
    rw [m55_l1] at hr
    refine at_seq (s_sr (s_mv rfl (at_lt (lt_fieldAddr 2 rfl fld50_2 rfl) rfl (at_lt (lt_load_box 0 rfl ti48 rfl rfl rfl rfl rfl) rfl (at_lt (lt_flen 3 rfl rfl und48) rfl (at_lt (lt_lss rfl rfl) rfl (s_nt ?_)))))))
    by_cases h1740 : x1736 < a0.Codes.length
    ·replace hr := ipos h1740 hr
     refine at_true rfl (decide_eq_true (by omega)) ?_
     refine at_skip (at_then (at_seq (at_block (s_sr (at_lt (lt_fieldAddr 2 rfl fld50_2 rfl) rfl (at_lt (lt_load_box 0 rfl ti48 rfl rfl rfl rfl rfl) rfl (s_mv rfl ?_)))))))
     replace hr := obind hr
     obtain ⟨x1741, h1742, hr⟩ := hr
     have := (List.getElem?_eq_some_iff.1 h1742).1
     refine at_elem 3 rfl (nat_at' h1742) (fun p1743 ec pa1744 => ?_)
     refine at_open (A := Unit) 0 rfl _ _ (fun F w h => op83 h) ?_
     rintro _ rfl
     refine at_lt (lt_idx rfl rfl pa1744 und48 ti83) rfl (at_lt (lt_load_peek 1 rfl ti83 rfl rfl rfl rfl rfl) rfl (at_hv rfl ?_))
     refine hv_alloc (cs := [.int .u8 0, .int .u8 0]) ti83 rfl rfl (fun b1745 => ?_)
     refine at_hv rfl (hv_store_box 0 (cs' := [.int .u8 (x1741.From.toNat : Int), .int .u8 (x1741.To.toNat : Int)]) rfl rfl ti83 rfl rfl rfl rfl rfl (s_nt (at_seq ?_)))
     replace hr := obind hr
     obtain ⟨x1746, h1747, hr⟩ := hr
     by_cases h1748 : x1746 = true
     ·replace hr := ipos h1748 hr
      replace hr := obind hr
      obtain ⟨x1749, h1750, hr⟩ := hr
      by_cases h1751 : x1749 = true
      ·replace hr := ipos h1751 hr
       by_cases h1752 : 0 < x1736
       ·replace hr := ipos h1752 hr
        replace hr := obind hr
        obtain ⟨x1753, h1754, hr⟩ := hr
        have := at?_lt h1754
        refine at_elem 5 rfl h1754 (fun p1755 ec pa1756 => ?_)
        refine at_open (A := Unit) 0 rfl _ _ (fun F w h => op83 h) ?_
        rintro _ rfl
        refine aa_start 26 (by kernel_rfl) ?_
        refine aa_p 0 rfl (lt_fieldAddr 0 rfl fld83_0 rfl) (aa_l 1 rfl (lt_load_box 0 rfl ti5 rfl rfl rfl rfl rfl) (aa_one 2 (aa_op rfl rfl (hv_call0 [] (f88_spec h1747) rfl rfl rfl rfl ?_))))
        rintro _ _ ⟨rfl, rfl⟩
        refine aa_p 3 rfl (lt_not rfl) (aa_p 4 rfl (lt_move rfl) ?_)
        refine aa_pg 5 rfl ⟨43, rfl, .inl ⟨_, rfl, gdq (v := false) (nt h1748) rfl⟩⟩ (lt_fieldAddr 1 rfl fld83_1 rfl) ?_
        refine aa_lg 6 rfl ⟨43, rfl, .inl ⟨_, rfl, gdq (v := false) (nt h1748) rfl⟩⟩ (lt_load_box 0 rfl ti5 rfl rfl rfl rfl rfl) ?_
        refine aa_one 7 ?_
        refine aa_op rfl ⟨43, rfl, .inl ⟨_, rfl, gdq (v := false) (nt h1748) rfl⟩⟩ ?_
        refine hv_call0 [] (f88_spec h1750) rfl rfl rfl rfl ?_
        rintro _ _ ⟨rfl, rfl⟩
        refine aa_pg 8 rfl ⟨43, rfl, .inl ⟨_, rfl, gdq (v := false) (nt h1748) rfl⟩⟩ (lt_not rfl) ?_
        refine aa_p 9 rfl (lt_pick false rfl (nt h1748) rfl) (aa_p 10 rfl (lt_move rfl) ?_)
        refine aa_pg 11 rfl ⟨49, rfl, .inl ⟨_, rfl, gdq (v := false) (nt h1751) rfl⟩⟩ (lt_move rfl) ?_
        refine aa_pg 12 rfl ⟨49, rfl, .inl ⟨_, rfl, gdq (v := false) (nt h1751) rfl⟩⟩ (lt_gtr rfl rfl) ?_
        refine aa_pg 13 rfl ⟨49, rfl, .inl ⟨_, rfl, gdq (v := false) (nt h1751) rfl⟩⟩ (lt_move rfl) ?_
        refine aa_pg 14 rfl ⟨52, rfl, .inl ⟨_, rfl, gdq (v := true) (decide_eq_true (by omega)) rfl⟩⟩ (lt_fieldAddr 0 rfl fld83_0 rfl) ?_
        refine aa_lg 15 rfl ⟨52, rfl, .inl ⟨_, rfl, gdq (v := true) (decide_eq_true (by omega)) rfl⟩⟩ (lt_load_box 0 rfl ti5 rfl rfl rfl rfl rfl) ?_
        refine aa_pg 16 rfl ⟨52, rfl, .inl ⟨_, rfl, gdq (v := true) (decide_eq_true (by omega)) rfl⟩⟩ (lt_fieldAddr 2 rfl fld50_2 rfl) ?_
        refine aa_lg 17 rfl ⟨52, rfl, .inl ⟨_, rfl, gdq (v := true) (decide_eq_true (by omega)) rfl⟩⟩ (lt_load_box 1 rfl ti48 rfl rfl rfl rfl rfl) ?_
        refine aa_pg 18 rfl ⟨52, rfl, .inl ⟨_, rfl, gdq (v := true) (decide_eq_true (by omega)) rfl⟩⟩ (lt_move rfl) ?_
        refine aa_pg 19 rfl ⟨52, rfl, .inl ⟨_, rfl, gdq (v := true) (decide_eq_true (by omega)) rfl⟩⟩ (lt_sub rfl rfl (by simp only [lo, hi]; omega)) ?_
        refine aa_pg 20 rfl ⟨52, rfl, .inl ⟨_, rfl, gdq (v := true) (decide_eq_true (by omega)) rfl⟩⟩ (lt_idx rfl rfl pa1756 und48 ti83) ?_
        refine aa_pg 21 rfl ⟨52, rfl, .inl ⟨_, rfl, gdq (v := true) (decide_eq_true (by omega)) rfl⟩⟩ (lt_fieldAddr 0 rfl fld83_0 rfl) ?_
        refine aa_lg 22 rfl ⟨52, rfl, .inl ⟨_, rfl, gdq (v := true) (decide_eq_true (by omega)) rfl⟩⟩ (lt_load_peek 1 rfl ti5 rfl rfl rfl rfl rfl) ?_
        refine aa_pg 23 rfl ⟨52, rfl, .inl ⟨_, rfl, gdq (v := true) (decide_eq_true (by omega)) rfl⟩⟩ (lt_leq rfl rfl) ?_
        refine aa_pg 24 rfl ⟨49, rfl, .inl ⟨_, rfl, gdq (v := false) (nt h1751) rfl⟩⟩ (lt_pick true rfl (decide_eq_true (by omega)) rfl) ?_
        refine aa_p 25 rfl (lt_pick false rfl (nt h1751) rfl) ?_
        refine aa_done (by kernel_rfl) (ts_in 0 0 rfl rfl) ?_
        refine at_then ?_
        by_cases h1757 : x1741.From.toNat ≤ x1753.From.toNat
        ·replace hr := ipos h1757 hr
         refine at_true rfl (decide_eq_true (by omega)) ?_
         refine s_sr (s_as rfl (s_nt (at_ret ?_)))
         have hq := oinj hr
         clear hr
         subst hq
         have hq := oinj hk1739
         clear hk1739
         subst hq
         refine at_in_ret (at_then_ret (at_then_ret (at_in_ret (at_then_ret (at_then_ret ?_)))))
         exact at_return (.bool false) [] hS Tryz.results55 (.cons (.tmp rfl) .nil) rfl rfl ⟨rfl, rfl⟩
        replace hr := ineg h1757 hr
        refine at_false rfl (decide_eq_false (by omega)) ?_
        refine at_skip (at_in (s_tr (s_mv rfl (at_lt (lt_add rfl rfl (by simp only [lo, hi]; omega)) rfl (s_as rfl (at_nil (at_int .i64 (x1736 + 1 : Int) (by simp only [lo, hi]; omega) ?_)))))))
        exact at_again (σ := Nat) (V := Unit) (lp := fun n s => m55_l1 a0 n s) (S := fun s e => (⟨[(1, .pointer (some (Addr.add ⟨b1725, 0, none⟩ 0))), (3, .int .i64 (s : Int))], [⟨b1725, [str a0.From, str a0.To, s1724], 50⟩], [], [((Ty.int .i64).fact (s : Int) [.int .i64 (s : Int)]), (Ty.str.fact a0.From [str a0.From]), (Ty.str.fact a0.To [str a0.To]), ((Ty.slice ty83).fact a0.Codes [s1724])]⟩ : St)) (x1736 + 1) () hr ⟨⟨rfl, ⟨rfl, trivial⟩⟩, ⟨[false, true], rfl⟩, ⟨[], rfl⟩, ⟨[0, 6, 7, 8], rfl⟩⟩
       replace hr := ineg h1752 hr
       refine aa_start 26 (by kernel_rfl) ?_
       refine aa_p 0 rfl (lt_fieldAddr 0 rfl fld83_0 rfl) (aa_l 1 rfl (lt_load_box 0 rfl ti5 rfl rfl rfl rfl rfl) (aa_one 2 (aa_op rfl rfl (hv_call0 [] (f88_spec h1747) rfl rfl rfl rfl ?_))))
       rintro _ _ ⟨rfl, rfl⟩
       refine aa_p 3 rfl (lt_not rfl) (aa_p 4 rfl (lt_move rfl) ?_)
       refine aa_pg 5 rfl ⟨43, rfl, .inl ⟨_, rfl, gdq (v := false) (nt h1748) rfl⟩⟩ (lt_fieldAddr 1 rfl fld83_1 rfl) ?_
       refine aa_lg 6 rfl ⟨43, rfl, .inl ⟨_, rfl, gdq (v := false) (nt h1748) rfl⟩⟩ (lt_load_box 0 rfl ti5 rfl rfl rfl rfl rfl) ?_
       refine aa_one 7 ?_
       refine aa_op rfl ⟨43, rfl, .inl ⟨_, rfl, gdq (v := false) (nt h1748) rfl⟩⟩ ?_
       refine hv_call0 [] (f88_spec h1750) rfl rfl rfl rfl ?_
       rintro _ _ ⟨rfl, rfl⟩
       refine aa_pg 8 rfl ⟨43, rfl, .inl ⟨_, rfl, gdq (v := false) (nt h1748) rfl⟩⟩ (lt_not rfl) ?_
       refine aa_p 9 rfl (lt_pick false rfl (nt h1748) rfl) (aa_p 10 rfl (lt_move rfl) ?_)
       refine aa_pg 11 rfl ⟨49, rfl, .inl ⟨_, rfl, gdq (v := false) (nt h1751) rfl⟩⟩ (lt_move rfl) ?_
       refine aa_pg 12 rfl ⟨49, rfl, .inl ⟨_, rfl, gdq (v := false) (nt h1751) rfl⟩⟩ (lt_gtr rfl rfl) ?_
       refine aa_pg 13 rfl ⟨49, rfl, .inl ⟨_, rfl, gdq (v := false) (nt h1751) rfl⟩⟩ (lt_move rfl) ?_
       refine aa_o 14 rfl ⟨52, rfl, .inl ⟨_, rfl, gdq (v := false) (decide_eq_false (by omega)) rfl⟩⟩ ?_
       refine aa_o 15 rfl ⟨52, rfl, .inl ⟨_, rfl, gdq (v := false) (decide_eq_false (by omega)) rfl⟩⟩ ?_
       refine aa_o 16 rfl ⟨52, rfl, .inl ⟨_, rfl, gdq (v := false) (decide_eq_false (by omega)) rfl⟩⟩ ?_
       refine aa_o 17 rfl ⟨52, rfl, .inl ⟨_, rfl, gdq (v := false) (decide_eq_false (by omega)) rfl⟩⟩ ?_
       refine aa_o 18 rfl ⟨52, rfl, .inl ⟨_, rfl, gdq (v := false) (decide_eq_false (by omega)) rfl⟩⟩ ?_
       refine aa_o 19 rfl ⟨52, rfl, .inl ⟨_, rfl, gdq (v := false) (decide_eq_false (by omega)) rfl⟩⟩ ?_
       refine aa_o 20 rfl ⟨52, rfl, .inl ⟨_, rfl, gdq (v := false) (decide_eq_false (by omega)) rfl⟩⟩ ?_
       refine aa_o 21 rfl ⟨52, rfl, .inl ⟨_, rfl, gdq (v := false) (decide_eq_false (by omega)) rfl⟩⟩ ?_
       refine aa_o 22 rfl ⟨52, rfl, .inl ⟨_, rfl, gdq (v := false) (decide_eq_false (by omega)) rfl⟩⟩ ?_
       refine aa_o 23 rfl ⟨52, rfl, .inl ⟨_, rfl, gdq (v := false) (decide_eq_false (by omega)) rfl⟩⟩ ?_
       refine aa_pg 24 rfl ⟨49, rfl, .inl ⟨_, rfl, gdq (v := false) (nt h1751) rfl⟩⟩ (lt_pick false rfl (decide_eq_false (by omega)) rfl) ?_
       refine aa_p 25 rfl (lt_pick false rfl (nt h1751) rfl) ?_
       refine aa_done (by kernel_rfl) (ts_in 0 0 rfl rfl) ?_
       refine at_then (at_false rfl rfl (at_skip (at_in (s_tr (s_mv rfl (at_lt (lt_add rfl rfl (by simp only [lo, hi]; omega)) rfl (s_as rfl (at_nil (at_int .i64 (x1736 + 1 : Int) (by simp only [lo, hi]; omega) ?_)))))))))
       exact at_again (σ := Nat) (V := Unit) (lp := fun n s => m55_l1 a0 n s) (S := fun s e => (⟨[(1, .pointer (some (Addr.add ⟨b1725, 0, none⟩ 0))), (3, .int .i64 (s : Int))], [⟨b1725, [str a0.From, str a0.To, s1724], 50⟩], [], [((Ty.int .i64).fact (s : Int) [.int .i64 (s : Int)]), (Ty.str.fact a0.From [str a0.From]), (Ty.str.fact a0.To [str a0.To]), ((Ty.slice ty83).fact a0.Codes [s1724])]⟩ : St)) (x1736 + 1) () hr ⟨⟨rfl, ⟨rfl, trivial⟩⟩, ⟨[false, true], rfl⟩, ⟨[], rfl⟩, ⟨[0, 4, 5, 6], rfl⟩⟩
      replace hr := ineg h1751 hr
      refine aa_start 26 (by kernel_rfl) ?_
      refine aa_p 0 rfl (lt_fieldAddr 0 rfl fld83_0 rfl) (aa_l 1 rfl (lt_load_box 0 rfl ti5 rfl rfl rfl rfl rfl) (aa_one 2 (aa_op rfl rfl (hv_call0 [] (f88_spec h1747) rfl rfl rfl rfl ?_))))
      rintro _ _ ⟨rfl, rfl⟩
      refine aa_p 3 rfl (lt_not rfl) (aa_p 4 rfl (lt_move rfl) ?_)
      refine aa_pg 5 rfl ⟨43, rfl, .inl ⟨_, rfl, gdq (v := false) (nt h1748) rfl⟩⟩ (lt_fieldAddr 1 rfl fld83_1 rfl) ?_
      refine aa_lg 6 rfl ⟨43, rfl, .inl ⟨_, rfl, gdq (v := false) (nt h1748) rfl⟩⟩ (lt_load_box 0 rfl ti5 rfl rfl rfl rfl rfl) ?_
      refine aa_one 7 ?_
      refine aa_op rfl ⟨43, rfl, .inl ⟨_, rfl, gdq (v := false) (nt h1748) rfl⟩⟩ ?_
      refine hv_call0 [] (f88_spec h1750) rfl rfl rfl rfl ?_
      rintro _ _ ⟨rfl, rfl⟩
      refine aa_pg 8 rfl ⟨43, rfl, .inl ⟨_, rfl, gdq (v := false) (nt h1748) rfl⟩⟩ (lt_not rfl) ?_
      refine aa_p 9 rfl (lt_pick false rfl (nt h1748) rfl) (aa_p 10 rfl (lt_move rfl) ?_)
      refine aa_o 11 rfl ⟨49, rfl, .inl ⟨_, rfl, gdq (v := true) (nf (bf h1751)) rfl⟩⟩ ?_
      refine aa_o 12 rfl ⟨49, rfl, .inl ⟨_, rfl, gdq (v := true) (nf (bf h1751)) rfl⟩⟩ ?_
      refine aa_o 13 rfl ⟨49, rfl, .inl ⟨_, rfl, gdq (v := true) (nf (bf h1751)) rfl⟩⟩ ?_
      refine aa_o 14 rfl ⟨52, rfl, .inr ⟨rfl, rfl⟩⟩ ?_
      refine aa_o 15 rfl ⟨52, rfl, .inr ⟨rfl, rfl⟩⟩ ?_
      refine aa_o 16 rfl ⟨52, rfl, .inr ⟨rfl, rfl⟩⟩ ?_
      refine aa_o 17 rfl ⟨52, rfl, .inr ⟨rfl, rfl⟩⟩ ?_
      refine aa_o 18 rfl ⟨52, rfl, .inr ⟨rfl, rfl⟩⟩ ?_
      refine aa_o 19 rfl ⟨52, rfl, .inr ⟨rfl, rfl⟩⟩ ?_
      refine aa_o 20 rfl ⟨52, rfl, .inr ⟨rfl, rfl⟩⟩ ?_
      refine aa_o 21 rfl ⟨52, rfl, .inr ⟨rfl, rfl⟩⟩ ?_
      refine aa_o 22 rfl ⟨52, rfl, .inr ⟨rfl, rfl⟩⟩ ?_
      refine aa_o 23 rfl ⟨52, rfl, .inr ⟨rfl, rfl⟩⟩ ?_
      refine aa_o 24 rfl ⟨49, rfl, .inl ⟨_, rfl, gdq (v := true) (nf (bf h1751)) rfl⟩⟩ ?_
      refine aa_p 25 rfl (lt_pick true rfl (nf (bf h1751)) rfl) ?_
      refine aa_done (by kernel_rfl) (ts_in 0 0 rfl rfl) ?_
      refine at_then (at_true rfl rfl (s_sr (s_as rfl (s_nt (at_ret ?_)))))
      have hq := oinj hr
      clear hr
      subst hq
      have hq := oinj hk1739
      clear hk1739
      subst hq
      refine at_in_ret (at_then_ret (at_then_ret (at_in_ret (at_then_ret (at_then_ret ?_)))))
      exact at_return (.bool false) [] hS Tryz.results55 (.cons (.tmp rfl) .nil) rfl rfl ⟨rfl, rfl⟩
     replace hr := ineg h1748 hr
     refine aa_start 26 (by kernel_rfl) ?_
     refine aa_p 0 rfl (lt_fieldAddr 0 rfl fld83_0 rfl) (aa_l 1 rfl (lt_load_box 0 rfl ti5 rfl rfl rfl rfl rfl) (aa_one 2 (aa_op rfl rfl (hv_call0 [] (f88_spec h1747) rfl rfl rfl rfl ?_))))
     rintro _ _ ⟨rfl, rfl⟩
     refine aa_p 3 rfl (lt_not rfl) (aa_p 4 rfl (lt_move rfl) ?_)
     refine aa_o 5 rfl ⟨43, rfl, .inl ⟨_, rfl, gdq (v := true) (nf (bf h1748)) rfl⟩⟩ ?_
     refine aa_o 6 rfl ⟨43, rfl, .inl ⟨_, rfl, gdq (v := true) (nf (bf h1748)) rfl⟩⟩ ?_
     refine aa_o 7 rfl ⟨43, rfl, .inl ⟨_, rfl, gdq (v := true) (nf (bf h1748)) rfl⟩⟩ ?_
     refine aa_o 8 rfl ⟨43, rfl, .inl ⟨_, rfl, gdq (v := true) (nf (bf h1748)) rfl⟩⟩ ?_
     refine aa_p 9 rfl (lt_pick true rfl (nf (bf h1748)) rfl) (aa_p 10 rfl (lt_move rfl) ?_)
     refine aa_o 11 rfl ⟨49, rfl, .inl ⟨_, rfl, gdq (v := true) rfl rfl⟩⟩ ?_
     refine aa_o 12 rfl ⟨49, rfl, .inl ⟨_, rfl, gdq (v := true) rfl rfl⟩⟩ ?_
     refine aa_o 13 rfl ⟨49, rfl, .inl ⟨_, rfl, gdq (v := true) rfl rfl⟩⟩ ?_
     refine aa_o 14 rfl ⟨52, rfl, .inr ⟨rfl, rfl⟩⟩ ?_
     refine aa_o 15 rfl ⟨52, rfl, .inr ⟨rfl, rfl⟩⟩ ?_
     refine aa_o 16 rfl ⟨52, rfl, .inr ⟨rfl, rfl⟩⟩ ?_
     refine aa_o 17 rfl ⟨52, rfl, .inr ⟨rfl, rfl⟩⟩ ?_
     refine aa_o 18 rfl ⟨52, rfl, .inr ⟨rfl, rfl⟩⟩ ?_
     refine aa_o 19 rfl ⟨52, rfl, .inr ⟨rfl, rfl⟩⟩ ?_
     refine aa_o 20 rfl ⟨52, rfl, .inr ⟨rfl, rfl⟩⟩ ?_
     refine aa_o 21 rfl ⟨52, rfl, .inr ⟨rfl, rfl⟩⟩ ?_
     refine aa_o 22 rfl ⟨52, rfl, .inr ⟨rfl, rfl⟩⟩ ?_
     refine aa_o 23 rfl ⟨52, rfl, .inr ⟨rfl, rfl⟩⟩ ?_
     refine aa_o 24 rfl ⟨49, rfl, .inl ⟨_, rfl, gdq (v := true) rfl rfl⟩⟩ ?_
     refine aa_p 25 rfl (lt_pick true rfl rfl rfl) ?_
     refine aa_done (by kernel_rfl) (ts_in 0 0 rfl rfl) ?_
     refine at_then (at_true rfl rfl (s_sr (s_as rfl (s_nt (at_ret ?_)))))
     have hq := oinj hr
     clear hr
     subst hq
     have hq := oinj hk1739
     clear hk1739
     subst hq
     refine at_in_ret (at_then_ret (at_then_ret (at_in_ret (at_then_ret (at_then_ret ?_)))))
     exact at_return (.bool false) [] hS Tryz.results55 (.cons (.tmp rfl) .nil) rfl rfl ⟨rfl, rfl⟩
    replace hr := ineg h1740 hr
    refine at_false rfl (decide_eq_false (by omega)) ?_
    refine at_exit (at_then_exit (at_then_exit (at_in_exit ?_)))
    have hq := oinj hr
    clear hr
    subst hq
    exact at_leafP ((), ()) rfl ⟨trivial, ⟨[false], rfl⟩, ⟨[], rfl⟩, ⟨[], rfl⟩⟩
   rintro ⟨_, _⟩ hp
   replace hr := hk1739
   subst hp
   clear hl1738
   change At _ _ (⟨[], [], [], []⟩ : St) _
   refine s_tsr (s_as rfl (s_nt (at_ret ?_)))
   have hq := oinj hr
   clear hr
   subst hq
   exact at_return (.bool true) [] hS Tryz.results55 (.cons (.tmp rfl) .nil) rfl rfl ⟨rfl, rfl⟩
  replace hr := ineg h1731 hr
  refine at_off rfl rfl (nf (bf h1731)) rfl (at_off rfl rfl (nf (bf h1731)) rfl (at_off rfl rfl (nf (bf h1731)) rfl (at_off rfl rfl (nf (bf h1731)) rfl (at_lt (lt_pick true rfl (nf (bf h1731)) rfl) rfl (s_mv rfl (at_off rfl rfl rfl rfl (at_off rfl rfl rfl rfl (at_off rfl rfl rfl rfl (at_off rfl rfl rfl rfl ?_)))))))))
  refine at_lt (lt_pick true rfl rfl rfl) rfl (s_nt (at_true rfl rfl (s_sr (s_as rfl (s_nt (at_ret ?_))))))
  have hq := oinj hr
  clear hr
  subst hq
  refine at_then_ret ?_
  exact at_return (.bool false) [] hS Tryz.results55 (.cons (.tmp rfl) .nil) rfl rfl ⟨rfl, rfl⟩
 replace hr := ineg h1728 hr
 refine at_off rfl rfl (nf (bf h1728)) rfl (at_off rfl rfl (nf (bf h1728)) rfl (at_off rfl rfl (nf (bf h1728)) rfl (at_off rfl rfl (nf (bf h1728)) rfl (at_lt (lt_pick true rfl (nf (bf h1728)) rfl) rfl (s_mv rfl (at_off rfl rfl rfl rfl (at_off rfl rfl rfl rfl (at_off rfl rfl rfl rfl (at_off rfl rfl rfl rfl ?_)))))))))
 refine at_lt (lt_pick true rfl rfl rfl) rfl (s_mv rfl (at_off rfl rfl rfl rfl (at_off rfl rfl rfl rfl (at_off rfl rfl rfl rfl (at_off rfl rfl rfl rfl (at_lt (lt_pick true rfl rfl rfl) rfl (s_nt (at_true rfl rfl (s_sr ?_)))))))))
 refine s_as rfl (s_nt (at_ret ?_))
 have hq := oinj hr
 clear hr
 subst hq
 refine at_then_ret ?_
 exact at_return (.bool false) [] hS Tryz.results55 (.cons (.tmp rfl) .nil) rfl rfl ⟨rfl, rfl⟩
def m24_l1 (a0 : (List D_ref16_Entry)) : Nat → Nat → Option (Fl Bool Unit)
  | 0, _ => none
  | k + 1, x1759 =>
    if x1759 < a0.length then
     (a0[x1759]?).bind fun x1766 =>
     (m55 x1766).bind fun x1771 =>
     if x1771 = true then
      if 0 < x1759 then
       (a0[x1759]?).bind fun x1775 =>
       (at? a0 ((x1759 : Int) - 1)).bind fun x1780 =>
       if (Op.bytesLess x1780.From x1775.From) = true then
        m24_l1 a0 k (x1759 + 1)
       else
        some (Fl.ret false)
      else
       m24_l1 a0 k (x1759 + 1)
     else
      some (Fl.ret false)
    else
     some (Fl.go ())
def m24 (a0 : (List D_ref16_Entry)) : Option Bool :=
  (m24_l1 a0 (a0.length + 1) 0).bind fun r => match r with
  | .ret x => some x
  | .go _ =>
   some (decide ((a0.length : Int) ≤ 60))
def post24 (r : Bool) (v : Value) (fs : List Fact) : Prop := v = .bool r ∧ fs = []
theorem en24 : Enters Tryz.prog 24 := ⟨_, Tryz.func24, by kernel_rfl, rfl⟩
theorem f24_spec {a0 : (List D_ref16_Entry)} {w1758 : Value} {r : Bool} (hr : m24 a0 = some r) : Spec Tryz.prog 24 [w1758] [((Ty.slice ty50).fact a0 [w1758])] (post24 r) := by
 refine spec_start (N := 37) Tryz.func24 (by kernel_rfl) rfl rfl rfl ?_
 intro g hS
 unfold m24 at hr
 refine s_sr (s_as rfl (s_nt (at_seq (s_sr (s_as rfl (s_nt (at_int .i64 0 (by simp only [lo, hi]; omega) ?_)))))))
 replace hr := obind hr
 obtain ⟨r1760, hl1761, hk1762⟩ := hr
 refine at_cutP (V := (Unit) × (Unit)) (fun v => r1760 = Fl.go v.1) (fun v => (⟨[(0, w1758)], [], [], [((Ty.slice ty50).fact a0 [w1758])]⟩ : St)) ?_ ?_
 ·refine at_block ?_
  refine at_loopW (σ := Nat) (V := Unit) (r := r1760) (fun n s => m24_l1 a0 n s) (fun s e => (⟨[(0, w1758), (3, .int .i64 (s : Int))], [], [], [((Ty.int .i64).fact (s : Int) [.int .i64 (s : Int)]), ((Ty.slice ty50).fact a0 [w1758])]⟩ : St)) (fun _ => rfl) _ 0 () hl1761 ⟨⟨rfl, ⟨rfl, trivial⟩⟩, ⟨[], rfl⟩, ⟨[], rfl⟩, ⟨[0, 1], rfl⟩⟩ ?_
  clear hl1761
  intro n x1759 hr e
  skip
  skip
  change m24_l1 a0 (n + 1) x1759 = some r1760 at hr
  change At _ _ (⟨[(0, w1758), (3, .int .i64 (x1759 : Int))], [], [], [((Ty.int .i64).fact (x1759 : Int) [.int .i64 (x1759 : Int)]), ((Ty.slice ty50).fact a0 [w1758])]⟩ : St) _
  rw [m24_l1] at hr
  refine at_seq (s_sr (s_mv rfl (s_mv rfl ?_)))
  refine at_inv 1 rfl (fun i1763 => ?_)
  have l1764 := slice_len i1763
  refine at_lt (lt_flen 1 rfl rfl und22) rfl (at_lt (lt_lss rfl rfl) rfl (s_nt ?_))
  by_cases h1765 : x1759 < a0.length
  ·replace hr := ipos h1765 hr
   refine at_true rfl (decide_eq_true (by omega)) ?_
   refine at_skip (at_then (at_seq (at_block (at_seq ?_))))
   replace hr := obind hr
   obtain ⟨x1766, h1767, hr⟩ := hr
   have := (List.getElem?_eq_some_iff.1 h1767).1
   refine at_elem 1 rfl (nat_at' h1767) (fun p1769 ec pa1770 => ?_)
   refine at_open (A := Value) 0 rfl _ _ (fun F w h => op50 h) ?_
   rintro s1768 rfl
   replace hr := obind hr
   obtain ⟨x1771, h1772, hr⟩ := hr
   by_cases h1773 : x1771 = true
   ·replace hr := ipos h1773 hr
    by_cases h1774 : 0 < x1759
    ·replace hr := ipos h1774 hr
     replace hr := obind hr
     obtain ⟨x1775, h1776, hr⟩ := hr
     have := (List.getElem?_eq_some_iff.1 h1776).1
     refine at_elem 6 rfl (nat_at' h1776) (fun p1778 ec pa1779 => ?_)
     refine at_open (A := Value) 0 rfl _ _ (fun F w h => op50 h) ?_
     rintro s1777 rfl
     replace hr := obind hr
     obtain ⟨x1780, h1781, hr⟩ := hr
     have := at?_lt h1781
     refine at_elem 11 rfl h1781 (fun p1783 ec pa1784 => ?_)
     refine at_open (A := Value) 0 rfl _ _ (fun F w h => op50 h) ?_
     rintro s1782 rfl
     refine aa_start 24 (by kernel_rfl) ?_
     refine aa_p 0 rfl (lt_move rfl) (aa_p 1 rfl (lt_move rfl) (aa_p 2 rfl (lt_idx rfl rfl pa1770 und22 ti50) (aa_l 3 rfl (lt_load_peek 14 rfl ti50 rfl rfl rfl rfl rfl) (aa_one 4 (aa_op rfl rfl (hv_call0 [13] (f55_spec h1772) rfl rfl rfl rfl ?_))))))
     rintro _ _ ⟨rfl, rfl⟩
     refine aa_p 5 rfl (lt_not rfl) (aa_p 6 rfl (lt_move rfl) ?_)
     refine aa_pg 7 rfl ⟨16, rfl, .inl ⟨_, rfl, gdq (v := false) (nt h1773) rfl⟩⟩ (lt_move rfl) ?_
     refine aa_pg 8 rfl ⟨16, rfl, .inl ⟨_, rfl, gdq (v := false) (nt h1773) rfl⟩⟩ (lt_gtr rfl rfl) ?_
     refine aa_pg 9 rfl ⟨16, rfl, .inl ⟨_, rfl, gdq (v := false) (nt h1773) rfl⟩⟩ (lt_move rfl) ?_
     refine aa_pg 10 rfl ⟨19, rfl, .inl ⟨_, rfl, gdq (v := true) (decide_eq_true (by omega)) rfl⟩⟩ (lt_move rfl) ?_
     refine aa_pg 11 rfl ⟨19, rfl, .inl ⟨_, rfl, gdq (v := true) (decide_eq_true (by omega)) rfl⟩⟩ (lt_move rfl) ?_
     refine aa_pg 12 rfl ⟨19, rfl, .inl ⟨_, rfl, gdq (v := true) (decide_eq_true (by omega)) rfl⟩⟩ (lt_idx rfl rfl pa1779 und22 ti50) ?_
     refine aa_pg 13 rfl ⟨19, rfl, .inl ⟨_, rfl, gdq (v := true) (decide_eq_true (by omega)) rfl⟩⟩ (lt_fieldAddr 0 rfl fld50_0 rfl) ?_
     refine aa_lg 14 rfl ⟨19, rfl, .inl ⟨_, rfl, gdq (v := true) (decide_eq_true (by omega)) rfl⟩⟩ (lt_load_peek 9 rfl ti9 rfl rfl rfl rfl rfl) ?_
     refine aa_pg 15 rfl ⟨19, rfl, .inl ⟨_, rfl, gdq (v := true) (decide_eq_true (by omega)) rfl⟩⟩ (lt_move rfl) ?_
     refine aa_pg 16 rfl ⟨19, rfl, .inl ⟨_, rfl, gdq (v := true) (decide_eq_true (by omega)) rfl⟩⟩ (lt_move rfl) ?_
     refine aa_pg 17 rfl ⟨19, rfl, .inl ⟨_, rfl, gdq (v := true) (decide_eq_true (by omega)) rfl⟩⟩ (lt_sub rfl rfl (by simp only [lo, hi]; omega)) ?_
     refine aa_pg 18 rfl ⟨19, rfl, .inl ⟨_, rfl, gdq (v := true) (decide_eq_true (by omega)) rfl⟩⟩ (lt_idx rfl rfl pa1784 und22 ti50) ?_
     refine aa_pg 19 rfl ⟨19, rfl, .inl ⟨_, rfl, gdq (v := true) (decide_eq_true (by omega)) rfl⟩⟩ (lt_fieldAddr 0 rfl fld50_0 rfl) ?_
     refine aa_lg 20 rfl ⟨19, rfl, .inl ⟨_, rfl, gdq (v := true) (decide_eq_true (by omega)) rfl⟩⟩ (lt_load_peek 4 rfl ti9 rfl rfl rfl rfl rfl) ?_
     refine aa_pg 21 rfl ⟨19, rfl, .inl ⟨_, rfl, gdq (v := true) (decide_eq_true (by omega)) rfl⟩⟩ (lt_sleq rfl rfl) ?_
     refine aa_pg 22 rfl ⟨16, rfl, .inl ⟨_, rfl, gdq (v := false) (nt h1773) rfl⟩⟩ (lt_pick true rfl (decide_eq_true (by omega)) rfl) ?_
     refine aa_p 23 rfl (lt_pick false rfl (nt h1773) rfl) ?_
     refine aa_done (by kernel_rfl) (ts_in 0 0 rfl rfl) ?_
     refine at_then ?_
     by_cases h1785 : (Op.bytesLess x1780.From x1775.From) = true
     ·replace hr := ipos h1785 hr
      refine at_false rfl (nt h1785) (at_skip (at_in (s_tr (s_mv rfl (at_lt (lt_add rfl rfl (by simp only [lo, hi]; omega)) rfl (s_as rfl (at_nil (at_int .i64 (x1759 + 1 : Int) (by simp only [lo, hi]; omega) ?_))))))))
      exact at_again (σ := Nat) (V := Unit) (lp := fun n s => m24_l1 a0 n s) (S := fun s e => (⟨[(0, w1758), (3, .int .i64 (s : Int))], [], [], [((Ty.int .i64).fact (s : Int) [.int .i64 (s : Int)]), ((Ty.slice ty50).fact a0 [w1758])]⟩ : St)) (x1759 + 1) () hr ⟨⟨rfl, ⟨rfl, trivial⟩⟩, ⟨[], rfl⟩, ⟨[], rfl⟩, ⟨[0, 17], rfl⟩⟩
     replace hr := ineg h1785 hr
     refine at_true rfl (nf (bf h1785)) (s_sr (s_as rfl (s_nt (at_ret ?_))))
     have hq := oinj hr
     clear hr
     subst hq
     have hq := oinj hk1762
     clear hk1762
     subst hq
     refine at_in_ret (at_then_ret (at_then_ret (at_in_ret (at_then_ret (at_then_ret ?_)))))
     exact at_return (.bool false) [] hS Tryz.results24 (.cons (.tmp rfl) .nil) rfl rfl ⟨rfl, rfl⟩
    replace hr := ineg h1774 hr
    refine aa_start 24 (by kernel_rfl) ?_
    refine aa_p 0 rfl (lt_move rfl) (aa_p 1 rfl (lt_move rfl) (aa_p 2 rfl (lt_idx rfl rfl pa1770 und22 ti50) (aa_l 3 rfl (lt_load_peek 4 rfl ti50 rfl rfl rfl rfl rfl) (aa_one 4 (aa_op rfl rfl (hv_call0 [3] (f55_spec h1772) rfl rfl rfl rfl ?_))))))
    rintro _ _ ⟨rfl, rfl⟩
    refine aa_p 5 rfl (lt_not rfl) (aa_p 6 rfl (lt_move rfl) ?_)
    refine aa_pg 7 rfl ⟨16, rfl, .inl ⟨_, rfl, gdq (v := false) (nt h1773) rfl⟩⟩ (lt_move rfl) ?_
    refine aa_pg 8 rfl ⟨16, rfl, .inl ⟨_, rfl, gdq (v := false) (nt h1773) rfl⟩⟩ (lt_gtr rfl rfl) ?_
    refine aa_pg 9 rfl ⟨16, rfl, .inl ⟨_, rfl, gdq (v := false) (nt h1773) rfl⟩⟩ (lt_move rfl) ?_
    refine aa_o 10 rfl ⟨19, rfl, .inl ⟨_, rfl, gdq (v := false) (decide_eq_false (by omega)) rfl⟩⟩ ?_
    refine aa_o 11 rfl ⟨19, rfl, .inl ⟨_, rfl, gdq (v := false) (decide_eq_false (by omega)) rfl⟩⟩ ?_
    refine aa_o 12 rfl ⟨19, rfl, .inl ⟨_, rfl, gdq (v := false) (decide_eq_false (by omega)) rfl⟩⟩ ?_
    refine aa_o 13 rfl ⟨19, rfl, .inl ⟨_, rfl, gdq (v := false) (decide_eq_false (by omega)) rfl⟩⟩ ?_
    refine aa_o 14 rfl ⟨19, rfl, .inl ⟨_, rfl, gdq (v := false) (decide_eq_false (by omega)) rfl⟩⟩ ?_
    refine aa_o 15 rfl ⟨19, rfl, .inl ⟨_, rfl, gdq (v := false) (decide_eq_false (by omega)) rfl⟩⟩ ?_
    refine aa_o 16 rfl ⟨19, rfl, .inl ⟨_, rfl, gdq (v := false) (decide_eq_false (by omega)) rfl⟩⟩ ?_
    refine aa_o 17 rfl ⟨19, rfl, .inl ⟨_, rfl, gdq (v := false) (decide_eq_false (by omega)) rfl⟩⟩ ?_
    refine aa_o 18 rfl ⟨19, rfl, .inl ⟨_, rfl, gdq (v := false) (decide_eq_false (by omega)) rfl⟩⟩ ?_
    refine aa_o 19 rfl ⟨19, rfl, .inl ⟨_, rfl, gdq (v := false) (decide_eq_false (by omega)) rfl⟩⟩ ?_
    refine aa_o 20 rfl ⟨19, rfl, .inl ⟨_, rfl, gdq (v := false) (decide_eq_false (by omega)) rfl⟩⟩ ?_
    refine aa_o 21 rfl ⟨19, rfl, .inl ⟨_, rfl, gdq (v := false) (decide_eq_false (by omega)) rfl⟩⟩ ?_
    refine aa_pg 22 rfl ⟨16, rfl, .inl ⟨_, rfl, gdq (v := false) (nt h1773) rfl⟩⟩ (lt_pick false rfl (decide_eq_false (by omega)) rfl) ?_
    refine aa_p 23 rfl (lt_pick false rfl (nt h1773) rfl) ?_
    refine aa_done (by kernel_rfl) (ts_in 0 0 rfl rfl) ?_
    refine at_then (at_false rfl rfl (at_skip (at_in (s_tr (s_mv rfl (at_lt (lt_add rfl rfl (by simp only [lo, hi]; omega)) rfl (s_as rfl (at_nil (at_int .i64 (x1759 + 1 : Int) (by simp only [lo, hi]; omega) ?_)))))))))
    exact at_again (σ := Nat) (V := Unit) (lp := fun n s => m24_l1 a0 n s) (S := fun s e => (⟨[(0, w1758), (3, .int .i64 (s : Int))], [], [], [((Ty.int .i64).fact (s : Int) [.int .i64 (s : Int)]), ((Ty.slice ty50).fact a0 [w1758])]⟩ : St)) (x1759 + 1) () hr ⟨⟨rfl, ⟨rfl, trivial⟩⟩, ⟨[], rfl⟩, ⟨[], rfl⟩, ⟨[0, 7], rfl⟩⟩
   replace hr := ineg h1773 hr
   refine aa_start 24 (by kernel_rfl) ?_
   refine aa_p 0 rfl (lt_move rfl) (aa_p 1 rfl (lt_move rfl) (aa_p 2 rfl (lt_idx rfl rfl pa1770 und22 ti50) (aa_l 3 rfl (lt_load_peek 4 rfl ti50 rfl rfl rfl rfl rfl) (aa_one 4 (aa_op rfl rfl (hv_call0 [3] (f55_spec h1772) rfl rfl rfl rfl ?_))))))
   rintro _ _ ⟨rfl, rfl⟩
   refine aa_p 5 rfl (lt_not rfl) (aa_p 6 rfl (lt_move rfl) ?_)
   refine aa_o 7 rfl ⟨16, rfl, .inl ⟨_, rfl, gdq (v := true) (nf (bf h1773)) rfl⟩⟩ ?_
   refine aa_o 8 rfl ⟨16, rfl, .inl ⟨_, rfl, gdq (v := true) (nf (bf h1773)) rfl⟩⟩ ?_
   refine aa_o 9 rfl ⟨16, rfl, .inl ⟨_, rfl, gdq (v := true) (nf (bf h1773)) rfl⟩⟩ ?_
   refine aa_o 10 rfl ⟨19, rfl, .inr ⟨rfl, rfl⟩⟩ ?_
   refine aa_o 11 rfl ⟨19, rfl, .inr ⟨rfl, rfl⟩⟩ ?_
   refine aa_o 12 rfl ⟨19, rfl, .inr ⟨rfl, rfl⟩⟩ ?_
   refine aa_o 13 rfl ⟨19, rfl, .inr ⟨rfl, rfl⟩⟩ ?_
   refine aa_o 14 rfl ⟨19, rfl, .inr ⟨rfl, rfl⟩⟩ ?_
   refine aa_o 15 rfl ⟨19, rfl, .inr ⟨rfl, rfl⟩⟩ ?_
   refine aa_o 16 rfl ⟨19, rfl, .inr ⟨rfl, rfl⟩⟩ ?_
   refine aa_o 17 rfl ⟨19, rfl, .inr ⟨rfl, rfl⟩⟩ ?_
   refine aa_o 18 rfl ⟨19, rfl, .inr ⟨rfl, rfl⟩⟩ ?_
   refine aa_o 19 rfl ⟨19, rfl, .inr ⟨rfl, rfl⟩⟩ ?_
   refine aa_o 20 rfl ⟨19, rfl, .inr ⟨rfl, rfl⟩⟩ ?_
   refine aa_o 21 rfl ⟨19, rfl, .inr ⟨rfl, rfl⟩⟩ ?_
   refine aa_o 22 rfl ⟨16, rfl, .inl ⟨_, rfl, gdq (v := true) (nf (bf h1773)) rfl⟩⟩ ?_
   refine aa_p 23 rfl (lt_pick true rfl (nf (bf h1773)) rfl) ?_
   refine aa_done (by kernel_rfl) (ts_in 0 0 rfl rfl) ?_
   refine at_then (at_true rfl rfl (s_sr (s_as rfl (s_nt (at_ret ?_)))))
   have hq := oinj hr
   clear hr
   subst hq
   have hq := oinj hk1762
   clear hk1762
   subst hq
   refine at_in_ret (at_then_ret (at_then_ret (at_in_ret (at_then_ret (at_then_ret ?_)))))
   exact at_return (.bool false) [] hS Tryz.results24 (.cons (.tmp rfl) .nil) rfl rfl ⟨rfl, rfl⟩
  replace hr := ineg h1765 hr
  refine at_false rfl (decide_eq_false (by omega)) ?_
  refine at_exit (at_then_exit (at_then_exit (at_in_exit ?_)))
  have hq := oinj hr
  clear hr
  subst hq
  exact at_leafP ((), ()) rfl ⟨⟨rfl, trivial⟩, ⟨[], rfl⟩, ⟨[], rfl⟩, ⟨[1], rfl⟩⟩
 rintro ⟨_, _⟩ hp
 replace hr := hk1762
 subst hp
 clear hl1761
 change At _ _ (⟨[(0, w1758)], [], [], [((Ty.slice ty50).fact a0 [w1758])]⟩ : St) _
 refine s_tsr (s_mv rfl ?_)
 refine at_inv 0 rfl (fun i1786 => ?_)
 have l1787 := slice_len i1786
 refine at_lt (lt_flen 0 rfl rfl und22) rfl (at_lt (lt_leq rfl rfl) rfl (s_as rfl (s_nt (at_ret ?_))))
 have hq := oinj hr
 clear hr
 subst hq
 exact at_return (.bool (decide ((a0.length : Int) ≤ 60))) [] hS Tryz.results24 (.cons (.tmp rfl) .nil) rfl rfl ⟨rfl, rfl⟩
def m26_l2 (x1810 : D_crosswalk_Entry) (x1817 : (D_crosswalk_Entry × Bool)) : Nat → Nat → (List D_crosswalk_Pair) → Option (List D_crosswalk_Pair)
  | 0, _, _ => none
  | k + 1, x1825, x1826 =>
    if x1825 < x1810.Codes.length then
     (x1810.Codes[x1825]?).bind fun x1837 =>
     (m44 (⟨x1817.1.From, x1817.1.To, x1817.1.Codes⟩ : D_crosswalk_Entry) x1837.To).bind fun x1842 =>
     Option.bind (α := (List D_crosswalk_Pair)) (
      if x1842.2 = true then
       if x1826.length + 1 ≤ 70368744177664 then
        some (x1826 ++ [(⟨x1837.From, x1842.1⟩ : D_crosswalk_Pair)])
       else none
      else
       some x1826
     ) fun x1844 =>
     m26_l2 x1810 x1817 k (x1825 + 1) x1844
    else
     some x1826
def m26_l1 (a0 : (List D_crosswalk_Entry)) (a1 : (List D_crosswalk_Entry)) : Nat → (List D_crosswalk_Entry) → Nat → Option (List D_crosswalk_Entry)
  | 0, _, _ => none
  | k + 1, x1798, x1799 =>
    if x1799 < a0.length then
     (a0[x1799]?).bind fun x1810 =>
     (m43 a1 x1810.To).bind fun x1817 =>
     (m26_l2 x1810 x1817 (x1810.Codes.length + 1) 0 ([] : (List D_crosswalk_Pair))).bind fun x1830 =>
     Option.bind (α := (List D_crosswalk_Entry)) (
      if 0 < x1830.length then
       if x1798.length + 1 ≤ 2513169434916 then
        some (x1798 ++ [(⟨x1810.From, x1817.1.To, x1830⟩ : D_crosswalk_Entry)])
       else none
      else
       some x1798
     ) fun x1857 =>
     m26_l1 a0 a1 k x1857 (x1799 + 1)
    else
     some x1798
def m26 (a0 : (List D_crosswalk_Entry)) (a1 : (List D_crosswalk_Entry)) : Option ((List D_crosswalk_Entry) × Int) :=
  (m27 a0).bind fun x1790 =>
  if x1790 = true then
   (m27 a1).bind fun x1793 =>
   if x1793 = true then
    (m26_l1 a0 a1 (a0.length + 1) ([] : (List D_crosswalk_Entry)) 0).bind fun x1803 =>
    some (x1803, 0)
   else
    some (([] : (List D_crosswalk_Entry)), 1)
  else
   some (([] : (List D_crosswalk_Entry)), 1)
def post26 (r : ((List D_crosswalk_Entry) × Int)) (v : Value) (fs : List Fact) : Prop := ∃ s1870 : Value, v = .tuple #[s1870, .int .i64 r.2] ∧ fs = [((Ty.slice ty76).fact r.1 [s1870]), ((Ty.int .i64).fact r.2 [.int .i64 r.2])]
theorem en26 : Enters Tryz.prog 26 := ⟨_, Tryz.func26, by kernel_rfl, rfl⟩
theorem f26_spec {a0 : (List D_crosswalk_Entry)} {a1 : (List D_crosswalk_Entry)} {w1788 : Value} {w1789 : Value} {r : ((List D_crosswalk_Entry) × Int)} (hr : m26 a0 a1 = some r) : Spec Tryz.prog 26 [w1788, w1789] [((Ty.slice ty76).fact a0 [w1788]), ((Ty.slice ty76).fact a1 [w1789])] (post26 r) := by
 refine spec_start (N := 77) Tryz.func26 (by kernel_rfl) rfl rfl rfl ?_
 intro g hS
 unfold m26 at hr
 refine s_sr (s_as rfl (s_as rfl (s_nt (at_seq (s_sr (s_mv rfl ?_))))))
 replace hr := obind hr
 obtain ⟨x1790, h1791, hr⟩ := hr
 refine at_hv rfl (hv_call0 [0] (f27_spec h1791) rfl rfl rfl rfl ?_)
 rintro _ _ ⟨rfl, rfl⟩
 refine at_lt (lt_not rfl) rfl (s_mv rfl ?_)
 by_cases h1792 : x1790 = true
 ·replace hr := ipos h1792 hr
  refine at_on rfl rfl (nt h1792) (s_mv rfl ?_)
  replace hr := obind hr
  obtain ⟨x1793, h1794, hr⟩ := hr
  refine at_on rfl rfl (nt h1792) (at_hv rfl (hv_call0 [1] (f27_spec h1794) rfl rfl rfl rfl ?_))
  rintro _ _ ⟨rfl, rfl⟩
  refine at_on rfl rfl (nt h1792) (at_lt (lt_not rfl) rfl (at_lt (lt_pick false rfl (nt h1792) rfl) rfl (s_nt ?_)))
  by_cases h1795 : x1793 = true
  ·replace hr := ipos h1795 hr
   refine at_false rfl (nt h1795) (at_skip (s_tsr (s_as rfl (s_nt (at_seq (s_sr (s_mv rfl ?_)))))))
   refine at_inv 0 rfl (fun i1796 => ?_)
   have l1797 := slice_len i1796
   refine at_lt (lt_flen 0 rfl rfl und34) rfl (s_mv rfl (s_nt (at_rownew none 76 3 (at_rownil ty76 ?_))))
   refine at_mkpure (q := (([] : (List D_crosswalk_Entry)).length * ty76.bytes ≤ 140737488355328)) (by simp only [List.nil_append, List.cons_append, List.length_cons, List.length_nil, ty76_bytes] <;> omega) ?_
   refine at_int .i64 0 (by simp only [lo, hi]; omega) ?_
   replace hr := obind hr
   obtain ⟨x1803, hl1807, hr⟩ := hr
   refine at_cut (V := Value × Nat × (List Value)) (fun e => (⟨[(6, e.1)], [], [⟨e.1, 76, 3, e.2.1, e.2.2⟩], [(ty76.row x1803 e.2.2), (pureF (x1803.length * ty76.bytes ≤ 140737488355328))]⟩ : St)) ?_ ?_
   ·refine at_block ?_
    refine at_loopW (σ := ((List D_crosswalk_Entry) × Nat)) (V := Value × Nat × (List Value)) (r := x1803) (fun n s => m26_l1 a0 a1 n s.1 s.2) (fun s e => (⟨[(1, w1789), (6, e.1), (24, w1788), (25, .int .i64 (a0.length : Int)), (26, .int .i64 (s.2 : Int))], [], [⟨e.1, 76, 3, e.2.1, e.2.2⟩], [(ty76.row s.1 e.2.2), (pureF (s.1.length * ty76.bytes ≤ 140737488355328)), ((Ty.int .i64).fact (s.2 : Int) [.int .i64 (s.2 : Int)]), ((Ty.slice ty76).fact a1 [w1789]), ((Ty.slice ty76).fact a0 [w1788])]⟩ : St)) (fun _ => rfl) _ (([] : (List D_crosswalk_Entry)), 0) ((.slice none 0 0), 0, []) hl1807 ⟨⟨rfl, ⟨rfl, ⟨rfl, ⟨rfl, ⟨rfl, trivial⟩⟩⟩⟩⟩, ⟨[], rfl⟩, ⟨[true], rfl⟩, ⟨[2, 1, 0, 4, 3], rfl⟩⟩ ?_
    clear hr hl1807
    intro n s hr e
    obtain ⟨x1798, x1799⟩ := s
    obtain ⟨v1800, n1801, i1802⟩ := e
    change m26_l1 a0 a1 (n + 1) x1798 x1799 = some x1803 at hr
    change At _ _ (⟨[(1, w1789), (6, v1800), (24, w1788), (25, .int .i64 (a0.length : Int)), (26, .int .i64 (x1799 : Int))], [], [⟨v1800, 76, 3, n1801, i1802⟩], [(ty76.row x1798 i1802), (pureF (x1798.length * ty76.bytes ≤ 140737488355328)), ((Ty.int .i64).fact (x1799 : Int) [.int .i64 (x1799 : Int)]), ((Ty.slice ty76).fact a1 [w1789]), ((Ty.slice ty76).fact a0 [w1788])]⟩ : St) _
    rw [m26_l1] at hr
    refine s_sr (at_lt (lt_lss rfl rfl) rfl (s_nt (at_seq ?_)))
    by_cases h1809 : x1799 < a0.length
    ·replace hr := ipos h1809 hr
     refine at_true rfl (decide_eq_true (by omega)) ?_
     refine at_skip (at_then (at_seq (at_block (s_sr ?_))))
     replace hr := obind hr
     obtain ⟨x1810, h1811, hr⟩ := hr
     have := (List.getElem?_eq_some_iff.1 h1811).1
     refine at_elem 4 rfl (nat_at' h1811) (fun p1813 ec pa1814 => ?_)
     refine at_open (A := Value) 0 rfl _ _ (fun F w h => op76 h) ?_
     rintro s1812 rfl
     refine at_lt (lt_idx rfl rfl pa1814 und34 ti76) rfl (at_lt (lt_load_peek 4 rfl ti76 rfl rfl rfl rfl rfl) rfl (at_hv rfl ?_))
     refine hv_alloc (cs := [str ([] : Str), str ([] : Str), (.slice none 0 0)]) ti76 rfl rfl (fun b1815 => ?_)
     refine at_one 2 rfl (fun ho1816 => ?_)
     refine at_hv rfl (hv_store_box 0 (cs' := [str x1810.From, str x1810.To, s1812]) rfl rfl ti76 rfl rfl rfl rfl (allc rfl (allc rfl (allc ho1816 rfl))) (s_ntsr (s_mv rfl (at_lt (lt_fieldAddr 1 rfl fld76_1 rfl) rfl (at_lt (lt_load_box 0 rfl ti9 rfl rfl rfl rfl rfl) rfl ?_)))))
     replace hr := obind hr
     obtain ⟨x1817, h1818, hr⟩ := hr
     refine at_hv rfl (hv_call0 [8, 1] (f43_spec h1818) rfl rfl rfl rfl ?_)
     rintro _ _ ⟨s1819, rfl, rfl⟩
     refine at_open (A := Unit) 0 rfl (fun _ => True) (fun _ => [(Ty.str.fact x1817.1.From [str x1817.1.From]), (Ty.str.fact x1817.1.To [str x1817.1.To]), ((Ty.slice ty82).fact x1817.1.Codes [s1819])]) (fun F w h => ⟨(), trivial, ex76 h⟩) (fun _ _ => ?_)
     refine s_mv rfl (at_lt (lt_extract rfl rfl) rfl (at_lt (lt_extract rfl rfl) rfl (at_hv rfl ?_)))
     refine hv_alloc (cs := [str ([] : Str), str ([] : Str), (.slice none 0 0)]) ti76 rfl rfl (fun b1820 => ?_)
     refine at_one 2 rfl (fun ho1821 => ?_)
     refine at_hv rfl (hv_store_box 0 (cs' := [str x1817.1.From, str x1817.1.To, s1819]) rfl rfl ti76 rfl rfl rfl rfl (allc rfl (allc rfl (allc ho1821 rfl))) (s_as rfl (s_ntsr (at_lt (lt_fieldAddr 0 rfl fld76_0 rfl) rfl (at_lt (lt_load_box 1 rfl ti9 rfl rfl rfl rfl rfl) rfl (at_lt (lt_fieldAddr 1 rfl fld76_1 rfl) rfl (at_lt (lt_load_box 0 rfl ti9 rfl rfl rfl rfl rfl) rfl (at_lt (lt_build (cs := [str x1810.From, str x1817.1.To, (.slice none 0 0)]) rfl ti76 pl76 rfl) rfl (at_hv rfl ?_)))))))))
     refine hv_alloc (cs := [str ([] : Str), str ([] : Str), (.slice none 0 0)]) ti76 rfl rfl (fun b1822 => ?_)
     refine at_hv rfl (hv_store_box 0 (cs' := [str x1810.From, str x1817.1.To, (.slice none 0 0)]) rfl rfl ti76 rfl rfl rfl rfl rfl (s_nt (at_seq (s_sr (at_lt (lt_fieldAddr 2 rfl fld76_2 rfl) rfl (at_lt (lt_load_box 2 rfl ti74 rfl rfl rfl rfl rfl) rfl ?_))))))
     refine at_inv 6 rfl (fun i1823 => ?_)
     have l1824 := slice_len i1823
     refine at_lt (lt_flen 6 rfl rfl und74) rfl (s_mv rfl (s_nt (at_int .i64 0 (by simp only [lo, hi]; omega) (at_rownew none 82 2 (at_rownil ty82 ?_)))))
     refine at_mkpure (q := (([] : (List D_crosswalk_Pair)).length * ty82.bytes ≤ 140737488355328)) (by simp only [List.nil_append, List.cons_append, List.length_cons, List.length_nil, ty82_bytes] <;> omega) ?_
     replace hr := obind hr
     obtain ⟨x1830, hl1834, hr⟩ := hr
     refine at_cut (V := Value × Nat × (List Value)) (fun e => (⟨[(1, w1789), (6, v1800), (11, .pointer (some (Addr.add ⟨b1822, 0, none⟩ 0))), (24, w1788), (25, .int .i64 (a0.length : Int)), (26, .int .i64 (x1799 : Int))], [⟨b1822, [str x1810.From, str x1817.1.To, e.1], 76⟩], [⟨e.1, 82, 2, e.2.1, e.2.2⟩, ⟨v1800, 76, 3, n1801, i1802⟩], [(ty82.row x1830 e.2.2), (pureF (x1830.length * ty82.bytes ≤ 140737488355328)), ((Ty.slice ty76).fact a1 [w1789]), (ty76.row x1798 i1802), (pureF (x1798.length * ty76.bytes ≤ 140737488355328)), ((Ty.slice ty76).fact a0 [w1788]), ((Ty.int .i64).fact (x1799 : Int) [.int .i64 (x1799 : Int)]), (Ty.str.fact x1810.From [str x1810.From]), (Ty.str.fact x1817.1.To [str x1817.1.To])]⟩ : St)) ?_ ?_
     ·refine at_block ?_
      refine at_loopW (σ := (Nat × (List D_crosswalk_Pair))) (V := Value × Nat × (List Value)) (r := x1830) (fun n s => m26_l2 x1810 x1817 n s.1 s.2) (fun s e => (⟨[(1, w1789), (6, v1800), (9, .pointer (some (Addr.add ⟨b1820, 0, none⟩ 0))), (11, .pointer (some (Addr.add ⟨b1822, 0, none⟩ 0))), (24, w1788), (25, .int .i64 (a0.length : Int)), (26, .int .i64 (x1799 : Int)), (43, s1812), (44, .int .i64 (x1810.Codes.length : Int)), (45, .int .i64 (s.1 : Int))], [⟨b1822, [str x1810.From, str x1817.1.To, e.1], 76⟩, ⟨b1820, [str x1817.1.From, str x1817.1.To, s1819], 76⟩], [⟨e.1, 82, 2, e.2.1, e.2.2⟩, ⟨v1800, 76, 3, n1801, i1802⟩], [((Ty.int .i64).fact (s.1 : Int) [.int .i64 (s.1 : Int)]), (ty82.row s.2 e.2.2), (pureF (s.2.length * ty82.bytes ≤ 140737488355328)), ((Ty.slice ty76).fact a1 [w1789]), (ty76.row x1798 i1802), (pureF (x1798.length * ty76.bytes ≤ 140737488355328)), ((Ty.slice ty76).fact a0 [w1788]), ((Ty.int .i64).fact (x1799 : Int) [.int .i64 (x1799 : Int)]), ((Ty.slice ty82).fact x1810.Codes [s1812]), (Ty.str.fact x1810.From [str x1810.From]), (Ty.str.fact x1817.1.To [str x1817.1.To]), (Ty.str.fact x1817.1.From [str x1817.1.From]), ((Ty.slice ty82).fact x1817.1.Codes [s1819])]⟩ : St)) (fun _ => rfl) _ (0, ([] : (List D_crosswalk_Pair))) ((.slice none 0 0), 0, []) hl1834 ⟨⟨rfl, ⟨rfl, ⟨rfl, ⟨rfl, ⟨rfl, ⟨rfl, ⟨rfl, ⟨rfl, ⟨rfl, ⟨rfl, trivial⟩⟩⟩⟩⟩⟩⟩⟩⟩⟩, ⟨[true, true, false], rfl⟩, ⟨[true, true], rfl⟩, ⟨[2, 1, 0, 15, 12, 13, 16, 14, 9, 7, 4, 3, 5], rfl⟩⟩ ?_
      clear hr hl1834
      intro n s hr e
      obtain ⟨x1825, x1826⟩ := s
      obtain ⟨v1827, n1828, i1829⟩ := e
      change m26_l2 x1810 x1817 (n + 1) x1825 x1826 = some x1830 at hr
      change At _ _ (⟨[(1, w1789), (6, v1800), (9, .pointer (some (Addr.add ⟨b1820, 0, none⟩ 0))), (11, .pointer (some (Addr.add ⟨b1822, 0, none⟩ 0))), (24, w1788), (25, .int .i64 (a0.length : Int)), (26, .int .i64 (x1799 : Int)), (43, s1812), (44, .int .i64 (x1810.Codes.length : Int)), (45, .int .i64 (x1825 : Int))], [⟨b1822, [str x1810.From, str x1817.1.To, v1827], 76⟩, ⟨b1820, [str x1817.1.From, str x1817.1.To, s1819], 76⟩], [⟨v1827, 82, 2, n1828, i1829⟩, ⟨v1800, 76, 3, n1801, i1802⟩], [((Ty.int .i64).fact (x1825 : Int) [.int .i64 (x1825 : Int)]), (ty82.row x1826 i1829), (pureF (x1826.length * ty82.bytes ≤ 140737488355328)), ((Ty.slice ty76).fact a1 [w1789]), (ty76.row x1798 i1802), (pureF (x1798.length * ty76.bytes ≤ 140737488355328)), ((Ty.slice ty76).fact a0 [w1788]), ((Ty.int .i64).fact (x1799 : Int) [.int .i64 (x1799 : Int)]), ((Ty.slice ty82).fact x1810.Codes [s1812]), (Ty.str.fact x1810.From [str x1810.From]), (Ty.str.fact x1817.1.To [str x1817.1.To]), (Ty.str.fact x1817.1.From [str x1817.1.From]), ((Ty.slice ty82).fact x1817.1.Codes [s1819])]⟩ : St) _
      rw [m26_l2] at hr
      refine s_sr (at_lt (lt_lss rfl rfl) rfl (s_nt (at_seq ?_)))
      by_cases h1836 : x1825 < x1810.Codes.length
      ·replace hr := ipos h1836 hr
       refine at_true rfl (decide_eq_true (by omega)) ?_
       refine at_skip (at_then (at_seq (at_block (s_sr ?_))))
       replace hr := obind hr
       obtain ⟨x1837, h1838, hr⟩ := hr
       have := (List.getElem?_eq_some_iff.1 h1838).1
       refine at_elem 8 rfl (nat_at' h1838) (fun p1839 ec pa1840 => ?_)
       refine at_open (A := Unit) 0 rfl _ _ (fun F w h => op82 h) ?_
       rintro _ rfl
       refine at_lt (lt_idx rfl rfl pa1840 und74 ti82) rfl (at_lt (lt_load_peek 1 rfl ti82 rfl rfl rfl rfl rfl) rfl (at_hv rfl ?_))
       refine hv_alloc (cs := [.int .u8 0, .int .u8 0]) ti82 rfl rfl (fun b1841 => ?_)
       refine at_hv rfl (hv_store_box 0 (cs' := [.int .u8 (x1837.From.toNat : Int), .int .u8 (x1837.To.toNat : Int)]) rfl rfl ti82 rfl rfl rfl rfl rfl (s_ntsr (at_lt (lt_load_box 2 rfl ti76 rfl rfl rfl rfl rfl) rfl (at_lt (lt_fieldAddr 1 rfl fld82_1 rfl) rfl (at_lt (lt_load_box 0 rfl ti5 rfl rfl rfl rfl rfl) rfl ?_)))))
       replace hr := obind hr
       obtain ⟨x1842, h1843, hr⟩ := hr
       refine at_derive [13, 12, 14] (ty76.fact (⟨x1817.1.From, x1817.1.To, x1817.1.Codes⟩ : D_crosswalk_Entry) [str x1817.1.From, str x1817.1.To, s1819]) rfl (fun F w h => mk76 (x := (⟨x1817.1.From, x1817.1.To, x1817.1.Codes⟩ : D_crosswalk_Entry)) h) ?_
       refine at_hv rfl (hv_call0 [0] (f44_spec h1843) rfl rfl rfl rfl ?_)
       rintro _ _ ⟨rfl, rfl⟩
       refine s_mv rfl (at_lt (lt_extract rfl rfl) rfl (at_lt (lt_extract rfl rfl) rfl (s_as rfl (s_as rfl (s_ntsr (s_mv rfl (s_nt ?_)))))))
       replace hr := obind hr
       obtain ⟨x1844, hc1848, hr⟩ := hr
       refine at_cut (V := Value × Nat × (List Value)) (fun e => (⟨[(1, w1789), (6, v1800), (9, .pointer (some (Addr.add ⟨b1820, 0, none⟩ 0))), (11, .pointer (some (Addr.add ⟨b1822, 0, none⟩ 0))), (24, w1788), (25, .int .i64 (a0.length : Int)), (26, .int .i64 (x1799 : Int)), (43, s1812), (44, .int .i64 (x1810.Codes.length : Int)), (45, .int .i64 (x1825 : Int))], [⟨b1822, [str x1810.From, str x1817.1.To, e.1], 76⟩, ⟨b1820, [str x1817.1.From, str x1817.1.To, s1819], 76⟩], [⟨e.1, 82, 2, e.2.1, e.2.2⟩, ⟨v1800, 76, 3, n1801, i1802⟩], [(ty82.row x1844 e.2.2), (pureF (x1844.length * ty82.bytes ≤ 140737488355328)), ((Ty.slice ty76).fact a1 [w1789]), (ty76.row x1798 i1802), (pureF (x1798.length * ty76.bytes ≤ 140737488355328)), ((Ty.slice ty76).fact a0 [w1788]), ((Ty.int .i64).fact (x1799 : Int) [.int .i64 (x1799 : Int)]), ((Ty.slice ty82).fact x1810.Codes [s1812]), ((Ty.int .i64).fact (x1825 : Int) [.int .i64 (x1825 : Int)]), (Ty.str.fact x1810.From [str x1810.From]), (Ty.str.fact x1817.1.To [str x1817.1.To]), (Ty.str.fact x1817.1.From [str x1817.1.From]), ((Ty.slice ty82).fact x1817.1.Codes [s1819])]⟩ : St)) ?_ ?_
       ·clear hr
        have hr := hc1848
        clear hc1848
        by_cases h1849 : x1842.2 = true
        ·replace hr := ipos h1849 hr
         refine at_true rfl h1849 (at_region (at_lt (lt_fieldAddr 2 rfl fld76_2 rfl) rfl (at_lt (lt_load_box 1 rfl ti74 rfl rfl rfl rfl rfl) rfl (at_lt (lt_fieldAddr 0 rfl fld82_0 rfl) rfl (at_lt (lt_load_box 0 rfl ti5 rfl rfl rfl rfl rfl) rfl (s_mv rfl (at_lt (lt_build (cs := [.int .u8 (x1837.From.toNat : Int), .int .u8 (x1842.1.toNat : Int)]) rfl ti82 pl82 rfl) rfl (at_hv rfl ?_))))))))
         refine hv_bslice (cs := [.int .u8 (x1837.From.toNat : Int), .int .u8 (x1842.1.toNat : Int)]) rfl und74 ti82 rfl rfl rfl rfl rfl (fun s1850 => ?_)
         replace hr := imust hr
         obtain ⟨h1851, hr⟩ := hr
         refine at_derive [] (ty82.fact (⟨x1837.From, x1842.1⟩ : D_crosswalk_Pair) [.int .u8 (x1837.From.toNat : Int), .int .u8 (x1842.1.toNat : Int)]) rfl (fun F w h => mk82 (x := (⟨x1837.From, x1842.1⟩ : D_crosswalk_Pair)) h) ?_
         refine at_rown 1 5 rfl rfl rfl (fun hn1853 => ?_)
         refine at_hv rfl ?_
         refine hv_append 1 0 rfl rfl rfl rfl und74 ti82 rfl rfl rfl (by omega) (by omega) rfl (fun s1852 => ?_)
         refine at_rowsnoc 5 0 rfl rfl (at_lt (lt_fieldAddr 2 rfl fld76_2 rfl) rfl ?_)
         refine at_rowv 1 rfl (fun ho1854 => ?_)
         replace ho1854 := row_one (by obtain ⟨a, c, h⟩ := ho1854; exact ⟨a, _, c, h⟩)
         refine at_hv rfl (hv_store1 1 (cs' := [str x1810.From, str x1817.1.To, s1852]) rfl rfl ti74 rfl rfl rfl rfl ho1854 (at_nil ?_))
         have hq := oinj hr
         clear hr
         subst hq
         refine at_mkpure (q := ((x1826 ++ [(⟨x1837.From, x1842.1⟩ : D_crosswalk_Pair)]).length * ty82.bytes ≤ 140737488355328)) (by simp only [List.length_append, List.length_cons, List.length_nil, ty82_bytes] <;> omega) ?_
         exact at_leaf (s1852, n1828 + 1, i1829 ++ [.int .u8 (x1837.From.toNat : Int), .int .u8 (x1842.1.toNat : Int)]) ⟨⟨rfl, ⟨rfl, ⟨rfl, ⟨rfl, ⟨rfl, ⟨rfl, ⟨rfl, ⟨rfl, ⟨rfl, ⟨rfl, trivial⟩⟩⟩⟩⟩⟩⟩⟩⟩⟩, ⟨[false, true, true], rfl⟩, ⟨[false, true, true], rfl⟩, ⟨[1, 0, 9, 10, 11, 12, 13, 14, 6, 15, 16, 17, 18], rfl⟩⟩
        replace hr := ineg h1849 hr
        refine at_false rfl (bf h1849) (at_skip ?_)
        have hq := oinj hr
        clear hr
        subst hq
        exact at_leaf (v1827, n1828, i1829) ⟨⟨rfl, ⟨rfl, ⟨rfl, ⟨rfl, ⟨rfl, ⟨rfl, ⟨rfl, ⟨rfl, ⟨rfl, ⟨rfl, trivial⟩⟩⟩⟩⟩⟩⟩⟩⟩⟩, ⟨[false, true, true], rfl⟩, ⟨[true, true], rfl⟩, ⟨[4, 5, 6, 7, 8, 9, 10, 11, 3, 12, 13, 14, 15], rfl⟩⟩
       clear hc1848
       intro e
       obtain ⟨v1845, n1846, i1847⟩ := e
       change At _ _ (⟨[(1, w1789), (6, v1800), (9, .pointer (some (Addr.add ⟨b1820, 0, none⟩ 0))), (11, .pointer (some (Addr.add ⟨b1822, 0, none⟩ 0))), (24, w1788), (25, .int .i64 (a0.length : Int)), (26, .int .i64 (x1799 : Int)), (43, s1812), (44, .int .i64 (x1810.Codes.length : Int)), (45, .int .i64 (x1825 : Int))], [⟨b1822, [str x1810.From, str x1817.1.To, v1845], 76⟩, ⟨b1820, [str x1817.1.From, str x1817.1.To, s1819], 76⟩], [⟨v1845, 82, 2, n1846, i1847⟩, ⟨v1800, 76, 3, n1801, i1802⟩], [(ty82.row x1844 i1847), (pureF (x1844.length * ty82.bytes ≤ 140737488355328)), ((Ty.slice ty76).fact a1 [w1789]), (ty76.row x1798 i1802), (pureF (x1798.length * ty76.bytes ≤ 140737488355328)), ((Ty.slice ty76).fact a0 [w1788]), ((Ty.int .i64).fact (x1799 : Int) [.int .i64 (x1799 : Int)]), ((Ty.slice ty82).fact x1810.Codes [s1812]), ((Ty.int .i64).fact (x1825 : Int) [.int .i64 (x1825 : Int)]), (Ty.str.fact x1810.From [str x1810.From]), (Ty.str.fact x1817.1.To [str x1817.1.To]), (Ty.str.fact x1817.1.From [str x1817.1.From]), ((Ty.slice ty82).fact x1817.1.Codes [s1819])]⟩ : St) _
       refine at_in (s_tr (at_lt (lt_add rfl rfl (by simp only [lo, hi]; omega)) rfl (s_mv rfl (at_nil (at_int .i64 (x1825 + 1 : Int) (by simp only [lo, hi]; omega) ?_)))))
       exact at_again (σ := (Nat × (List D_crosswalk_Pair))) (V := Value × Nat × (List Value)) (lp := fun n s => m26_l2 x1810 x1817 n s.1 s.2) (S := fun s e => (⟨[(1, w1789), (6, v1800), (9, .pointer (some (Addr.add ⟨b1820, 0, none⟩ 0))), (11, .pointer (some (Addr.add ⟨b1822, 0, none⟩ 0))), (24, w1788), (25, .int .i64 (a0.length : Int)), (26, .int .i64 (x1799 : Int)), (43, s1812), (44, .int .i64 (x1810.Codes.length : Int)), (45, .int .i64 (s.1 : Int))], [⟨b1822, [str x1810.From, str x1817.1.To, e.1], 76⟩, ⟨b1820, [str x1817.1.From, str x1817.1.To, s1819], 76⟩], [⟨e.1, 82, 2, e.2.1, e.2.2⟩, ⟨v1800, 76, 3, n1801, i1802⟩], [((Ty.int .i64).fact (s.1 : Int) [.int .i64 (s.1 : Int)]), (ty82.row s.2 e.2.2), (pureF (s.2.length * ty82.bytes ≤ 140737488355328)), ((Ty.slice ty76).fact a1 [w1789]), (ty76.row x1798 i1802), (pureF (x1798.length * ty76.bytes ≤ 140737488355328)), ((Ty.slice ty76).fact a0 [w1788]), ((Ty.int .i64).fact (x1799 : Int) [.int .i64 (x1799 : Int)]), ((Ty.slice ty82).fact x1810.Codes [s1812]), (Ty.str.fact x1810.From [str x1810.From]), (Ty.str.fact x1817.1.To [str x1817.1.To]), (Ty.str.fact x1817.1.From [str x1817.1.From]), ((Ty.slice ty82).fact x1817.1.Codes [s1819])]⟩ : St)) (x1825 + 1, x1844) (v1845, n1846, i1847) hr ⟨⟨rfl, ⟨rfl, ⟨rfl, ⟨rfl, ⟨rfl, ⟨rfl, ⟨rfl, ⟨rfl, ⟨rfl, ⟨rfl, trivial⟩⟩⟩⟩⟩⟩⟩⟩⟩⟩, ⟨[true, true], rfl⟩, ⟨[true, true], rfl⟩, ⟨[0, 1, 2, 3, 4, 5, 6, 7, 8, 10, 11, 12, 13], rfl⟩⟩
      replace hr := ineg h1836 hr
      refine at_false rfl (decide_eq_false (by omega)) ?_
      refine at_exit (at_then_exit (at_then_exit (at_in_exit ?_)))
      have hq := oinj hr
      clear hr
      subst hq
      exact at_leaf (v1827, n1828, i1829) ⟨⟨rfl, ⟨rfl, ⟨rfl, ⟨rfl, ⟨rfl, ⟨rfl, trivial⟩⟩⟩⟩⟩⟩, ⟨[true, false], rfl⟩, ⟨[true, true], rfl⟩, ⟨[1, 2, 3, 4, 5, 6, 7, 9, 10], rfl⟩⟩
     clear hl1834
     intro e
     obtain ⟨v1831, n1832, i1833⟩ := e
     change At _ _ (⟨[(1, w1789), (6, v1800), (11, .pointer (some (Addr.add ⟨b1822, 0, none⟩ 0))), (24, w1788), (25, .int .i64 (a0.length : Int)), (26, .int .i64 (x1799 : Int))], [⟨b1822, [str x1810.From, str x1817.1.To, v1831], 76⟩], [⟨v1831, 82, 2, n1832, i1833⟩, ⟨v1800, 76, 3, n1801, i1802⟩], [(ty82.row x1830 i1833), (pureF (x1830.length * ty82.bytes ≤ 140737488355328)), ((Ty.slice ty76).fact a1 [w1789]), (ty76.row x1798 i1802), (pureF (x1798.length * ty76.bytes ≤ 140737488355328)), ((Ty.slice ty76).fact a0 [w1788]), ((Ty.int .i64).fact (x1799 : Int) [.int .i64 (x1799 : Int)]), (Ty.str.fact x1810.From [str x1810.From]), (Ty.str.fact x1817.1.To [str x1817.1.To])]⟩ : St) _
     refine s_tsr (at_lt (lt_fieldAddr 2 rfl fld76_2 rfl) rfl (at_lt (lt_load_box 0 rfl ti74 rfl rfl rfl rfl rfl) rfl ?_))
     refine at_rown 0 0 rfl rfl rfl (fun hn1855 => ?_)
     refine at_rowv 0 rfl (fun hv1856 => ?_)
     refine at_lt (lt_rlen rfl hv1856 und74 hn1855) rfl (at_lt (lt_gtr rfl rfl) rfl (s_nt ?_))
     replace hr := obind hr
     obtain ⟨x1857, hc1861, hr⟩ := hr
     refine at_cut (V := Value × Nat × (List Value)) (fun e => (⟨[(1, w1789), (6, e.1), (24, w1788), (25, .int .i64 (a0.length : Int)), (26, .int .i64 (x1799 : Int))], [], [⟨e.1, 76, 3, e.2.1, e.2.2⟩], [(ty76.row x1857 e.2.2), (pureF (x1857.length * ty76.bytes ≤ 140737488355328)), ((Ty.slice ty76).fact a1 [w1789]), ((Ty.slice ty76).fact a0 [w1788]), ((Ty.int .i64).fact (x1799 : Int) [.int .i64 (x1799 : Int)])]⟩ : St)) ?_ ?_
     ·clear hr
      have hr := hc1861
      clear hc1861
      by_cases h1862 : 0 < x1830.length
      ·replace hr := ipos h1862 hr
       refine at_true rfl (decide_eq_true (by omega)) ?_
       refine at_region (s_mv rfl (at_lt (lt_load_box 0 rfl ti76 rfl rfl rfl rfl rfl) rfl (at_hv rfl ?_)))
       refine hv_bslice (cs := [str x1810.From, str x1817.1.To, v1831]) rfl und34 ti76 rfl rfl rfl rfl rfl (fun s1863 => ?_)
       replace hr := imust hr
       obtain ⟨h1864, hr⟩ := hr
       refine at_pure 1 rfl (fun hb1866 => ?_)
       refine at_release 1 0 rfl rfl rfl hb1866 ?_
       refine at_derive [8, 9, 0] (ty76.fact (⟨x1810.From, x1817.1.To, x1830⟩ : D_crosswalk_Entry) [str x1810.From, str x1817.1.To, v1831]) rfl (fun F w h => mk76 (x := (⟨x1810.From, x1817.1.To, x1830⟩ : D_crosswalk_Entry)) h) ?_
       refine at_rown 1 5 rfl rfl rfl (fun hn1867 => ?_)
       refine at_one 1 rfl (fun ho1868 => ?_)
       refine at_hv rfl ?_
       refine hv_append 1 0 rfl rfl rfl rfl und34 ti76 rfl rfl (allc rfl (allc rfl (allc ho1868 rfl))) (by omega) (by omega) rfl (fun s1865 => ?_)
       refine at_rowsnoc 5 0 rfl rfl (s_as rfl (at_nil ?_))
       have hq := oinj hr
       clear hr
       subst hq
       refine at_mkpure (q := ((x1798 ++ [(⟨x1810.From, x1817.1.To, x1830⟩ : D_crosswalk_Entry)]).length * ty76.bytes ≤ 140737488355328)) (by simp only [List.length_append, List.length_cons, List.length_nil, ty76_bytes] <;> omega) ?_
       exact at_leaf (s1865, n1801 + 1, i1802 ++ [str x1810.From, str x1817.1.To, v1831]) ⟨⟨rfl, ⟨rfl, ⟨rfl, ⟨rfl, ⟨rfl, trivial⟩⟩⟩⟩⟩, ⟨[false], rfl⟩, ⟨[false, true], rfl⟩, ⟨[1, 0, 6, 9, 10], rfl⟩⟩
      replace hr := ineg h1862 hr
      refine at_false rfl (decide_eq_false (by omega)) ?_
      refine at_skip ?_
      have hq := oinj hr
      clear hr
      subst hq
      exact at_leaf (v1800, n1801, i1802) ⟨⟨rfl, ⟨rfl, ⟨rfl, ⟨rfl, ⟨rfl, trivial⟩⟩⟩⟩⟩, ⟨[false], rfl⟩, ⟨[false, true], rfl⟩, ⟨[3, 4, 2, 5, 6], rfl⟩⟩
     clear hc1861
     intro e
     obtain ⟨v1858, n1859, i1860⟩ := e
     change At _ _ (⟨[(1, w1789), (6, v1858), (24, w1788), (25, .int .i64 (a0.length : Int)), (26, .int .i64 (x1799 : Int))], [], [⟨v1858, 76, 3, n1859, i1860⟩], [(ty76.row x1857 i1860), (pureF (x1857.length * ty76.bytes ≤ 140737488355328)), ((Ty.slice ty76).fact a1 [w1789]), ((Ty.slice ty76).fact a0 [w1788]), ((Ty.int .i64).fact (x1799 : Int) [.int .i64 (x1799 : Int)])]⟩ : St) _
     refine at_in (s_tr (at_lt (lt_add rfl rfl (by simp only [lo, hi]; omega)) rfl (s_mv rfl (at_nil (at_int .i64 (x1799 + 1 : Int) (by simp only [lo, hi]; omega) ?_)))))
     exact at_again (σ := ((List D_crosswalk_Entry) × Nat)) (V := Value × Nat × (List Value)) (lp := fun n s => m26_l1 a0 a1 n s.1 s.2) (S := fun s e => (⟨[(1, w1789), (6, e.1), (24, w1788), (25, .int .i64 (a0.length : Int)), (26, .int .i64 (s.2 : Int))], [], [⟨e.1, 76, 3, e.2.1, e.2.2⟩], [(ty76.row s.1 e.2.2), (pureF (s.1.length * ty76.bytes ≤ 140737488355328)), ((Ty.int .i64).fact (s.2 : Int) [.int .i64 (s.2 : Int)]), ((Ty.slice ty76).fact a1 [w1789]), ((Ty.slice ty76).fact a0 [w1788])]⟩ : St)) (x1857, x1799 + 1) (v1858, n1859, i1860) hr ⟨⟨rfl, ⟨rfl, ⟨rfl, ⟨rfl, ⟨rfl, trivial⟩⟩⟩⟩⟩, ⟨[], rfl⟩, ⟨[true], rfl⟩, ⟨[1, 2, 0, 3, 4], rfl⟩⟩
    replace hr := ineg h1809 hr
    refine at_false rfl (decide_eq_false (by omega)) ?_
    refine at_exit (at_then_exit (at_then_exit (at_in_exit ?_)))
    have hq := oinj hr
    clear hr
    subst hq
    exact at_leaf (v1800, n1801, i1802) ⟨⟨rfl, trivial⟩, ⟨[], rfl⟩, ⟨[true], rfl⟩, ⟨[0, 1], rfl⟩⟩
   clear hl1807
   intro e
   obtain ⟨v1804, n1805, i1806⟩ := e
   change At _ _ (⟨[(6, v1804)], [], [⟨v1804, 76, 3, n1805, i1806⟩], [(ty76.row x1803 i1806), (pureF (x1803.length * ty76.bytes ≤ 140737488355328))]⟩ : St) _
   refine s_tsr (s_mv rfl (s_as rfl (s_as rfl (s_nt (at_ret ?_)))))
   have hq := oinj hr
   clear hr
   subst hq
   refine at_pure 1 rfl (fun hb1869 => ?_)
   refine at_release 0 0 rfl rfl rfl hb1869 (at_int .i64 0 (by simp only [lo, hi]; omega) ?_)
   exact at_return (.tuple #[v1804, .int .i64 0]) [1, 0] hS Tryz.results26 (.cons (.tmp rfl) (.cons (.tmp rfl) .nil)) rfl rfl ⟨v1804, rfl, rfl⟩
  replace hr := ineg h1795 hr
  refine at_true rfl (nf (bf h1795)) (s_sr (s_as rfl (s_as rfl (s_nt (at_ret ?_)))))
  have hq := oinj hr
  clear hr
  subst hq
  refine at_then_ret (at_fnil ty76 none (at_int .i64 1 (by simp only [lo, hi]; omega) ?_))
  exact at_return (.tuple #[(.slice none 0 0), .int .i64 1]) [1, 0] hS Tryz.results26 (.cons (.tmp rfl) (.cons (.tmp rfl) .nil)) rfl rfl ⟨((.slice none 0 0)), rfl, rfl⟩
 replace hr := ineg h1792 hr
 refine at_off rfl rfl (nf (bf h1792)) rfl (at_off rfl rfl (nf (bf h1792)) rfl (at_off rfl rfl (nf (bf h1792)) rfl (at_lt (lt_pick true rfl (nf (bf h1792)) rfl) rfl (s_nt (at_true rfl rfl (s_sr (s_as rfl (s_as rfl (s_nt ?_)))))))))
 refine at_ret ?_
 have hq := oinj hr
 clear hr
 subst hq
 refine at_then_ret (at_fnil ty76 none (at_int .i64 1 (by simp only [lo, hi]; omega) ?_))
 exact at_return (.tuple #[(.slice none 0 0), .int .i64 1]) [1, 0] hS Tryz.results26 (.cons (.tmp rfl) (.cons (.tmp rfl) .nil)) rfl rfl ⟨((.slice none 0 0)), rfl, rfl⟩
def m39_l1 (a0 : (List D_ref16_Entry)) (a1 : Str) (a2 : Bool) : Nat → Nat → Option (Fl Int Unit)
  | 0, _ => none
  | k + 1, x1872 =>
    if x1872 < a0.length then
     if a2 = true then
      (a0[x1872]?).bind fun x1880 =>
      if x1880.To = a1 then
       some (Fl.ret (x1872 : Int))
      else
       m39_l1 a0 a1 a2 k (x1872 + 1)
     else
      (a0[x1872]?).bind fun x1886 =>
      if x1886.From = a1 then
       some (Fl.ret (x1872 : Int))
      else
       m39_l1 a0 a1 a2 k (x1872 + 1)
    else
     some (Fl.go ())
def m39 (a0 : (List D_ref16_Entry)) (a1 : Str) (a2 : Bool) : Option Int :=
  (m39_l1 a0 a1 a2 (a0.length + 1) 0).bind fun r => match r with
  | .ret x => some x
  | .go _ =>
   some (-1)
def post39 (r : Int) (v : Value) (fs : List Fact) : Prop := v = .int .i64 r ∧ fs = [((Ty.int .i64).fact r [.int .i64 r])]
theorem en39 : Enters Tryz.prog 39 := ⟨_, Tryz.func39, by kernel_rfl, rfl⟩
theorem f39_spec {a0 : (List D_ref16_Entry)} {a1 : Str} {a2 : Bool} {w1871 : Value} {r : Int} (hr : m39 a0 a1 a2 = some r) : Spec Tryz.prog 39 [w1871, str a1, .bool a2] [((Ty.slice ty50).fact a0 [w1871]), (Ty.str.fact a1 [str a1])] (post39 r) := by
 refine spec_start (N := 38) Tryz.func39 (by kernel_rfl) rfl rfl rfl ?_
 intro g hS
 unfold m39 at hr
 refine s_sr (s_as rfl (s_nt (at_seq (s_sr (s_as rfl (s_nt (at_int .i64 0 (by simp only [lo, hi]; omega) ?_)))))))
 replace hr := obind hr
 obtain ⟨r1873, hl1874, hk1875⟩ := hr
 refine at_cutP (V := (Unit) × (Unit)) (fun v => r1873 = Fl.go v.1) (fun v => (⟨[], [], [], []⟩ : St)) ?_ ?_
 ·refine at_block ?_
  refine at_loopW (σ := Nat) (V := Unit) (r := r1873) (fun n s => m39_l1 a0 a1 a2 n s) (fun s e => (⟨[(0, w1871), (1, str a1), (2, .bool a2), (7, .int .i64 (s : Int))], [], [], [((Ty.int .i64).fact (s : Int) [.int .i64 (s : Int)]), ((Ty.slice ty50).fact a0 [w1871]), (Ty.str.fact a1 [str a1])]⟩ : St)) (fun _ => rfl) _ 0 () hl1874 ⟨⟨rfl, ⟨rfl, ⟨rfl, ⟨rfl, trivial⟩⟩⟩⟩, ⟨[], rfl⟩, ⟨[], rfl⟩, ⟨[0, 1, 2], rfl⟩⟩ ?_
  clear hl1874
  intro n x1872 hr e
  skip
  skip
  change m39_l1 a0 a1 a2 (n + 1) x1872 = some r1873 at hr
  change At _ _ (⟨[(0, w1871), (1, str a1), (2, .bool a2), (7, .int .i64 (x1872 : Int))], [], [], [((Ty.int .i64).fact (x1872 : Int) [.int .i64 (x1872 : Int)]), ((Ty.slice ty50).fact a0 [w1871]), (Ty.str.fact a1 [str a1])]⟩ : St) _
  rw [m39_l1] at hr
  refine at_seq (s_sr (s_mv rfl (s_mv rfl ?_)))
  refine at_inv 1 rfl (fun i1876 => ?_)
  have l1877 := slice_len i1876
  refine at_lt (lt_flen 1 rfl rfl und22) rfl (at_lt (lt_lss rfl rfl) rfl (s_nt ?_))
  by_cases h1878 : x1872 < a0.length
  ·replace hr := ipos h1878 hr
   refine at_true rfl (decide_eq_true (by omega)) ?_
   refine at_skip (at_then (at_seq (at_block (s_sr (s_mv rfl (at_lt (lt_not rfl) rfl (s_mv rfl ?_)))))))
   by_cases h1879 : a2 = true
   ·replace hr := ipos h1879 hr
    refine at_off rfl rfl (nt h1879) rfl (at_off rfl rfl (nt h1879) rfl (at_off rfl rfl (nt h1879) rfl (at_off rfl rfl (nt h1879) rfl (at_off rfl rfl (nt h1879) rfl (at_off rfl rfl (nt h1879) rfl (at_off rfl rfl (nt h1879) rfl (at_lt (lt_pick false rfl (nt h1879) rfl) rfl (s_mv rfl (at_on rfl rfl rfl ?_)))))))))
    refine s_mv rfl (at_on rfl rfl rfl (s_mv rfl (at_on rfl rfl h1879 (s_mv rfl (at_on rfl rfl h1879 (s_mv rfl ?_))))))
    replace hr := obind hr
    obtain ⟨x1880, h1881, hr⟩ := hr
    have := (List.getElem?_eq_some_iff.1 h1881).1
    refine at_elem 1 rfl (nat_at' h1881) (fun p1883 ec pa1884 => ?_)
    refine at_open (A := Value) 0 rfl _ _ (fun F w h => op50 h) ?_
    rintro s1882 rfl
    refine at_on rfl rfl h1879 (at_lt (lt_idx rfl rfl pa1884 und22 ti50) rfl (at_on rfl rfl h1879 (at_lt (lt_fieldAddr 1 rfl fld50_1 rfl) rfl (at_on rfl rfl h1879 (at_lt (lt_load_peek 4 rfl ti9 rfl rfl rfl rfl rfl) rfl (at_on rfl rfl h1879 (s_mv rfl (at_on rfl rfl h1879 (at_lt (lt_seql rfl rfl) rfl ?_)))))))))
    refine at_on rfl rfl rfl (at_lt (lt_pick true rfl h1879 rfl) rfl (at_lt (lt_pick false rfl rfl rfl) rfl (s_nt ?_)))
    by_cases h1885 : x1880.To = a1
    ·replace hr := ipos h1885 hr
     refine at_true rfl (decide_eq_true h1885) (s_sr (s_mv rfl (s_as rfl (s_nt (at_ret ?_)))))
     have hq := oinj hr
     clear hr
     subst hq
     have hq := oinj hk1875
     clear hk1875
     subst hq
     refine at_in_ret (at_then_ret (at_then_ret (at_in_ret (at_then_ret (at_then_ret ?_)))))
     exact at_return (.int .i64 (x1872 : Int)) [5] hS Tryz.results39 (.cons (.tmp rfl) .nil) rfl rfl ⟨rfl, rfl⟩
    replace hr := ineg h1885 hr
    refine at_false rfl (decide_eq_false h1885) (at_skip (at_in (s_tr (s_mv rfl (at_lt (lt_add rfl rfl (by simp only [lo, hi]; omega)) rfl (s_as rfl (at_nil (at_int .i64 (x1872 + 1 : Int) (by simp only [lo, hi]; omega) ?_))))))))
    exact at_again (σ := Nat) (V := Unit) (lp := fun n s => m39_l1 a0 a1 a2 n s) (S := fun s e => (⟨[(0, w1871), (1, str a1), (2, .bool a2), (7, .int .i64 (s : Int))], [], [], [((Ty.int .i64).fact (s : Int) [.int .i64 (s : Int)]), ((Ty.slice ty50).fact a0 [w1871]), (Ty.str.fact a1 [str a1])]⟩ : St)) (x1872 + 1) () hr ⟨⟨rfl, ⟨rfl, ⟨rfl, ⟨rfl, trivial⟩⟩⟩⟩, ⟨[], rfl⟩, ⟨[], rfl⟩, ⟨[0, 7, 8], rfl⟩⟩
   replace hr := ineg h1879 hr
   refine at_on rfl rfl (nf (bf h1879)) (s_mv rfl (at_on rfl rfl (nf (bf h1879)) (s_mv rfl ?_)))
   replace hr := obind hr
   obtain ⟨x1886, h1887, hr⟩ := hr
   have := (List.getElem?_eq_some_iff.1 h1887).1
   refine at_elem 1 rfl (nat_at' h1887) (fun p1889 ec pa1890 => ?_)
   refine at_open (A := Value) 0 rfl _ _ (fun F w h => op50 h) ?_
   rintro s1888 rfl
   refine at_on rfl rfl (nf (bf h1879)) (at_lt (lt_idx rfl rfl pa1890 und22 ti50) rfl (at_on rfl rfl (nf (bf h1879)) (at_lt (lt_fieldAddr 0 rfl fld50_0 rfl) rfl (at_on rfl rfl (nf (bf h1879)) (at_lt (lt_load_peek 4 rfl ti9 rfl rfl rfl rfl rfl) rfl (at_on rfl rfl (nf (bf h1879)) (s_mv rfl (at_on rfl rfl (nf (bf h1879)) (at_lt (lt_seql rfl rfl) rfl ?_)))))))))
   refine at_lt (lt_pick true rfl (nf (bf h1879)) rfl) rfl (s_mv rfl ?_)
   by_cases h1891 : x1886.From = a1
   ·replace hr := ipos h1891 hr
    refine at_off rfl rfl (decide_eq_true h1891) rfl (at_off rfl rfl (decide_eq_true h1891) rfl (at_offu rfl rfl rfl (at_offu rfl rfl rfl (at_offu rfl rfl rfl (at_offu rfl rfl rfl (at_offu rfl rfl rfl (at_offu rfl rfl rfl (at_offu rfl rfl rfl (at_off rfl rfl (decide_eq_true h1891) rfl ?_)))))))))
    refine at_lt (lt_pick true rfl (decide_eq_true h1891) rfl) rfl (s_nt (at_true rfl rfl (s_sr (s_mv rfl (s_as rfl (s_nt (at_ret ?_)))))))
    have hq := oinj hr
    clear hr
    subst hq
    have hq := oinj hk1875
    clear hk1875
    subst hq
    refine at_in_ret (at_then_ret (at_then_ret (at_in_ret (at_then_ret (at_then_ret ?_)))))
    exact at_return (.int .i64 (x1872 : Int)) [5] hS Tryz.results39 (.cons (.tmp rfl) .nil) rfl rfl ⟨rfl, rfl⟩
   replace hr := ineg h1891 hr
   refine at_on rfl rfl (decide_eq_false h1891) (s_mv rfl (at_on rfl rfl (decide_eq_false h1891) (s_mv rfl (at_off rfl rfl (bf h1879) rfl (at_off rfl rfl (bf h1879) rfl (at_off rfl rfl (bf h1879) rfl (at_off rfl rfl (bf h1879) rfl (at_off rfl rfl (bf h1879) rfl (at_off rfl rfl (bf h1879) rfl ?_)))))))))
   refine at_off rfl rfl (bf h1879) rfl (at_on rfl rfl (decide_eq_false h1891) (at_lt (lt_pick false rfl (bf h1879) rfl) rfl (at_lt (lt_pick false rfl (decide_eq_false h1891) rfl) rfl (s_nt (at_false rfl rfl (at_skip (at_in (s_tr (s_mv rfl ?_)))))))))
   refine at_lt (lt_add rfl rfl (by simp only [lo, hi]; omega)) rfl (s_as rfl (at_nil (at_int .i64 (x1872 + 1 : Int) (by simp only [lo, hi]; omega) ?_)))
   exact at_again (σ := Nat) (V := Unit) (lp := fun n s => m39_l1 a0 a1 a2 n s) (S := fun s e => (⟨[(0, w1871), (1, str a1), (2, .bool a2), (7, .int .i64 (s : Int))], [], [], [((Ty.int .i64).fact (s : Int) [.int .i64 (s : Int)]), ((Ty.slice ty50).fact a0 [w1871]), (Ty.str.fact a1 [str a1])]⟩ : St)) (x1872 + 1) () hr ⟨⟨rfl, ⟨rfl, ⟨rfl, ⟨rfl, trivial⟩⟩⟩⟩, ⟨[], rfl⟩, ⟨[], rfl⟩, ⟨[0, 7, 8], rfl⟩⟩
  replace hr := ineg h1878 hr
  refine at_false rfl (decide_eq_false (by omega)) ?_
  refine at_exit (at_then_exit (at_then_exit (at_in_exit ?_)))
  have hq := oinj hr
  clear hr
  subst hq
  exact at_leafP ((), ()) rfl ⟨trivial, ⟨[], rfl⟩, ⟨[], rfl⟩, ⟨[], rfl⟩⟩
 rintro ⟨_, _⟩ hp
 replace hr := hk1875
 subst hp
 clear hl1874
 change At _ _ (⟨[], [], [], []⟩ : St) _
 refine s_tsr (s_as rfl (s_nt (at_ret ?_)))
 have hq := oinj hr
 clear hr
 subst hq
 refine at_int .i64 (-1) (by simp only [lo, hi]; omega) ?_
 exact at_return (.int .i64 (-1)) [0] hS Tryz.results39 (.cons (.tmp rfl) .nil) rfl rfl ⟨rfl, rfl⟩
def m40_l1 (a0 : (List D_ref16_Pair)) (a1 : UInt8) (a2 : Bool) : Nat → Nat → Option (Fl UInt8 Unit)
  | 0, _ => none
  | k + 1, x1893 =>
    if x1893 < a0.length then
     Option.bind (α := Bool) (
      if a2 = true then
       some false
      else
       (a0[x1893]?).bind fun x1903 =>
       some (decide ((x1903.From.toNat : Int) = (a1.toNat : Int)))
     ) fun x1900 =>
     if x1900 = true then
      (a0[x1893]?).bind fun x1908 =>
      some (Fl.ret x1908.To)
     else
      Option.bind (α := Bool) (
       if a2 = true then
        (a0[x1893]?).bind fun x1915 =>
        some (decide ((x1915.To.toNat : Int) = (a1.toNat : Int)))
       else
        some false
      ) fun x1912 =>
      if x1912 = true then
       (a0[x1893]?).bind fun x1920 =>
       some (Fl.ret x1920.From)
      else
       m40_l1 a0 a1 a2 k (x1893 + 1)
    else
     some (Fl.go ())
def m40 (a0 : (List D_ref16_Pair)) (a1 : UInt8) (a2 : Bool) : Option UInt8 :=
  (m40_l1 a0 a1 a2 (a0.length + 1) 0).bind fun r => match r with
  | .ret x => some x
  | .go _ =>
   some 0
def post40 (r : UInt8) (v : Value) (fs : List Fact) : Prop := v = .int .u8 (r.toNat : Int) ∧ fs = []
theorem en40 : Enters Tryz.prog 40 := ⟨_, Tryz.func40, by kernel_rfl, rfl⟩
theorem f40_spec {a0 : (List D_ref16_Pair)} {a1 : UInt8} {a2 : Bool} {w1892 : Value} {r : UInt8} (hr : m40 a0 a1 a2 = some r) : Spec Tryz.prog 40 [w1892, .int .u8 (a1.toNat : Int), .bool a2] [((Ty.slice ty83).fact a0 [w1892])] (post40 r) := by
 refine spec_start (N := 45) Tryz.func40 (by kernel_rfl) rfl rfl rfl ?_
 intro g hS
 unfold m40 at hr
 refine s_sr (s_as rfl (s_nt (at_seq (s_sr (s_as rfl (s_nt (at_int .i64 0 (by simp only [lo, hi]; omega) ?_)))))))
 replace hr := obind hr
 obtain ⟨r1894, hl1895, hk1896⟩ := hr
 refine at_cutP (V := (Unit) × (Unit)) (fun v => r1894 = Fl.go v.1) (fun v => (⟨[], [], [], []⟩ : St)) ?_ ?_
 ·refine at_block ?_
  refine at_loopW (σ := Nat) (V := Unit) (r := r1894) (fun n s => m40_l1 a0 a1 a2 n s) (fun s e => (⟨[(0, w1892), (1, .int .u8 (a1.toNat : Int)), (2, .bool a2), (7, .int .i64 (s : Int))], [], [], [((Ty.int .i64).fact (s : Int) [.int .i64 (s : Int)]), ((Ty.slice ty83).fact a0 [w1892])]⟩ : St)) (fun _ => rfl) _ 0 () hl1895 ⟨⟨rfl, ⟨rfl, ⟨rfl, ⟨rfl, trivial⟩⟩⟩⟩, ⟨[], rfl⟩, ⟨[], rfl⟩, ⟨[0, 1], rfl⟩⟩ ?_
  clear hl1895
  intro n x1893 hr e
  skip
  skip
  change m40_l1 a0 a1 a2 (n + 1) x1893 = some r1894 at hr
  change At _ _ (⟨[(0, w1892), (1, .int .u8 (a1.toNat : Int)), (2, .bool a2), (7, .int .i64 (x1893 : Int))], [], [], [((Ty.int .i64).fact (x1893 : Int) [.int .i64 (x1893 : Int)]), ((Ty.slice ty83).fact a0 [w1892])]⟩ : St) _
  rw [m40_l1] at hr
  refine at_seq (s_sr (s_mv rfl (s_mv rfl ?_)))
  refine at_inv 1 rfl (fun i1897 => ?_)
  have l1898 := slice_len i1897
  refine at_lt (lt_flen 1 rfl rfl und48) rfl (at_lt (lt_lss rfl rfl) rfl (s_nt ?_))
  by_cases h1899 : x1893 < a0.length
  ·replace hr := ipos h1899 hr
   refine at_true rfl (decide_eq_true (by omega)) ?_
   refine at_skip (at_then (at_seq (at_block (at_seq (at_seq ?_)))))
   replace hr := obind hr
   obtain ⟨x1900, hc1901, hr⟩ := hr
   refine at_cut (V := Unit) (fun e => (⟨[(0, w1892), (1, .int .u8 (a1.toNat : Int)), (2, .bool a2), (7, .int .i64 (x1893 : Int)), (24, .bool x1900)], [], [], [((Ty.slice ty83).fact a0 [w1892]), ((Ty.int .i64).fact (x1893 : Int) [.int .i64 (x1893 : Int)])]⟩ : St)) ?_ ?_
   ·clear hr
    have hr := hc1901
    clear hc1901
    refine at_region (s_mv rfl (at_lt (lt_not rfl) rfl (s_mv rfl ?_)))
    by_cases h1902 : a2 = true
    ·replace hr := ipos h1902 hr
     refine at_off rfl rfl (nt h1902) rfl (at_off rfl rfl (nt h1902) rfl (at_off rfl rfl (nt h1902) rfl (at_off rfl rfl (nt h1902) rfl (at_off rfl rfl (nt h1902) rfl (at_off rfl rfl (nt h1902) rfl (at_off rfl rfl (nt h1902) rfl (at_lt (lt_pick false rfl (nt h1902) rfl) rfl (at_nil ?_))))))))
     have hq := oinj hr
     clear hr
     subst hq
     exact at_leaf () ⟨⟨rfl, ⟨rfl, ⟨rfl, ⟨rfl, ⟨rfl, trivial⟩⟩⟩⟩⟩, ⟨[], rfl⟩, ⟨[], rfl⟩, ⟨[1, 0], rfl⟩⟩
    replace hr := ineg h1902 hr
    refine at_on rfl rfl (nf (bf h1902)) (s_mv rfl (at_on rfl rfl (nf (bf h1902)) (s_mv rfl ?_)))
    replace hr := obind hr
    obtain ⟨x1903, h1904, hr⟩ := hr
    have := (List.getElem?_eq_some_iff.1 h1904).1
    refine at_elem 1 rfl (nat_at' h1904) (fun p1905 ec pa1906 => ?_)
    refine at_open (A := Unit) 0 rfl _ _ (fun F w h => op83 h) ?_
    rintro _ rfl
    refine at_on rfl rfl (nf (bf h1902)) (at_lt (lt_idx rfl rfl pa1906 und48 ti83) rfl (at_on rfl rfl (nf (bf h1902)) (at_lt (lt_fieldAddr 0 rfl fld83_0 rfl) rfl (at_on rfl rfl (nf (bf h1902)) (at_lt (lt_load_peek 1 rfl ti5 rfl rfl rfl rfl rfl) rfl (at_on rfl rfl (nf (bf h1902)) (s_mv rfl (at_on rfl rfl (nf (bf h1902)) (at_lt (lt_eql rfl rfl) rfl ?_)))))))))
    refine at_lt (lt_pick true rfl (nf (bf h1902)) rfl) rfl (at_nil ?_)
    have hq := oinj hr
    clear hr
    subst hq
    exact at_leaf () ⟨⟨rfl, ⟨rfl, ⟨rfl, ⟨rfl, ⟨rfl, trivial⟩⟩⟩⟩⟩, ⟨[], rfl⟩, ⟨[], rfl⟩, ⟨[3, 2], rfl⟩⟩
   clear hc1901
   intro _
   change At _ _ (⟨[(0, w1892), (1, .int .u8 (a1.toNat : Int)), (2, .bool a2), (7, .int .i64 (x1893 : Int)), (24, .bool x1900)], [], [], [((Ty.slice ty83).fact a0 [w1892]), ((Ty.int .i64).fact (x1893 : Int) [.int .i64 (x1893 : Int)])]⟩ : St) _
   refine at_then ?_
   by_cases h1907 : x1900 = true
   ·replace hr := ipos h1907 hr
    refine at_true rfl h1907 (s_sr (s_mv rfl (s_mv rfl ?_)))
    replace hr := obind hr
    obtain ⟨x1908, h1909, hr⟩ := hr
    have := (List.getElem?_eq_some_iff.1 h1909).1
    refine at_elem 0 rfl (nat_at' h1909) (fun p1910 ec pa1911 => ?_)
    refine at_open (A := Unit) 0 rfl _ _ (fun F w h => op83 h) ?_
    rintro _ rfl
    refine at_lt (lt_idx rfl rfl pa1911 und48 ti83) rfl (at_lt (lt_fieldAddr 1 rfl fld83_1 rfl) rfl (at_lt (lt_load_peek 1 rfl ti5 rfl rfl rfl rfl rfl) rfl (s_as rfl (s_nt (at_ret ?_)))))
    have hq := oinj hr
    clear hr
    subst hq
    have hq := oinj hk1896
    clear hk1896
    subst hq
    refine at_then_ret (at_in_ret (at_then_ret (at_then_ret (at_in_ret (at_then_ret (at_then_ret ?_))))))
    exact at_return (.int .u8 (x1908.To.toNat : Int)) [] hS Tryz.results40 (.cons (.tmp rfl) .nil) rfl rfl ⟨rfl, rfl⟩
   replace hr := ineg h1907 hr
   refine at_false rfl (bf h1907) (at_skip (at_then (at_seq ?_)))
   replace hr := obind hr
   obtain ⟨x1912, hc1913, hr⟩ := hr
   refine at_cut (V := Unit) (fun e => (⟨[(0, w1892), (1, .int .u8 (a1.toNat : Int)), (2, .bool a2), (7, .int .i64 (x1893 : Int)), (39, .bool x1912)], [], [], [((Ty.slice ty83).fact a0 [w1892]), ((Ty.int .i64).fact (x1893 : Int) [.int .i64 (x1893 : Int)])]⟩ : St)) ?_ ?_
   ·clear hr
    have hr := hc1913
    clear hc1913
    refine at_region (s_mv rfl (s_mv rfl ?_))
    by_cases h1914 : a2 = true
    ·replace hr := ipos h1914 hr
     refine at_on rfl rfl h1914 (s_mv rfl (at_on rfl rfl h1914 (s_mv rfl ?_)))
     replace hr := obind hr
     obtain ⟨x1915, h1916, hr⟩ := hr
     have := (List.getElem?_eq_some_iff.1 h1916).1
     refine at_elem 0 rfl (nat_at' h1916) (fun p1917 ec pa1918 => ?_)
     refine at_open (A := Unit) 0 rfl _ _ (fun F w h => op83 h) ?_
     rintro _ rfl
     refine at_on rfl rfl h1914 (at_lt (lt_idx rfl rfl pa1918 und48 ti83) rfl (at_on rfl rfl h1914 (at_lt (lt_fieldAddr 1 rfl fld83_1 rfl) rfl (at_on rfl rfl h1914 (at_lt (lt_load_peek 1 rfl ti5 rfl rfl rfl rfl rfl) rfl (at_on rfl rfl h1914 (s_mv rfl (at_on rfl rfl h1914 (at_lt (lt_eql rfl rfl) rfl ?_)))))))))
     refine at_lt (lt_pick true rfl h1914 rfl) rfl (at_nil ?_)
     have hq := oinj hr
     clear hr
     subst hq
     exact at_leaf () ⟨⟨rfl, ⟨rfl, ⟨rfl, ⟨rfl, ⟨rfl, trivial⟩⟩⟩⟩⟩, ⟨[], rfl⟩, ⟨[], rfl⟩, ⟨[2, 3], rfl⟩⟩
    replace hr := ineg h1914 hr
    refine at_off rfl rfl (bf h1914) rfl (at_off rfl rfl (bf h1914) rfl (at_off rfl rfl (bf h1914) rfl (at_off rfl rfl (bf h1914) rfl (at_off rfl rfl (bf h1914) rfl (at_off rfl rfl (bf h1914) rfl (at_off rfl rfl (bf h1914) rfl (at_lt (lt_pick false rfl (bf h1914) rfl) rfl (at_nil ?_))))))))
    have hq := oinj hr
    clear hr
    subst hq
    exact at_leaf () ⟨⟨rfl, ⟨rfl, ⟨rfl, ⟨rfl, ⟨rfl, trivial⟩⟩⟩⟩⟩, ⟨[], rfl⟩, ⟨[], rfl⟩, ⟨[0, 1], rfl⟩⟩
   clear hc1913
   intro _
   change At _ _ (⟨[(0, w1892), (1, .int .u8 (a1.toNat : Int)), (2, .bool a2), (7, .int .i64 (x1893 : Int)), (39, .bool x1912)], [], [], [((Ty.slice ty83).fact a0 [w1892]), ((Ty.int .i64).fact (x1893 : Int) [.int .i64 (x1893 : Int)])]⟩ : St) _
   refine at_then ?_
   by_cases h1919 : x1912 = true
   ·replace hr := ipos h1919 hr
    refine at_true rfl h1919 (s_sr (s_mv rfl (s_mv rfl ?_)))
    replace hr := obind hr
    obtain ⟨x1920, h1921, hr⟩ := hr
    have := (List.getElem?_eq_some_iff.1 h1921).1
    refine at_elem 0 rfl (nat_at' h1921) (fun p1922 ec pa1923 => ?_)
    refine at_open (A := Unit) 0 rfl _ _ (fun F w h => op83 h) ?_
    rintro _ rfl
    refine at_lt (lt_idx rfl rfl pa1923 und48 ti83) rfl (at_lt (lt_fieldAddr 0 rfl fld83_0 rfl) rfl (at_lt (lt_load_peek 1 rfl ti5 rfl rfl rfl rfl rfl) rfl (s_as rfl (s_nt (at_ret ?_)))))
    have hq := oinj hr
    clear hr
    subst hq
    have hq := oinj hk1896
    clear hk1896
    subst hq
    refine at_in_ret (at_then_ret (at_then_ret (at_in_ret (at_then_ret (at_then_ret ?_)))))
    exact at_return (.int .u8 (x1920.From.toNat : Int)) [] hS Tryz.results40 (.cons (.tmp rfl) .nil) rfl rfl ⟨rfl, rfl⟩
   replace hr := ineg h1919 hr
   refine at_false rfl (bf h1919) (at_skip (at_in (s_tr (s_mv rfl (at_lt (lt_add rfl rfl (by simp only [lo, hi]; omega)) rfl (s_as rfl (at_nil (at_int .i64 (x1893 + 1 : Int) (by simp only [lo, hi]; omega) ?_))))))))
   exact at_again (σ := Nat) (V := Unit) (lp := fun n s => m40_l1 a0 a1 a2 n s) (S := fun s e => (⟨[(0, w1892), (1, .int .u8 (a1.toNat : Int)), (2, .bool a2), (7, .int .i64 (s : Int))], [], [], [((Ty.int .i64).fact (s : Int) [.int .i64 (s : Int)]), ((Ty.slice ty83).fact a0 [w1892])]⟩ : St)) (x1893 + 1) () hr ⟨⟨rfl, ⟨rfl, ⟨rfl, ⟨rfl, trivial⟩⟩⟩⟩, ⟨[], rfl⟩, ⟨[], rfl⟩, ⟨[0, 1], rfl⟩⟩
  replace hr := ineg h1899 hr
  refine at_false rfl (decide_eq_false (by omega)) ?_
  refine at_exit (at_then_exit (at_then_exit (at_in_exit ?_)))
  have hq := oinj hr
  clear hr
  subst hq
  exact at_leafP ((), ()) rfl ⟨trivial, ⟨[], rfl⟩, ⟨[], rfl⟩, ⟨[], rfl⟩⟩
 rintro ⟨_, _⟩ hp
 replace hr := hk1896
 subst hp
 clear hl1895
 change At _ _ (⟨[], [], [], []⟩ : St) _
 refine s_tsr (s_as rfl (s_nt (at_ret ?_)))
 have hq := oinj hr
 clear hr
 subst hq
 exact at_return (.int .u8 0) [] hS Tryz.results40 (.cons (.tmp rfl) .nil) rfl rfl ⟨rfl, rfl⟩
def m103_l1 (a0 : (List D_ref16_Pair)) : Nat → Nat → Option (Fl Int Unit)
  | 0, _ => none
  | k + 1, x1925 =>
    if x1925 < a0.length then
     (a0[x1925]?).bind fun x1932 =>
     (m40 a0 x1932.To true).bind fun x1936 =>
     (a0[x1925]?).bind fun x1938 =>
     if x1936.toNat = x1938.From.toNat then
      m103_l1 a0 k (x1925 + 1)
     else
      some (Fl.ret (x1925 : Int))
    else
     some (Fl.go ())
def m103 (a0 : (List D_ref16_Pair)) : Option Int :=
  (m103_l1 a0 (a0.length + 1) 0).bind fun r => match r with
  | .ret x => some x
  | .go _ =>
   some (-1)
def post103 (r : Int) (v : Value) (fs : List Fact) : Prop := v = .int .i64 r ∧ fs = [((Ty.int .i64).fact r [.int .i64 r])]
theorem en103 : Enters Tryz.prog 103 := ⟨_, Tryz.func103, by kernel_rfl, rfl⟩
theorem f103_spec {a0 : (List D_ref16_Pair)} {w1924 : Value} {r : Int} (hr : m103 a0 = some r) : Spec Tryz.prog 103 [w1924] [((Ty.slice ty83).fact a0 [w1924])] (post103 r) := by
 refine spec_start (N := 24) Tryz.func103 (by kernel_rfl) rfl rfl rfl ?_
 intro g hS
 unfold m103 at hr
 refine s_sr (s_as rfl (s_nt (at_seq (s_sr (s_as rfl (s_nt (at_int .i64 0 (by simp only [lo, hi]; omega) ?_)))))))
 replace hr := obind hr
 obtain ⟨r1926, hl1927, hk1928⟩ := hr
 refine at_cutP (V := (Unit) × (Unit)) (fun v => r1926 = Fl.go v.1) (fun v => (⟨[], [], [], []⟩ : St)) ?_ ?_
 ·refine at_block ?_
  refine at_loopW (σ := Nat) (V := Unit) (r := r1926) (fun n s => m103_l1 a0 n s) (fun s e => (⟨[(0, w1924), (3, .int .i64 (s : Int))], [], [], [((Ty.int .i64).fact (s : Int) [.int .i64 (s : Int)]), ((Ty.slice ty83).fact a0 [w1924])]⟩ : St)) (fun _ => rfl) _ 0 () hl1927 ⟨⟨rfl, ⟨rfl, trivial⟩⟩, ⟨[], rfl⟩, ⟨[], rfl⟩, ⟨[0, 1], rfl⟩⟩ ?_
  clear hl1927
  intro n x1925 hr e
  skip
  skip
  change m103_l1 a0 (n + 1) x1925 = some r1926 at hr
  change At _ _ (⟨[(0, w1924), (3, .int .i64 (x1925 : Int))], [], [], [((Ty.int .i64).fact (x1925 : Int) [.int .i64 (x1925 : Int)]), ((Ty.slice ty83).fact a0 [w1924])]⟩ : St) _
  rw [m103_l1] at hr
  refine at_seq (s_sr (s_mv rfl (s_mv rfl ?_)))
  refine at_inv 1 rfl (fun i1929 => ?_)
  have l1930 := slice_len i1929
  refine at_lt (lt_flen 1 rfl rfl und48) rfl (at_lt (lt_lss rfl rfl) rfl (s_nt ?_))
  by_cases h1931 : x1925 < a0.length
  ·replace hr := ipos h1931 hr
   refine at_true rfl (decide_eq_true (by omega)) ?_
   refine at_skip (at_then (at_seq (at_block (at_seq ?_))))
   replace hr := obind hr
   obtain ⟨x1932, h1933, hr⟩ := hr
   have := (List.getElem?_eq_some_iff.1 h1933).1
   refine at_elem 1 rfl (nat_at' h1933) (fun p1934 ec pa1935 => ?_)
   refine at_open (A := Unit) 0 rfl _ _ (fun F w h => op83 h) ?_
   rintro _ rfl
   replace hr := obind hr
   obtain ⟨x1936, h1937, hr⟩ := hr
   replace hr := obind hr
   obtain ⟨x1938, h1939, hr⟩ := hr
   have := (List.getElem?_eq_some_iff.1 h1939).1
   refine at_elem 3 rfl (nat_at' h1939) (fun p1940 ec pa1941 => ?_)
   refine at_open (A := Unit) 0 rfl _ _ (fun F w h => op83 h) ?_
   rintro _ rfl
   refine aa_start 13 (by kernel_rfl) ?_
   refine aa_p 0 rfl (lt_move rfl) (aa_p 1 rfl (lt_move rfl) (aa_p 2 rfl (lt_move rfl) (aa_p 3 rfl (lt_idx rfl rfl pa1935 und48 ti83) (aa_p 4 rfl (lt_fieldAddr 1 rfl fld83_1 rfl) (aa_l 5 rfl (lt_load_peek 3 rfl ti5 rfl rfl rfl rfl rfl) (aa_p 7 rfl (lt_move rfl) (aa_p 8 rfl (lt_move rfl) (aa_p 9 rfl (lt_idx rfl rfl pa1941 und48 ti83) (aa_p 10 rfl (lt_fieldAddr 0 rfl fld83_0 rfl) ?_)))))))))
   refine aa_l 11 rfl (lt_load_peek 1 rfl ti5 rfl rfl rfl rfl rfl) (aa_one 6 (aa_op rfl rfl (hv_call0 [5] (f40_spec h1937) rfl rfl rfl rfl ?_)))
   rintro _ _ ⟨rfl, rfl⟩
   refine aa_p 12 rfl (lt_neq rfl rfl) ?_
   refine aa_done (by kernel_rfl) (ts_in 0 0 rfl rfl) ?_
   refine at_then ?_
   by_cases h1942 : x1936.toNat = x1938.From.toNat
   ·replace hr := ipos h1942 hr
    refine at_false rfl (nt (decide_eq_true (by omega))) ?_
    refine at_skip (at_in (s_tr (s_mv rfl (at_lt (lt_add rfl rfl (by simp only [lo, hi]; omega)) rfl (s_as rfl (at_nil (at_int .i64 (x1925 + 1 : Int) (by simp only [lo, hi]; omega) ?_)))))))
    exact at_again (σ := Nat) (V := Unit) (lp := fun n s => m103_l1 a0 n s) (S := fun s e => (⟨[(0, w1924), (3, .int .i64 (s : Int))], [], [], [((Ty.int .i64).fact (s : Int) [.int .i64 (s : Int)]), ((Ty.slice ty83).fact a0 [w1924])]⟩ : St)) (x1925 + 1) () hr ⟨⟨rfl, ⟨rfl, trivial⟩⟩, ⟨[], rfl⟩, ⟨[], rfl⟩, ⟨[0, 6], rfl⟩⟩
   replace hr := ineg h1942 hr
   refine at_true rfl (nf (decide_eq_false (by omega))) ?_
   refine s_sr (s_mv rfl (s_as rfl (s_nt (at_ret ?_))))
   have hq := oinj hr
   clear hr
   subst hq
   have hq := oinj hk1928
   clear hk1928
   subst hq
   refine at_in_ret (at_then_ret (at_then_ret (at_in_ret (at_then_ret (at_then_ret ?_)))))
   exact at_return (.int .i64 (x1925 : Int)) [4] hS Tryz.results103 (.cons (.tmp rfl) .nil) rfl rfl ⟨rfl, rfl⟩
  replace hr := ineg h1931 hr
  refine at_false rfl (decide_eq_false (by omega)) ?_
  refine at_exit (at_then_exit (at_then_exit (at_in_exit ?_)))
  have hq := oinj hr
  clear hr
  subst hq
  exact at_leafP ((), ()) rfl ⟨trivial, ⟨[], rfl⟩, ⟨[], rfl⟩, ⟨[], rfl⟩⟩
 rintro ⟨_, _⟩ hp
 replace hr := hk1928
 subst hp
 clear hl1927
 change At _ _ (⟨[], [], [], []⟩ : St) _
 refine s_tsr (s_as rfl (s_nt (at_ret ?_)))
 have hq := oinj hr
 clear hr
 subst hq
 refine at_int .i64 (-1) (by simp only [lo, hi]; omega) ?_
 exact at_return (.int .i64 (-1)) [0] hS Tryz.results103 (.cons (.tmp rfl) .nil) rfl rfl ⟨rfl, rfl⟩
def m65_l1 (a0 : (List D_ref16_Entry)) : Nat → Nat → Option (Fl (Int × Int × Bool) Unit)
  | 0, _ => none
  | k + 1, x1944 =>
    if x1944 < a0.length then
     (a0[x1944]?).bind fun x1951 =>
     (m39 a0 x1951.To true).bind fun x1956 =>
     if x1956 = (x1944 : Int) then
      m65_l1 a0 k (x1944 + 1)
     else
      some (Fl.ret ((x1944 : Int), 0, true))
    else
     some (Fl.go ())
def m65_l2 (a0 : (List D_ref16_Entry)) : Nat → Nat → Option (Fl (Int × Int × Bool) Unit)
  | 0, _ => none
  | k + 1, x1960 =>
    if x1960 < a0.length then
     (a0[x1960]?).bind fun x1967 =>
     (m103 x1967.Codes).bind fun x1972 =>
     if (0 : Int) ≤ x1972 then
      some (Fl.ret ((x1960 : Int), x1972, true))
     else
      m65_l2 a0 k (x1960 + 1)
    else
     some (Fl.go ())
def m65 (a0 : (List D_ref16_Entry)) : Option (Int × Int × Bool) :=
  (m65_l1 a0 (a0.length + 1) 0).bind fun r => match r with
  | .ret x => some x
  | .go _ =>
   (m65_l2 a0 (a0.length + 1) 0).bind fun r => match r with
   | .ret x => some x
   | .go _ =>
    some (0, 0, false)
def post65 (r : (Int × Int × Bool)) (v : Value) (fs : List Fact) : Prop := v = .tuple #[.int .i64 r.1, .int .i64 r.2.1, .bool r.2.2] ∧ fs = [((Ty.int .i64).fact r.1 [.int .i64 r.1]), ((Ty.int .i64).fact r.2.1 [.int .i64 r.2.1])]
theorem en65 : Enters Tryz.prog 65 := ⟨_, Tryz.func65, by kernel_rfl, rfl⟩
theorem f65_spec {a0 : (List D_ref16_Entry)} {w1943 : Value} {r : (Int × Int × Bool)} (hr : m65 a0 = some r) : Spec Tryz.prog 65 [w1943] [((Ty.slice ty50).fact a0 [w1943])] (post65 r) := by
 refine spec_start (N := 40) Tryz.func65 (by kernel_rfl) rfl rfl rfl ?_
 intro g hS
 unfold m65 at hr
 refine s_sr (s_as rfl (s_as rfl (s_as rfl (s_nt (at_seq (s_sr (s_as rfl (s_nt (at_int .i64 0 (by simp only [lo, hi]; omega) ?_)))))))))
 replace hr := obind hr
 obtain ⟨r1945, hl1946, hk1947⟩ := hr
 refine at_cutP (V := (Unit) × (Unit)) (fun v => r1945 = Fl.go v.1) (fun v => (⟨[(0, w1943)], [], [], [((Ty.slice ty50).fact a0 [w1943])]⟩ : St)) ?_ ?_
 ·refine at_block ?_
  refine at_loopW (σ := Nat) (V := Unit) (r := r1945) (fun n s => m65_l1 a0 n s) (fun s e => (⟨[(0, w1943), (5, .int .i64 (s : Int))], [], [], [((Ty.int .i64).fact (s : Int) [.int .i64 (s : Int)]), ((Ty.slice ty50).fact a0 [w1943])]⟩ : St)) (fun _ => rfl) _ 0 () hl1946 ⟨⟨rfl, ⟨rfl, trivial⟩⟩, ⟨[], rfl⟩, ⟨[], rfl⟩, ⟨[0, 1], rfl⟩⟩ ?_
  clear hl1946
  intro n x1944 hr e
  skip
  skip
  change m65_l1 a0 (n + 1) x1944 = some r1945 at hr
  change At _ _ (⟨[(0, w1943), (5, .int .i64 (x1944 : Int))], [], [], [((Ty.int .i64).fact (x1944 : Int) [.int .i64 (x1944 : Int)]), ((Ty.slice ty50).fact a0 [w1943])]⟩ : St) _
  rw [m65_l1] at hr
  refine at_seq (s_sr (s_mv rfl (s_mv rfl ?_)))
  refine at_inv 1 rfl (fun i1948 => ?_)
  have l1949 := slice_len i1948
  refine at_lt (lt_flen 1 rfl rfl und22) rfl (at_lt (lt_lss rfl rfl) rfl (s_nt ?_))
  by_cases h1950 : x1944 < a0.length
  ·replace hr := ipos h1950 hr
   refine at_true rfl (decide_eq_true (by omega)) ?_
   refine at_skip (at_then (at_seq (at_block (s_sr (s_mv rfl (s_mv rfl (s_mv rfl ?_)))))))
   replace hr := obind hr
   obtain ⟨x1951, h1952, hr⟩ := hr
   have := (List.getElem?_eq_some_iff.1 h1952).1
   refine at_elem 1 rfl (nat_at' h1952) (fun p1954 ec pa1955 => ?_)
   refine at_open (A := Value) 0 rfl _ _ (fun F w h => op50 h) ?_
   rintro s1953 rfl
   refine at_lt (lt_idx rfl rfl pa1955 und22 ti50) rfl (at_lt (lt_fieldAddr 1 rfl fld50_1 rfl) rfl (at_lt (lt_load_peek 4 rfl ti9 rfl rfl rfl rfl rfl) rfl ?_))
   replace hr := obind hr
   obtain ⟨x1956, h1957, hr⟩ := hr
   refine at_hv rfl (hv_call0 [6, 1] (f39_spec h1957) rfl rfl rfl rfl ?_)
   rintro _ _ ⟨rfl, rfl⟩
   refine at_inv 0 rfl (fun l1958 => ?_)
   replace l1958 : (-9223372036854775808) ≤ x1956 ∧ x1956 ≤ 9223372036854775807 := l1958
   refine s_mv rfl (at_lt (lt_neq rfl rfl) rfl (s_nt ?_))
   by_cases h1959 : x1956 = (x1944 : Int)
   ·replace hr := ipos h1959 hr
    refine at_false rfl (nt (decide_eq_true (by first | exact h1959 | omega))) ?_
    refine at_skip (at_in (s_tr (s_mv rfl (at_lt (lt_add rfl rfl (by simp only [lo, hi]; omega)) rfl (s_as rfl (at_nil (at_int .i64 (x1944 + 1 : Int) (by simp only [lo, hi]; omega) ?_)))))))
    exact at_again (σ := Nat) (V := Unit) (lp := fun n s => m65_l1 a0 n s) (S := fun s e => (⟨[(0, w1943), (5, .int .i64 (s : Int))], [], [], [((Ty.int .i64).fact (s : Int) [.int .i64 (s : Int)]), ((Ty.slice ty50).fact a0 [w1943])]⟩ : St)) (x1944 + 1) () hr ⟨⟨rfl, ⟨rfl, trivial⟩⟩, ⟨[], rfl⟩, ⟨[], rfl⟩, ⟨[0, 8], rfl⟩⟩
   replace hr := ineg h1959 hr
   refine at_true rfl (nf (decide_eq_false (by first | exact h1959 | omega))) ?_
   refine s_sr (s_mv rfl (s_as rfl (s_as rfl (s_as rfl (s_nt (at_ret ?_))))))
   have hq := oinj hr
   clear hr
   subst hq
   have hq := oinj hk1947
   clear hk1947
   subst hq
   refine at_in_ret (at_then_ret (at_then_ret (at_in_ret (at_then_ret (at_then_ret (at_int .i64 0 (by simp only [lo, hi]; omega) ?_))))))
   exact at_return (.tuple #[.int .i64 (x1944 : Int), .int .i64 0, .bool true]) [7, 0] hS Tryz.results65 (.cons (.tmp rfl) (.cons (.tmp rfl) (.cons (.tmp rfl) .nil))) rfl rfl ⟨rfl, rfl⟩
  replace hr := ineg h1950 hr
  refine at_false rfl (decide_eq_false (by omega)) ?_
  refine at_exit (at_then_exit (at_then_exit (at_in_exit ?_)))
  have hq := oinj hr
  clear hr
  subst hq
  exact at_leafP ((), ()) rfl ⟨⟨rfl, trivial⟩, ⟨[], rfl⟩, ⟨[], rfl⟩, ⟨[1], rfl⟩⟩
 rintro ⟨_, _⟩ hp
 replace hr := hk1947
 subst hp
 clear hl1946
 change At _ _ (⟨[(0, w1943)], [], [], [((Ty.slice ty50).fact a0 [w1943])]⟩ : St) _
 refine at_then (at_seq (s_sr (s_as rfl (s_nt (at_int .i64 0 (by simp only [lo, hi]; omega) ?_)))))
 replace hr := obind hr
 obtain ⟨r1961, hl1962, hk1963⟩ := hr
 refine at_cutP (V := (Unit) × (Unit)) (fun v => r1961 = Fl.go v.1) (fun v => (⟨[], [], [], []⟩ : St)) ?_ ?_
 ·refine at_block ?_
  refine at_loopW (σ := Nat) (V := Unit) (r := r1961) (fun n s => m65_l2 a0 n s) (fun s e => (⟨[(0, w1943), (6, .int .i64 (s : Int))], [], [], [((Ty.int .i64).fact (s : Int) [.int .i64 (s : Int)]), ((Ty.slice ty50).fact a0 [w1943])]⟩ : St)) (fun _ => rfl) _ 0 () hl1962 ⟨⟨rfl, ⟨rfl, trivial⟩⟩, ⟨[], rfl⟩, ⟨[], rfl⟩, ⟨[0, 1], rfl⟩⟩ ?_
  clear hl1962
  intro n x1960 hr e
  skip
  skip
  change m65_l2 a0 (n + 1) x1960 = some r1961 at hr
  change At _ _ (⟨[(0, w1943), (6, .int .i64 (x1960 : Int))], [], [], [((Ty.int .i64).fact (x1960 : Int) [.int .i64 (x1960 : Int)]), ((Ty.slice ty50).fact a0 [w1943])]⟩ : St) _
  rw [m65_l2] at hr
  refine at_seq (s_sr (s_mv rfl (s_mv rfl ?_)))
  refine at_inv 1 rfl (fun i1964 => ?_)
  have l1965 := slice_len i1964
  refine at_lt (lt_flen 1 rfl rfl und22) rfl (at_lt (lt_lss rfl rfl) rfl (s_nt ?_))
  by_cases h1966 : x1960 < a0.length
  ·replace hr := ipos h1966 hr
   refine at_true rfl (decide_eq_true (by omega)) ?_
   refine at_skip (at_then (at_seq (at_block (s_sr (s_mv rfl (s_mv rfl ?_))))))
   replace hr := obind hr
   obtain ⟨x1967, h1968, hr⟩ := hr
   have := (List.getElem?_eq_some_iff.1 h1968).1
   refine at_elem 1 rfl (nat_at' h1968) (fun p1970 ec pa1971 => ?_)
   refine at_open (A := Value) 0 rfl _ _ (fun F w h => op50 h) ?_
   rintro s1969 rfl
   refine at_lt (lt_idx rfl rfl pa1971 und22 ti50) rfl (at_lt (lt_fieldAddr 2 rfl fld50_2 rfl) rfl (at_lt (lt_load_peek 4 rfl ti48 rfl rfl rfl rfl rfl) rfl ?_))
   replace hr := obind hr
   obtain ⟨x1972, h1973, hr⟩ := hr
   refine at_hv rfl (hv_call0 [2] (f103_spec h1973) rfl rfl rfl rfl ?_)
   rintro _ _ ⟨rfl, rfl⟩
   refine at_inv 0 rfl (fun l1974 => ?_)
   replace l1974 : (-9223372036854775808) ≤ x1972 ∧ x1972 ≤ 9223372036854775807 := l1974
   refine s_as rfl (s_ntsr (s_mv rfl (at_lt (lt_geq rfl rfl) rfl (s_nt ?_))))
   by_cases h1975 : (0 : Int) ≤ x1972
   ·replace hr := ipos h1975 hr
    refine at_true rfl (decide_eq_true (by first | exact h1975 | omega)) ?_
    refine s_sr (s_mv rfl (s_mv rfl (s_as rfl (s_as rfl (s_as rfl (s_nt (at_ret ?_)))))))
    have hq := oinj hr
    clear hr
    subst hq
    have hq := oinj hk1963
    clear hk1963
    subst hq
    refine at_in_ret (at_then_ret (at_then_ret (at_in_ret (at_then_ret (at_then_ret ?_)))))
    exact at_return (.tuple #[.int .i64 (x1960 : Int), .int .i64 x1972, .bool true]) [6, 0] hS Tryz.results65 (.cons (.tmp rfl) (.cons (.tmp rfl) (.cons (.tmp rfl) .nil))) rfl rfl ⟨rfl, rfl⟩
   replace hr := ineg h1975 hr
   refine at_false rfl (decide_eq_false (by first | exact h1975 | omega)) ?_
   refine at_skip (at_in (s_tr (s_mv rfl (at_lt (lt_add rfl rfl (by simp only [lo, hi]; omega)) rfl (s_as rfl (at_nil (at_int .i64 (x1960 + 1 : Int) (by simp only [lo, hi]; omega) ?_)))))))
   exact at_again (σ := Nat) (V := Unit) (lp := fun n s => m65_l2 a0 n s) (S := fun s e => (⟨[(0, w1943), (6, .int .i64 (s : Int))], [], [], [((Ty.int .i64).fact (s : Int) [.int .i64 (s : Int)]), ((Ty.slice ty50).fact a0 [w1943])]⟩ : St)) (x1960 + 1) () hr ⟨⟨rfl, ⟨rfl, trivial⟩⟩, ⟨[], rfl⟩, ⟨[], rfl⟩, ⟨[0, 8], rfl⟩⟩
  replace hr := ineg h1966 hr
  refine at_false rfl (decide_eq_false (by omega)) ?_
  refine at_exit (at_then_exit (at_then_exit (at_in_exit ?_)))
  have hq := oinj hr
  clear hr
  subst hq
  exact at_leafP ((), ()) rfl ⟨trivial, ⟨[], rfl⟩, ⟨[], rfl⟩, ⟨[], rfl⟩⟩
 rintro ⟨_, _⟩ hp
 replace hr := hk1963
 subst hp
 clear hl1962
 change At _ _ (⟨[], [], [], []⟩ : St) _
 refine s_tsr (s_as rfl (s_as rfl (s_as rfl (s_nt (at_ret ?_)))))
 have hq := oinj hr
 clear hr
 subst hq
 refine at_int .i64 0 (by simp only [lo, hi]; omega) ?_
 exact at_return (.tuple #[.int .i64 0, .int .i64 0, .bool false]) [0, 0] hS Tryz.results65 (.cons (.tmp rfl) (.cons (.tmp rfl) (.cons (.tmp rfl) .nil))) rfl rfl ⟨rfl, rfl⟩
def m32 (a0 : (List D_ref16_Entry)) : Option Bool :=
  (m65 a0).bind fun x1977 =>
  (m24 a0).bind fun x1981 =>
  if x1981 = true then
   some (!x1977.2.2)
  else
   some false
def post32 (r : Bool) (v : Value) (fs : List Fact) : Prop := v = .bool r ∧ fs = []
theorem en32 : Enters Tryz.prog 32 := ⟨_, Tryz.func32, by kernel_rfl, rfl⟩
theorem f32_spec {a0 : (List D_ref16_Entry)} {w1976 : Value} {r : Bool} (hr : m32 a0 = some r) : Spec Tryz.prog 32 [w1976] [((Ty.slice ty50).fact a0 [w1976])] (post32 r) := by
 refine spec_start (N := 18) Tryz.func32 (by kernel_rfl) rfl rfl rfl ?_
 intro g hS
 unfold m32 at hr
 refine s_sr (s_as rfl (s_ntsr (s_mv rfl ?_)))
 replace hr := obind hr
 obtain ⟨x1977, h1978, hr⟩ := hr
 refine at_hv rfl (hv_call0 [0] (f65_spec h1978) rfl rfl rfl rfl ?_)
 rintro _ _ ⟨rfl, rfl⟩
 refine at_inv 0 rfl (fun l1979 => ?_)
 replace l1979 : (-9223372036854775808) ≤ x1977.1 ∧ x1977.1 ≤ 9223372036854775807 := l1979
 refine at_inv 1 rfl (fun l1980 => ?_)
 replace l1980 : (-9223372036854775808) ≤ x1977.2.1 ∧ x1977.2.1 ≤ 9223372036854775807 := l1980
 refine s_mv rfl (at_lt (lt_extract rfl rfl) rfl (at_lt (lt_extract rfl rfl) rfl (at_lt (lt_extract rfl rfl) rfl (s_as rfl (s_as rfl (s_as rfl (s_ntsr (s_mv rfl ?_))))))))
 replace hr := obind hr
 obtain ⟨x1981, h1982, hr⟩ := hr
 refine at_hv rfl (hv_call0 [2] (f24_spec h1982) rfl rfl rfl rfl ?_)
 rintro _ _ ⟨rfl, rfl⟩
 refine s_mv rfl ?_
 by_cases h1983 : x1981 = true
 ·replace hr := ipos h1983 hr
  refine at_on rfl rfl h1983 (s_mv rfl (at_on rfl rfl h1983 (at_lt (lt_not rfl) rfl (at_lt (lt_pick true rfl h1983 rfl) rfl (s_as rfl (s_nt (at_ret ?_)))))))
  have hq := oinj hr
  clear hr
  subst hq
  exact at_return (.bool (!x1977.2.2)) [] hS Tryz.results32 (.cons (.tmp rfl) .nil) rfl rfl ⟨rfl, rfl⟩
 replace hr := ineg h1983 hr
 refine at_off rfl rfl (bf h1983) rfl (at_off rfl rfl (bf h1983) rfl (at_lt (lt_pick false rfl (bf h1983) rfl) rfl (s_as rfl (s_nt (at_ret ?_)))))
 have hq := oinj hr
 clear hr
 subst hq
 exact at_return (.bool false) [] hS Tryz.results32 (.cons (.tmp rfl) .nil) rfl rfl ⟨rfl, rfl⟩
def m106 (a0 : UInt8) : Option Bool :=
  some (!decide ((a0.toNat : Int) = (a0.toNat : Int)))
def post106 (r : Bool) (v : Value) (fs : List Fact) : Prop := v = .bool r ∧ fs = []
theorem en106 : Enters Tryz.prog 106 := ⟨_, Tryz.func106, by kernel_rfl, rfl⟩
theorem f106_spec {a0 : UInt8} {r : Bool} (hr : m106 a0 = some r) : Spec Tryz.prog 106 [.int .u8 (a0.toNat : Int)] [] (post106 r) := by
 refine spec_start (N := 6) Tryz.func106 (by kernel_rfl) rfl rfl rfl ?_
 intro g hS
 unfold m106 at hr
 refine s_sr (s_as rfl (s_ntsr (s_mv rfl (s_mv rfl (at_lt (lt_neq rfl rfl) rfl (s_as rfl (s_nt (at_ret ?_))))))))
 have hq := oinj hr
 clear hr
 subst hq
 exact at_return (.bool (!decide ((a0.toNat : Int) = (a0.toNat : Int)))) [] hS Tryz.results106 (.cons (.tmp rfl) .nil) rfl rfl ⟨rfl, rfl⟩
def m68 (a0 : UInt8) (a1 : UInt8) : Option Int :=
  (m106 a0).bind fun x1984 =>
  (m106 a1).bind fun x1986 =>
  if x1984 = true then
   if x1986 = true then
    some 0
   else
    some (-1)
  else
   if x1986 = true then
    some 1
   else
    if a0.toNat < a1.toNat then
     some (-1)
    else
     if a1.toNat < a0.toNat then
      some 1
     else
      some 0
def post68 (r : Int) (v : Value) (fs : List Fact) : Prop := v = .int .i64 r ∧ fs = [((Ty.int .i64).fact r [.int .i64 r])]
theorem en68 : Enters Tryz.prog 68 := ⟨_, Tryz.func68, by kernel_rfl, rfl⟩
theorem f68_spec {a0 : UInt8} {a1 : UInt8} {r : Int} (hr : m68 a0 a1 = some r) : Spec Tryz.prog 68 [.int .u8 (a0.toNat : Int), .int .u8 (a1.toNat : Int)] [] (post68 r) := by
 refine spec_start (N := 20) Tryz.func68 (by kernel_rfl) rfl rfl rfl ?_
 intro g hS
 unfold m68 at hr
 refine s_sr (s_as rfl (s_ntsr (s_mv rfl ?_)))
 replace hr := obind hr
 obtain ⟨x1984, h1985, hr⟩ := hr
 refine at_hv rfl (hv_call0 [] (f106_spec h1985) rfl rfl rfl rfl ?_)
 rintro _ _ ⟨rfl, rfl⟩
 refine s_as rfl (s_ntsr (s_mv rfl ?_))
 replace hr := obind hr
 obtain ⟨x1986, h1987, hr⟩ := hr
 refine at_hv rfl (hv_call0 [] (f106_spec h1987) rfl rfl rfl rfl ?_)
 rintro _ _ ⟨rfl, rfl⟩
 refine s_as rfl (s_nt (at_seq (s_sr (s_mv rfl (s_nt ?_)))))
 by_cases h1988 : x1984 = true
 ·replace hr := ipos h1988 hr
  refine at_true rfl h1988 (at_seq (s_sr (s_mv rfl (s_nt ?_))))
  by_cases h1989 : x1986 = true
  ·replace hr := ipos h1989 hr
   refine at_true rfl h1989 (s_sr (s_as rfl (s_nt (at_ret ?_))))
   have hq := oinj hr
   clear hr
   subst hq
   refine at_then_ret (at_then_ret (at_int .i64 0 (by simp only [lo, hi]; omega) ?_))
   exact at_return (.int .i64 0) [0] hS Tryz.results68 (.cons (.tmp rfl) .nil) rfl rfl ⟨rfl, rfl⟩
  replace hr := ineg h1989 hr
  refine at_false rfl (bf h1989) (at_skip (s_tsr (s_as rfl (s_nt (at_ret ?_)))))
  have hq := oinj hr
  clear hr
  subst hq
  refine at_then_ret (at_int .i64 (-1) (by simp only [lo, hi]; omega) ?_)
  exact at_return (.int .i64 (-1)) [0] hS Tryz.results68 (.cons (.tmp rfl) .nil) rfl rfl ⟨rfl, rfl⟩
 replace hr := ineg h1988 hr
 refine at_false rfl (bf h1988) (at_skip (at_then (at_seq (s_sr (s_mv rfl (s_nt ?_))))))
 by_cases h1990 : x1986 = true
 ·replace hr := ipos h1990 hr
  refine at_true rfl h1990 (s_sr (s_as rfl (s_nt (at_ret ?_))))
  have hq := oinj hr
  clear hr
  subst hq
  refine at_then_ret (at_int .i64 1 (by simp only [lo, hi]; omega) ?_)
  exact at_return (.int .i64 1) [0] hS Tryz.results68 (.cons (.tmp rfl) .nil) rfl rfl ⟨rfl, rfl⟩
 replace hr := ineg h1990 hr
 refine at_false rfl (bf h1990) (at_skip (at_then (at_seq (s_sr (s_mv rfl (s_mv rfl (at_lt (lt_lss rfl rfl) rfl (s_nt ?_))))))))
 by_cases h1991 : a0.toNat < a1.toNat
 ·replace hr := ipos h1991 hr
  refine at_true rfl (decide_eq_true (by omega)) ?_
  refine s_sr (s_as rfl (s_nt (at_ret ?_)))
  have hq := oinj hr
  clear hr
  subst hq
  refine at_then_ret (at_int .i64 (-1) (by simp only [lo, hi]; omega) ?_)
  exact at_return (.int .i64 (-1)) [0] hS Tryz.results68 (.cons (.tmp rfl) .nil) rfl rfl ⟨rfl, rfl⟩
 replace hr := ineg h1991 hr
 refine at_false rfl (decide_eq_false (by omega)) ?_
 refine at_skip (at_then (at_seq (s_sr (s_mv rfl (s_mv rfl (at_lt (lt_gtr rfl rfl) rfl (s_nt ?_)))))))
 by_cases h1992 : a1.toNat < a0.toNat
 ·replace hr := ipos h1992 hr
  refine at_true rfl (decide_eq_true (by omega)) ?_
  refine s_sr (s_as rfl (s_nt (at_ret ?_)))
  have hq := oinj hr
  clear hr
  subst hq
  refine at_then_ret (at_int .i64 1 (by simp only [lo, hi]; omega) ?_)
  exact at_return (.int .i64 1) [0] hS Tryz.results68 (.cons (.tmp rfl) .nil) rfl rfl ⟨rfl, rfl⟩
 replace hr := ineg h1992 hr
 refine at_false rfl (decide_eq_false (by omega)) ?_
 refine at_skip (s_tsr (s_as rfl (s_nt (at_ret ?_))))
 have hq := oinj hr
 clear hr
 subst hq
 refine at_int .i64 0 (by simp only [lo, hi]; omega) ?_
 exact at_return (.int .i64 0) [0] hS Tryz.results68 (.cons (.tmp rfl) .nil) rfl rfl ⟨rfl, rfl⟩
def m67 (a0 : D_crosswalk_Pair) (a1 : D_crosswalk_Pair) : Option Int :=
  (m68 a0.From a1.From).bind fun x1995 =>
  some x1995
def post67 (r : Int) (v : Value) (fs : List Fact) : Prop := v = .int .i64 r ∧ fs = [((Ty.int .i64).fact r [.int .i64 r])]
theorem en67 : Enters Tryz.prog 67 := ⟨_, Tryz.func67, by kernel_rfl, rfl⟩
theorem f67_spec {a0 : D_crosswalk_Pair} {a1 : D_crosswalk_Pair} {r : Int} (hr : m67 a0 a1 = some r) : Spec Tryz.prog 67 [.agg #[.int .u8 (a0.From.toNat : Int), .int .u8 (a0.To.toNat : Int)], .agg #[.int .u8 (a1.From.toNat : Int), .int .u8 (a1.To.toNat : Int)]] [(ty82.fact a0 [.int .u8 (a0.From.toNat : Int), .int .u8 (a0.To.toNat : Int)]), (ty82.fact a1 [.int .u8 (a1.From.toNat : Int), .int .u8 (a1.To.toNat : Int)])] (post67 r) := by
 refine spec_start (N := 10) Tryz.func67 (by kernel_rfl) rfl rfl rfl ?_
 intro g hS
 unfold m67 at hr
 refine s_sr (at_hv rfl ?_)
 refine hv_box (cs := [.int .u8 (a0.From.toNat : Int), .int .u8 (a0.To.toNat : Int)]) rfl rfl rfl (fun b1993 => ?_)
 refine at_hv rfl ?_
 refine hv_box (cs := [.int .u8 (a1.From.toNat : Int), .int .u8 (a1.To.toNat : Int)]) rfl rfl rfl (fun b1994 => ?_)
 refine s_as rfl (s_ntsr (at_lt (lt_fieldAddr 0 rfl fld82_0 rfl) rfl (at_lt (lt_load_box 1 rfl ti5 rfl rfl rfl rfl rfl) rfl (at_lt (lt_fieldAddr 0 rfl fld82_0 rfl) rfl (at_lt (lt_load_box 0 rfl ti5 rfl rfl rfl rfl rfl) rfl ?_)))))
 replace hr := obind hr
 obtain ⟨x1995, h1996, hr⟩ := hr
 refine at_hv rfl (hv_call0 [] (f68_spec h1996) rfl rfl rfl rfl ?_)
 rintro _ _ ⟨rfl, rfl⟩
 refine at_inv 0 rfl (fun l1997 => ?_)
 replace l1997 : (-9223372036854775808) ≤ x1995 ∧ x1995 ≤ 9223372036854775807 := l1997
 refine s_as rfl (s_nt (at_ret ?_))
 have hq := oinj hr
 clear hr
 subst hq
 exact at_return (.int .i64 x1995) [0] hS Tryz.results67 (.cons (.tmp rfl) .nil) rfl rfl ⟨rfl, rfl⟩
def m70 (a0 : D_crosswalk_Entry) (a1 : D_crosswalk_Entry) : Option Int :=
  (m71 a0.From a1.From).bind fun x2002 =>
  some x2002
def post70 (r : Int) (v : Value) (fs : List Fact) : Prop := v = .int .i64 r ∧ fs = [((Ty.int .i64).fact r [.int .i64 r])]
theorem en70 : Enters Tryz.prog 70 := ⟨_, Tryz.func70, by kernel_rfl, rfl⟩
theorem f70_spec {a0 : D_crosswalk_Entry} {a1 : D_crosswalk_Entry} {s1998 : Value} {s1999 : Value} {r : Int} (hr : m70 a0 a1 = some r) : Spec Tryz.prog 70 [.agg #[str a0.From, str a0.To, s1998], .agg #[str a1.From, str a1.To, s1999]] [(ty76.fact a0 [str a0.From, str a0.To, s1998]), (ty76.fact a1 [str a1.From, str a1.To, s1999])] (post70 r) := by
 refine spec_start (N := 10) Tryz.func70 (by kernel_rfl) rfl rfl rfl ?_
 intro g hS
 unfold m70 at hr
 refine at_open (A := Unit) 0 rfl (fun _ => True) (fun _ => [(Ty.str.fact a0.From [str a0.From]), (Ty.str.fact a0.To [str a0.To]), ((Ty.slice ty82).fact a0.Codes [s1998])]) (fun F w h => ⟨(), trivial, ex76 h⟩) (fun _ _ => ?_)
 refine at_open (A := Unit) 4 rfl (fun _ => True) (fun _ => [(Ty.str.fact a1.From [str a1.From]), (Ty.str.fact a1.To [str a1.To]), ((Ty.slice ty82).fact a1.Codes [s1999])]) (fun F w h => ⟨(), trivial, ex76 h⟩) (fun _ _ => ?_)
 refine s_sr (at_hv rfl ?_)
 refine hv_box (cs := [str a0.From, str a0.To, s1998]) rfl rfl rfl (fun b2000 => ?_)
 refine at_hv rfl ?_
 refine hv_box (cs := [str a1.From, str a1.To, s1999]) rfl rfl rfl (fun b2001 => ?_)
 refine s_as rfl (s_ntsr (at_lt (lt_fieldAddr 0 rfl fld76_0 rfl) rfl (at_lt (lt_load_box 1 rfl ti9 rfl rfl rfl rfl rfl) rfl (at_lt (lt_fieldAddr 0 rfl fld76_0 rfl) rfl (at_lt (lt_load_box 0 rfl ti9 rfl rfl rfl rfl rfl) rfl ?_)))))
 replace hr := obind hr
 obtain ⟨x2002, h2003, hr⟩ := hr
 refine at_hv rfl (hv_call0 [3, 0] (f71_spec h2003) rfl rfl rfl rfl ?_)
 rintro _ _ ⟨rfl, rfl⟩
 refine at_inv 0 rfl (fun l2004 => ?_)
 replace l2004 : (-9223372036854775808) ≤ x2002 ∧ x2002 ≤ 9223372036854775807 := l2004
 refine s_as rfl (s_nt (at_ret ?_))
 have hq := oinj hr
 clear hr
 subst hq
 exact at_return (.int .i64 x2002) [0] hS Tryz.results70 (.cons (.tmp rfl) .nil) rfl rfl ⟨rfl, rfl⟩
def m33_l2 (x2026 : D_crosswalk_Entry) : Nat → Nat → (List D_crosswalk_Pair) → Option (List D_crosswalk_Pair)
  | 0, _, _ => none
  | k + 1, x2036, x2037 =>
    if x2036 < x2026.Codes.length then
     (x2026.Codes[x2036]?).bind fun x2048 =>
     if x2037.length + 1 ≤ 70368744177664 then
      m33_l2 x2026 k (x2036 + 1) (x2037 ++ [(⟨x2048.To, x2048.From⟩ : D_crosswalk_Pair)])
     else none
    else
     some x2037
def m33_l1 (a0 : (List D_crosswalk_Entry)) : Nat → (List D_crosswalk_Entry) → Nat → Option (List D_crosswalk_Entry)
  | 0, _, _ => none
  | k + 1, x2014, x2015 =>
    if x2015 < a0.length then
     (a0[x2015]?).bind fun x2026 =>
     (m33_l2 x2026 (x2026.Codes.length + 1) 0 ([] : (List D_crosswalk_Pair))).bind fun x2041 =>
     (m66 x2041 m67).bind fun x2058 =>
     if x2014.length + 1 ≤ 2513169434916 then
      m33_l1 a0 k (x2014 ++ [(⟨x2026.To, x2026.From, x2058⟩ : D_crosswalk_Entry)]) (x2015 + 1)
     else none
    else
     some x2014
def m33 (a0 : (List D_crosswalk_Entry)) : Option ((List D_crosswalk_Entry) × Int) :=
  (m27 a0).bind fun x2006 =>
  if x2006 = true then
   (m17 a0).bind fun x2009 =>
   if x2009 = true then
    (m33_l1 a0 (a0.length + 1) ([] : (List D_crosswalk_Entry)) 0).bind fun x2019 =>
    (m69 x2019 m70).bind fun x2068 =>
    some (x2068, 0)
   else
    some (([] : (List D_crosswalk_Entry)), 16)
  else
   some (([] : (List D_crosswalk_Entry)), 1)
def post33 (r : ((List D_crosswalk_Entry) × Int)) (v : Value) (fs : List Fact) : Prop := ∃ s2073 : Value, v = .tuple #[s2073, .int .i64 r.2] ∧ fs = [((Ty.slice ty76).fact r.1 [s2073]), ((Ty.int .i64).fact r.2 [.int .i64 r.2])]
theorem en33 : Enters Tryz.prog 33 := ⟨_, Tryz.func33, by kernel_rfl, rfl⟩
theorem f33_spec {a0 : (List D_crosswalk_Entry)} {w2005 : Value} {r : ((List D_crosswalk_Entry) × Int)} (hr : m33 a0 = some r) : Spec Tryz.prog 33 [w2005] [((Ty.slice ty76).fact a0 [w2005])] (post33 r) := by
 refine spec_start (N := 58) Tryz.func33 (by kernel_rfl) rfl rfl rfl ?_
 intro g hS
 unfold m33 at hr
 refine s_sr (s_as rfl (s_as rfl (s_nt (at_seq (at_block (s_sr (s_mv rfl ?_)))))))
 replace hr := obind hr
 obtain ⟨x2006, h2007, hr⟩ := hr
 refine at_hv rfl (hv_call0 [0] (f27_spec h2007) rfl rfl rfl rfl ?_)
 rintro _ _ ⟨rfl, rfl⟩
 refine at_lt (lt_not rfl) rfl (s_as rfl (s_nt ?_))
 by_cases h2008 : x2006 = true
 ·replace hr := ipos h2008 hr
  refine at_false rfl (nt h2008) (s_sr (s_mv rfl ?_))
  replace hr := obind hr
  obtain ⟨x2009, h2010, hr⟩ := hr
  refine at_hv rfl (hv_call0 [0] (f17_spec h2010) rfl rfl rfl rfl ?_)
  rintro _ _ ⟨rfl, rfl⟩
  refine at_lt (lt_not rfl) rfl (s_as rfl (s_nt ?_))
  by_cases h2011 : x2009 = true
  ·replace hr := ipos h2011 hr
   refine at_false rfl (nt h2011) (at_skip (at_in (s_tsr (s_as rfl (s_nt (at_seq (s_sr (s_mv rfl ?_))))))))
   refine at_inv 0 rfl (fun i2012 => ?_)
   have l2013 := slice_len i2012
   refine at_lt (lt_flen 0 rfl rfl und34) rfl (s_mv rfl (s_nt (at_rownew none 76 3 (at_rownil ty76 ?_))))
   refine at_mkpure (q := (([] : (List D_crosswalk_Entry)).length * ty76.bytes ≤ 140737488355328)) (by simp only [List.nil_append, List.cons_append, List.length_cons, List.length_nil, ty76_bytes] <;> omega) ?_
   refine at_int .i64 0 (by simp only [lo, hi]; omega) ?_
   replace hr := obind hr
   obtain ⟨x2019, hl2023, hr⟩ := hr
   refine at_cut (V := Value × Nat × (List Value)) (fun e => (⟨[(4, e.1)], [], [⟨e.1, 76, 3, e.2.1, e.2.2⟩], [(ty76.row x2019 e.2.2), (pureF (x2019.length * ty76.bytes ≤ 140737488355328))]⟩ : St)) ?_ ?_
   ·refine at_block ?_
    refine at_loopW (σ := ((List D_crosswalk_Entry) × Nat)) (V := Value × Nat × (List Value)) (r := x2019) (fun n s => m33_l1 a0 n s.1 s.2) (fun s e => (⟨[(4, e.1), (18, w2005), (19, .int .i64 (a0.length : Int)), (20, .int .i64 (s.2 : Int))], [], [⟨e.1, 76, 3, e.2.1, e.2.2⟩], [(ty76.row s.1 e.2.2), (pureF (s.1.length * ty76.bytes ≤ 140737488355328)), ((Ty.int .i64).fact (s.2 : Int) [.int .i64 (s.2 : Int)]), ((Ty.slice ty76).fact a0 [w2005])]⟩ : St)) (fun _ => rfl) _ (([] : (List D_crosswalk_Entry)), 0) ((.slice none 0 0), 0, []) hl2023 ⟨⟨rfl, ⟨rfl, ⟨rfl, ⟨rfl, trivial⟩⟩⟩⟩, ⟨[], rfl⟩, ⟨[true], rfl⟩, ⟨[2, 1, 0, 3], rfl⟩⟩ ?_
    clear hr hl2023
    intro n s hr e
    obtain ⟨x2014, x2015⟩ := s
    obtain ⟨v2016, n2017, i2018⟩ := e
    change m33_l1 a0 (n + 1) x2014 x2015 = some x2019 at hr
    change At _ _ (⟨[(4, v2016), (18, w2005), (19, .int .i64 (a0.length : Int)), (20, .int .i64 (x2015 : Int))], [], [⟨v2016, 76, 3, n2017, i2018⟩], [(ty76.row x2014 i2018), (pureF (x2014.length * ty76.bytes ≤ 140737488355328)), ((Ty.int .i64).fact (x2015 : Int) [.int .i64 (x2015 : Int)]), ((Ty.slice ty76).fact a0 [w2005])]⟩ : St) _
    rw [m33_l1] at hr
    refine s_sr (at_lt (lt_lss rfl rfl) rfl (s_nt (at_seq ?_)))
    by_cases h2025 : x2015 < a0.length
    ·replace hr := ipos h2025 hr
     refine at_true rfl (decide_eq_true (by omega)) ?_
     refine at_skip (at_then (at_seq (at_block (s_sr ?_))))
     replace hr := obind hr
     obtain ⟨x2026, h2027, hr⟩ := hr
     have := (List.getElem?_eq_some_iff.1 h2027).1
     refine at_elem 3 rfl (nat_at' h2027) (fun p2029 ec pa2030 => ?_)
     refine at_open (A := Value) 0 rfl _ _ (fun F w h => op76 h) ?_
     rintro s2028 rfl
     refine at_lt (lt_idx rfl rfl pa2030 und34 ti76) rfl (at_lt (lt_load_peek 4 rfl ti76 rfl rfl rfl rfl rfl) rfl (at_hv rfl ?_))
     refine hv_alloc (cs := [str ([] : Str), str ([] : Str), (.slice none 0 0)]) ti76 rfl rfl (fun b2031 => ?_)
     refine at_one 2 rfl (fun ho2032 => ?_)
     refine at_hv rfl (hv_store_box 0 (cs' := [str x2026.From, str x2026.To, s2028]) rfl rfl ti76 rfl rfl rfl rfl (allc rfl (allc rfl (allc ho2032 rfl))) (s_ntsr (at_lt (lt_fieldAddr 1 rfl fld76_1 rfl) rfl (at_lt (lt_load_box 0 rfl ti9 rfl rfl rfl rfl rfl) rfl (at_lt (lt_fieldAddr 0 rfl fld76_0 rfl) rfl (at_lt (lt_load_box 0 rfl ti9 rfl rfl rfl rfl rfl) rfl (at_lt (lt_build (cs := [str x2026.To, str x2026.From, (.slice none 0 0)]) rfl ti76 pl76 rfl) rfl (at_hv rfl ?_))))))))
     refine hv_alloc (cs := [str ([] : Str), str ([] : Str), (.slice none 0 0)]) ti76 rfl rfl (fun b2033 => ?_)
     refine at_hv rfl (hv_store_box 0 (cs' := [str x2026.To, str x2026.From, (.slice none 0 0)]) rfl rfl ti76 rfl rfl rfl rfl rfl (s_nt (at_seq (s_sr (at_lt (lt_fieldAddr 2 rfl fld76_2 rfl) rfl (at_lt (lt_load_box 1 rfl ti74 rfl rfl rfl rfl rfl) rfl ?_))))))
     refine at_inv 2 rfl (fun i2034 => ?_)
     have l2035 := slice_len i2034
     refine at_lt (lt_flen 2 rfl rfl und74) rfl (s_mv rfl (s_nt (at_int .i64 0 (by simp only [lo, hi]; omega) (at_rownew none 82 2 (at_rownil ty82 ?_)))))
     refine at_mkpure (q := (([] : (List D_crosswalk_Pair)).length * ty82.bytes ≤ 140737488355328)) (by simp only [List.nil_append, List.cons_append, List.length_cons, List.length_nil, ty82_bytes] <;> omega) ?_
     replace hr := obind hr
     obtain ⟨x2041, hl2045, hr⟩ := hr
     refine at_cut (V := Value × Nat × (List Value)) (fun e => (⟨[(4, v2016), (7, .pointer (some (Addr.add ⟨b2033, 0, none⟩ 0))), (18, w2005), (19, .int .i64 (a0.length : Int)), (20, .int .i64 (x2015 : Int))], [⟨b2033, [str x2026.To, str x2026.From, e.1], 76⟩], [⟨e.1, 82, 2, e.2.1, e.2.2⟩, ⟨v2016, 76, 3, n2017, i2018⟩], [(ty82.row x2041 e.2.2), (pureF (x2041.length * ty82.bytes ≤ 140737488355328)), (ty76.row x2014 i2018), (pureF (x2014.length * ty76.bytes ≤ 140737488355328)), ((Ty.slice ty76).fact a0 [w2005]), ((Ty.int .i64).fact (x2015 : Int) [.int .i64 (x2015 : Int)]), (Ty.str.fact x2026.To [str x2026.To]), (Ty.str.fact x2026.From [str x2026.From])]⟩ : St)) ?_ ?_
     ·refine at_block ?_
      refine at_loopW (σ := (Nat × (List D_crosswalk_Pair))) (V := Value × Nat × (List Value)) (r := x2041) (fun n s => m33_l2 x2026 n s.1 s.2) (fun s e => (⟨[(4, v2016), (7, .pointer (some (Addr.add ⟨b2033, 0, none⟩ 0))), (18, w2005), (19, .int .i64 (a0.length : Int)), (20, .int .i64 (x2015 : Int)), (30, s2028), (31, .int .i64 (x2026.Codes.length : Int)), (32, .int .i64 (s.1 : Int))], [⟨b2033, [str x2026.To, str x2026.From, e.1], 76⟩], [⟨e.1, 82, 2, e.2.1, e.2.2⟩, ⟨v2016, 76, 3, n2017, i2018⟩], [((Ty.int .i64).fact (s.1 : Int) [.int .i64 (s.1 : Int)]), (ty82.row s.2 e.2.2), (pureF (s.2.length * ty82.bytes ≤ 140737488355328)), (ty76.row x2014 i2018), (pureF (x2014.length * ty76.bytes ≤ 140737488355328)), ((Ty.slice ty76).fact a0 [w2005]), ((Ty.int .i64).fact (x2015 : Int) [.int .i64 (x2015 : Int)]), ((Ty.slice ty82).fact x2026.Codes [s2028]), (Ty.str.fact x2026.To [str x2026.To]), (Ty.str.fact x2026.From [str x2026.From])]⟩ : St)) (fun _ => rfl) _ (0, ([] : (List D_crosswalk_Pair))) ((.slice none 0 0), 0, []) hl2045 ⟨⟨rfl, ⟨rfl, ⟨rfl, ⟨rfl, ⟨rfl, ⟨rfl, ⟨rfl, ⟨rfl, trivial⟩⟩⟩⟩⟩⟩⟩⟩, ⟨[true, false], rfl⟩, ⟨[true, true], rfl⟩, ⟨[2, 1, 0, 8, 9, 11, 10, 5, 4, 3], rfl⟩⟩ ?_
      clear hr hl2045
      intro n s hr e
      obtain ⟨x2036, x2037⟩ := s
      obtain ⟨v2038, n2039, i2040⟩ := e
      change m33_l2 x2026 (n + 1) x2036 x2037 = some x2041 at hr
      change At _ _ (⟨[(4, v2016), (7, .pointer (some (Addr.add ⟨b2033, 0, none⟩ 0))), (18, w2005), (19, .int .i64 (a0.length : Int)), (20, .int .i64 (x2015 : Int)), (30, s2028), (31, .int .i64 (x2026.Codes.length : Int)), (32, .int .i64 (x2036 : Int))], [⟨b2033, [str x2026.To, str x2026.From, v2038], 76⟩], [⟨v2038, 82, 2, n2039, i2040⟩, ⟨v2016, 76, 3, n2017, i2018⟩], [((Ty.int .i64).fact (x2036 : Int) [.int .i64 (x2036 : Int)]), (ty82.row x2037 i2040), (pureF (x2037.length * ty82.bytes ≤ 140737488355328)), (ty76.row x2014 i2018), (pureF (x2014.length * ty76.bytes ≤ 140737488355328)), ((Ty.slice ty76).fact a0 [w2005]), ((Ty.int .i64).fact (x2015 : Int) [.int .i64 (x2015 : Int)]), ((Ty.slice ty82).fact x2026.Codes [s2028]), (Ty.str.fact x2026.To [str x2026.To]), (Ty.str.fact x2026.From [str x2026.From])]⟩ : St) _
      rw [m33_l2] at hr
      refine s_sr (at_lt (lt_lss rfl rfl) rfl (s_nt (at_seq ?_)))
      by_cases h2047 : x2036 < x2026.Codes.length
      ·replace hr := ipos h2047 hr
       refine at_true rfl (decide_eq_true (by omega)) ?_
       refine at_skip (at_then (at_seq (at_block (s_sr ?_))))
       replace hr := obind hr
       obtain ⟨x2048, h2049, hr⟩ := hr
       have := (List.getElem?_eq_some_iff.1 h2049).1
       refine at_elem 7 rfl (nat_at' h2049) (fun p2050 ec pa2051 => ?_)
       refine at_open (A := Unit) 0 rfl _ _ (fun F w h => op82 h) ?_
       rintro _ rfl
       refine at_lt (lt_idx rfl rfl pa2051 und74 ti82) rfl (at_lt (lt_load_peek 1 rfl ti82 rfl rfl rfl rfl rfl) rfl (at_hv rfl ?_))
       refine hv_alloc (cs := [.int .u8 0, .int .u8 0]) ti82 rfl rfl (fun b2052 => ?_)
       refine at_hv rfl (hv_store_box 0 (cs' := [.int .u8 (x2048.From.toNat : Int), .int .u8 (x2048.To.toNat : Int)]) rfl rfl ti82 rfl rfl rfl rfl rfl (at_nil (s_tr (at_lt (lt_fieldAddr 2 rfl fld76_2 rfl) rfl (at_lt (lt_load_box 1 rfl ti74 rfl rfl rfl rfl rfl) rfl (at_lt (lt_fieldAddr 1 rfl fld82_1 rfl) rfl (at_lt (lt_load_box 0 rfl ti5 rfl rfl rfl rfl rfl) rfl (at_lt (lt_fieldAddr 0 rfl fld82_0 rfl) rfl (at_lt (lt_load_box 0 rfl ti5 rfl rfl rfl rfl rfl) rfl ?_)))))))))
       refine at_lt (lt_build (cs := [.int .u8 (x2048.To.toNat : Int), .int .u8 (x2048.From.toNat : Int)]) rfl ti82 pl82 rfl) rfl (at_hv rfl ?_)
       refine hv_bslice (cs := [.int .u8 (x2048.To.toNat : Int), .int .u8 (x2048.From.toNat : Int)]) rfl und74 ti82 rfl rfl rfl rfl rfl (fun s2053 => ?_)
       replace hr := imust hr
       obtain ⟨h2054, hr⟩ := hr
       refine at_derive [] (ty82.fact (⟨x2048.To, x2048.From⟩ : D_crosswalk_Pair) [.int .u8 (x2048.To.toNat : Int), .int .u8 (x2048.From.toNat : Int)]) rfl (fun F w h => mk82 (x := (⟨x2048.To, x2048.From⟩ : D_crosswalk_Pair)) h) ?_
       refine at_rown 1 4 rfl rfl rfl (fun hn2056 => ?_)
       refine at_hv rfl ?_
       refine hv_append 1 0 rfl rfl rfl rfl und74 ti82 rfl rfl rfl (by omega) (by omega) rfl (fun s2055 => ?_)
       refine at_rowsnoc 4 0 rfl rfl (at_lt (lt_fieldAddr 2 rfl fld76_2 rfl) rfl ?_)
       refine at_rowv 1 rfl (fun ho2057 => ?_)
       replace ho2057 := row_one (by obtain ⟨a, c, h⟩ := ho2057; exact ⟨a, _, c, h⟩)
       refine at_hv rfl (hv_store1 1 (cs' := [str x2026.To, str x2026.From, s2055]) rfl rfl ti74 rfl rfl rfl rfl ho2057 (at_nil (at_in (s_tr (at_lt (lt_add rfl rfl (by simp only [lo, hi]; omega)) rfl (s_mv rfl (at_nil (at_int .i64 (x2036 + 1 : Int) (by simp only [lo, hi]; omega) ?_))))))))
       refine at_mkpure (q := ((x2037 ++ [(⟨x2048.To, x2048.From⟩ : D_crosswalk_Pair)]).length * ty82.bytes ≤ 140737488355328)) (by simp only [List.length_append, List.length_cons, List.length_nil, ty82_bytes] <;> omega) ?_
       exact at_again (σ := (Nat × (List D_crosswalk_Pair))) (V := Value × Nat × (List Value)) (lp := fun n s => m33_l2 x2026 n s.1 s.2) (S := fun s e => (⟨[(4, v2016), (7, .pointer (some (Addr.add ⟨b2033, 0, none⟩ 0))), (18, w2005), (19, .int .i64 (a0.length : Int)), (20, .int .i64 (x2015 : Int)), (30, s2028), (31, .int .i64 (x2026.Codes.length : Int)), (32, .int .i64 (s.1 : Int))], [⟨b2033, [str x2026.To, str x2026.From, e.1], 76⟩], [⟨e.1, 82, 2, e.2.1, e.2.2⟩, ⟨v2016, 76, 3, n2017, i2018⟩], [((Ty.int .i64).fact (s.1 : Int) [.int .i64 (s.1 : Int)]), (ty82.row s.2 e.2.2), (pureF (s.2.length * ty82.bytes ≤ 140737488355328)), (ty76.row x2014 i2018), (pureF (x2014.length * ty76.bytes ≤ 140737488355328)), ((Ty.slice ty76).fact a0 [w2005]), ((Ty.int .i64).fact (x2015 : Int) [.int .i64 (x2015 : Int)]), ((Ty.slice ty82).fact x2026.Codes [s2028]), (Ty.str.fact x2026.To [str x2026.To]), (Ty.str.fact x2026.From [str x2026.From])]⟩ : St)) (x2036 + 1, x2037 ++ [(⟨x2048.To, x2048.From⟩ : D_crosswalk_Pair)]) (s2055, n2039 + 1, i2040 ++ [.int .u8 (x2048.To.toNat : Int), .int .u8 (x2048.From.toNat : Int)]) hr ⟨⟨rfl, ⟨rfl, ⟨rfl, ⟨rfl, ⟨rfl, ⟨rfl, ⟨rfl, ⟨rfl, trivial⟩⟩⟩⟩⟩⟩⟩⟩, ⟨[false, true], rfl⟩, ⟨[false, true, true], rfl⟩, ⟨[1, 2, 0, 9, 10, 11, 12, 13, 14, 15], rfl⟩⟩
      replace hr := ineg h2047 hr
      refine at_false rfl (decide_eq_false (by omega)) ?_
      refine at_exit (at_then_exit (at_then_exit (at_in_exit ?_)))
      have hq := oinj hr
      clear hr
      subst hq
      exact at_leaf (v2038, n2039, i2040) ⟨⟨rfl, ⟨rfl, ⟨rfl, ⟨rfl, ⟨rfl, trivial⟩⟩⟩⟩⟩, ⟨[true], rfl⟩, ⟨[true, true], rfl⟩, ⟨[1, 2, 3, 4, 5, 6, 8, 9], rfl⟩⟩
     clear hl2045
     intro e
     obtain ⟨v2042, n2043, i2044⟩ := e
     change At _ _ (⟨[(4, v2016), (7, .pointer (some (Addr.add ⟨b2033, 0, none⟩ 0))), (18, w2005), (19, .int .i64 (a0.length : Int)), (20, .int .i64 (x2015 : Int))], [⟨b2033, [str x2026.To, str x2026.From, v2042], 76⟩], [⟨v2042, 82, 2, n2043, i2044⟩, ⟨v2016, 76, 3, n2017, i2018⟩], [(ty82.row x2041 i2044), (pureF (x2041.length * ty82.bytes ≤ 140737488355328)), (ty76.row x2014 i2018), (pureF (x2014.length * ty76.bytes ≤ 140737488355328)), ((Ty.slice ty76).fact a0 [w2005]), ((Ty.int .i64).fact (x2015 : Int) [.int .i64 (x2015 : Int)]), (Ty.str.fact x2026.To [str x2026.To]), (Ty.str.fact x2026.From [str x2026.From])]⟩ : St) _
     refine s_tsr (at_lt (lt_fieldAddr 2 rfl fld76_2 rfl) rfl (at_lt (lt_load_box 0 rfl ti74 rfl rfl rfl rfl rfl) rfl ?_))
     replace hr := obind hr
     obtain ⟨x2058, h2059, hr⟩ := hr
     refine at_pure 1 rfl (fun hb2060 => ?_)
     refine at_hv rfl (hv_callG0 [true, false] [0, 1] (f66_spec h2059) rfl rfl rfl rfl rfl rfl ?_)
     rintro _ _ _ ⟨rfl, i2061, rfl, rfl⟩
     refine at_nil (s_tr (s_mv rfl (at_lt (lt_load_box 0 rfl ti76 rfl rfl rfl rfl rfl) rfl (at_hv rfl ?_))))
     refine hv_bslice (cs := [str x2026.To, str x2026.From, v2042]) rfl und34 ti76 rfl rfl rfl rfl rfl (fun s2062 => ?_)
     replace hr := imust hr
     obtain ⟨h2063, hr⟩ := hr
     refine at_pure 1 rfl (fun hb2065 => ?_)
     refine at_release 1 0 rfl rfl rfl hb2065 ?_
     refine at_derive [9, 10, 0] (ty76.fact (⟨x2026.To, x2026.From, x2058⟩ : D_crosswalk_Entry) [str x2026.To, str x2026.From, v2042]) rfl (fun F w h => mk76 (x := (⟨x2026.To, x2026.From, x2058⟩ : D_crosswalk_Entry)) h) ?_
     refine at_rown 1 6 rfl rfl rfl (fun hn2066 => ?_)
     refine at_one 1 rfl (fun ho2067 => ?_)
     refine at_hv rfl ?_
     refine hv_append 1 0 rfl rfl rfl rfl und34 ti76 rfl rfl (allc rfl (allc rfl (allc ho2067 rfl))) (by omega) (by omega) rfl (fun s2064 => ?_)
     refine at_rowsnoc 6 0 rfl rfl (s_as rfl (at_nil (at_in (s_tr (at_lt (lt_add rfl rfl (by simp only [lo, hi]; omega)) rfl (s_mv rfl (at_nil ?_)))))))
     refine at_mkpure (q := ((x2014 ++ [(⟨x2026.To, x2026.From, x2058⟩ : D_crosswalk_Entry)]).length * ty76.bytes ≤ 140737488355328)) (by simp only [List.length_append, List.length_cons, List.length_nil, ty76_bytes] <;> omega) ?_
     refine at_int .i64 (x2015 + 1 : Int) (by simp only [lo, hi]; omega) ?_
     exact at_again (σ := ((List D_crosswalk_Entry) × Nat)) (V := Value × Nat × (List Value)) (lp := fun n s => m33_l1 a0 n s.1 s.2) (S := fun s e => (⟨[(4, e.1), (18, w2005), (19, .int .i64 (a0.length : Int)), (20, .int .i64 (s.2 : Int))], [], [⟨e.1, 76, 3, e.2.1, e.2.2⟩], [(ty76.row s.1 e.2.2), (pureF (s.1.length * ty76.bytes ≤ 140737488355328)), ((Ty.int .i64).fact (s.2 : Int) [.int .i64 (s.2 : Int)]), ((Ty.slice ty76).fact a0 [w2005])]⟩ : St)) (x2014 ++ [(⟨x2026.To, x2026.From, x2058⟩ : D_crosswalk_Entry)], x2015 + 1) (s2064, n2017 + 1, i2018 ++ [str x2026.To, str x2026.From, v2042]) hr ⟨⟨rfl, ⟨rfl, ⟨rfl, ⟨rfl, trivial⟩⟩⟩⟩, ⟨[false], rfl⟩, ⟨[false, true], rfl⟩, ⟨[2, 1, 0, 11], rfl⟩⟩
    replace hr := ineg h2025 hr
    refine at_false rfl (decide_eq_false (by omega)) ?_
    refine at_exit (at_then_exit (at_then_exit (at_in_exit ?_)))
    have hq := oinj hr
    clear hr
    subst hq
    exact at_leaf (v2016, n2017, i2018) ⟨⟨rfl, trivial⟩, ⟨[], rfl⟩, ⟨[true], rfl⟩, ⟨[0, 1], rfl⟩⟩
   clear hl2023
   intro e
   obtain ⟨v2020, n2021, i2022⟩ := e
   change At _ _ (⟨[(4, v2020)], [], [⟨v2020, 76, 3, n2021, i2022⟩], [(ty76.row x2019 i2022), (pureF (x2019.length * ty76.bytes ≤ 140737488355328))]⟩ : St) _
   refine s_tsr (s_mv rfl ?_)
   replace hr := obind hr
   obtain ⟨x2068, h2069, hr⟩ := hr
   refine at_pure 1 rfl (fun hb2070 => ?_)
   refine at_hv rfl (hv_callG0 [true] [0, 1] (f69_spec h2069) rfl rfl rfl rfl rfl rfl ?_)
   rintro _ _ _ ⟨rfl, i2071, rfl, rfl⟩
   refine s_ntsr (s_mv rfl (s_as rfl (s_as rfl (s_nt (at_ret ?_)))))
   have hq := oinj hr
   clear hr
   subst hq
   refine at_pure 1 rfl (fun hb2072 => ?_)
   refine at_release 0 0 rfl rfl rfl hb2072 (at_int .i64 0 (by simp only [lo, hi]; omega) ?_)
   exact at_return (.tuple #[v2020, .int .i64 0]) [1, 0] hS Tryz.results33 (.cons (.tmp rfl) (.cons (.tmp rfl) .nil)) rfl rfl ⟨v2020, rfl, rfl⟩
  replace hr := ineg h2011 hr
  refine at_true rfl (nf (bf h2011)) (s_sr (s_as rfl (s_as rfl (s_nt (at_ret ?_)))))
  have hq := oinj hr
  clear hr
  subst hq
  refine at_in_ret (at_then_ret (at_fnil ty76 none (at_int .i64 16 (by simp only [lo, hi]; omega) ?_)))
  exact at_return (.tuple #[(.slice none 0 0), .int .i64 16]) [1, 0] hS Tryz.results33 (.cons (.tmp rfl) (.cons (.tmp rfl) .nil)) rfl rfl ⟨((.slice none 0 0)), rfl, rfl⟩
 replace hr := ineg h2008 hr
 refine at_true rfl (nf (bf h2008)) (s_sr (s_as rfl (s_as rfl (s_nt (at_ret ?_)))))
 have hq := oinj hr
 clear hr
 subst hq
 refine at_in_ret (at_then_ret (at_fnil ty76 none (at_int .i64 1 (by simp only [lo, hi]; omega) ?_)))
 exact at_return (.tuple #[(.slice none 0 0), .int .i64 1]) [1, 0] hS Tryz.results33 (.cons (.tmp rfl) (.cons (.tmp rfl) .nil)) rfl rfl ⟨((.slice none 0 0)), rfl, rfl⟩
def m34 (a0 : (List D_ref16_Entry)) : Option (D_api_Record × Bool) :=
  (m24 a0).bind fun x2076 =>
  if x2076 = true then
   (m65 a0).bind fun x2079 =>
   if x2079.2.2 = true then
    (at? a0 x2079.1).bind fun x2084 =>
    (at? a0 x2079.1).bind fun x2089 =>
    (at? x2089.Codes x2079.2.1).bind fun x2094 =>
    some ((⟨1, [(⟨x2084.From, 32, 32, [(⟨x2094.From, ([120] : Str)⟩ : D_api_Sub)]⟩ : D_api_Field)]⟩ : D_api_Record), true)
   else
    some ((⟨0, ([] : (List D_api_Field))⟩ : D_api_Record), false)
  else
   some ((⟨0, ([] : (List D_api_Field))⟩ : D_api_Record), false)
def post34 (r : (D_api_Record × Bool)) (v : Value) (fs : List Fact) : Prop := ∃ s2106 : Value, v = .tuple #[.agg #[.int .i64 r.1.ID, s2106], .bool r.2] ∧ fs = [(ty25.fact r.1 [.int .i64 r.1.ID, s2106])]
theorem en34 : Enters Tryz.prog 34 := ⟨_, Tryz.func34, by kernel_rfl, rfl⟩
theorem f34_spec {a0 : (List D_ref16_Entry)} {w2074 : Value} {r : (D_api_Record × Bool)} (hr : m34 a0 = some r) : Spec Tryz.prog 34 [w2074] [((Ty.slice ty50).fact a0 [w2074])] (post34 r) := by
 refine spec_start (N := 40) Tryz.func34 (by kernel_rfl) rfl rfl rfl ?_
 intro g hS
 unfold m34 at hr
 refine s_sr (at_hv rfl ?_)
 refine hv_alloc (cs := [.int .i64 0, (.slice none 0 0)]) ti25 rfl rfl (fun b2075 => ?_)
 refine s_as rfl (s_nt (at_seq (s_sr (s_mv rfl ?_))))
 replace hr := obind hr
 obtain ⟨x2076, h2077, hr⟩ := hr
 refine at_hv rfl (hv_call0 [0] (f24_spec h2077) rfl rfl rfl rfl ?_)
 rintro _ _ ⟨rfl, rfl⟩
 refine at_lt (lt_not rfl) rfl (s_nt ?_)
 by_cases h2078 : x2076 = true
 ·replace hr := ipos h2078 hr
  refine at_false rfl (nt h2078) (at_skip (s_tsr (s_mv rfl ?_)))
  replace hr := obind hr
  obtain ⟨x2079, h2080, hr⟩ := hr
  refine at_hv rfl (hv_call0 [0] (f65_spec h2080) rfl rfl rfl rfl ?_)
  rintro _ _ ⟨rfl, rfl⟩
  refine at_inv 0 rfl (fun l2081 => ?_)
  replace l2081 : (-9223372036854775808) ≤ x2079.1 ∧ x2079.1 ≤ 9223372036854775807 := l2081
  refine at_inv 1 rfl (fun l2082 => ?_)
  replace l2082 : (-9223372036854775808) ≤ x2079.2.1 ∧ x2079.2.1 ≤ 9223372036854775807 := l2082
  refine s_mv rfl (at_lt (lt_extract rfl rfl) rfl (at_lt (lt_extract rfl rfl) rfl (at_lt (lt_extract rfl rfl) rfl (s_as rfl (s_as rfl (s_as rfl (s_nt (at_seq (s_sr ?_)))))))))
  refine s_mv rfl (at_lt (lt_not rfl) rfl (s_nt ?_))
  by_cases h2083 : x2079.2.2 = true
  ·replace hr := ipos h2083 hr
   refine at_false rfl (nt h2083) (at_skip (at_then (at_seq ?_)))
   replace hr := obind hr
   obtain ⟨x2084, h2085, hr⟩ := hr
   have := at?_lt h2085
   refine at_elem 2 rfl h2085 (fun p2087 ec pa2088 => ?_)
   refine at_open (A := Value) 0 rfl _ _ (fun F w h => op50 h) ?_
   rintro s2086 rfl
   replace hr := obind hr
   obtain ⟨x2089, h2090, hr⟩ := hr
   have := at?_lt h2090
   refine at_elem 7 rfl h2090 (fun p2092 ec pa2093 => ?_)
   refine at_open (A := Value) 0 rfl _ _ (fun F w h => op50 h) ?_
   rintro s2091 rfl
   replace hr := obind hr
   obtain ⟨x2094, h2095, hr⟩ := hr
   have := at?_lt h2095
   refine at_elem 2 rfl h2095 (fun p2096 ec pa2097 => ?_)
   refine at_open (A := Unit) 0 rfl _ _ (fun F w h => op83 h) ?_
   rintro _ rfl
   refine aa_start 20 (by kernel_rfl) ?_
   refine aa_p 0 rfl (lt_move rfl) (aa_p 1 rfl (lt_move rfl) (aa_p 2 rfl (lt_idx rfl rfl pa2088 und22 ti50) (aa_p 3 rfl (lt_fieldAddr 0 rfl fld50_0 rfl) (aa_l 4 rfl (lt_load_peek 11 rfl ti9 rfl rfl rfl rfl rfl) (aa_p 5 rfl (lt_abuild (cs := [.int .u8 32, .int .u8 32]) rfl ti64 und64 ti5 rfl) (aa_p 6 rfl (lt_move rfl) (aa_p 7 rfl (lt_move rfl) (aa_p 8 rfl (lt_idx rfl rfl pa2093 und22 ti50) (aa_p 9 rfl (lt_fieldAddr 2 rfl fld50_2 rfl) ?_)))))))))
   refine aa_l 10 rfl (lt_load_peek 6 rfl ti48 rfl rfl rfl rfl rfl) (aa_p 11 rfl (lt_move rfl) (aa_p 12 rfl (lt_idx rfl rfl pa2097 und48 ti83) (aa_p 13 rfl (lt_fieldAddr 0 rfl fld83_0 rfl) (aa_l 14 rfl (lt_load_peek 1 rfl ti5 rfl rfl rfl rfl rfl) (aa_p 15 rfl (lt_build (cs := [.int .u8 (x2094.From.toNat : Int), str ([120] : Str)]) rfl ti66 pl66 rfl) (aa_one 16 (aa_op rfl rfl ?_)))))))
   refine hv_bslice (cs := [.int .u8 (x2094.From.toNat : Int), str ([120] : Str)]) rfl und67 ti66 rfl rfl rfl rfl rfl (fun s2102 => ?_)
   refine aa_one 17 ?_
   refine at_rowv 0 rfl (fun ho2103 => ?_)
   replace ho2103 := row_one (by obtain ⟨a, c, h⟩ := ho2103; exact ⟨a, _, c, h⟩)
   refine aa_op rfl rfl ?_
   refine hv_lt (lt_buildc (cs := [str x2084.From, .int .u8 32, .int .u8 32, s2102]) [(0, [str x2084.From]), (1, [.int .u8 32, .int .u8 32]), (2, [s2102])] rfl ti69 pl69 ⟨rfl, rfl, ⟨rfl, rfl, ⟨rfl, cells_one ho2103, trivial⟩⟩⟩ rfl) rfl ?_
   refine aa_one 18 (aa_op rfl rfl ?_)
   refine hv_bslice (cs := [str x2084.From, .int .u8 32, .int .u8 32, s2102]) rfl und23 ti69 rfl rfl rfl rfl rfl (fun s2104 => ?_)
   refine aa_one 19 ?_
   refine at_rowv 0 rfl (fun ho2105 => ?_)
   replace ho2105 := row_one (by obtain ⟨a, c, h⟩ := ho2105; exact ⟨a, _, c, h⟩)
   refine aa_op rfl rfl ?_
   refine hv_lt (lt_buildc (cs := [.int .i64 1, s2104]) [(0, [.int .i64 1]), (1, [s2104])] rfl ti25 pl25 ⟨rfl, rfl, ⟨rfl, cells_one ho2105, trivial⟩⟩ rfl) rfl ?_
   refine aa_one 20 (aa_op rfl rfl (hv_store_box 0 (cs' := [.int .i64 1, s2104]) rfl rfl ti25 rfl rfl rfl rfl (allc rfl (allc ho2105 rfl)) ?_))
   refine aa_all (rs := [21]) (by kernel_rfl) rfl (ts_out rfl) (List.forall_mem_singleton.2 ?_)
   refine aa_op rfl rfl (hv_lt (lt_assign rfl) rfl ?_)
   refine aa_done (by kernel_rfl) (ts_out rfl) ?_
   refine at_then (at_ret ?_)
   have hq := oinj hr
   clear hr
   subst hq
   refine at_int .i64 1 (by simp only [lo, hi]; omega) (at_rownil ty69 (at_rownil ty66 ?_))
   refine at_str ([120] : Str) (by decide) ?_
   refine at_derive [0] (ty66.fact (⟨x2094.From, ([120] : Str)⟩ : D_api_Sub) [.int .u8 (x2094.From.toNat : Int), str ([120] : Str)]) rfl (fun F w h => mk66 (x := (⟨x2094.From, ([120] : Str)⟩ : D_api_Sub)) h) ?_
   refine at_rowsnoc 2 0 rfl rfl ?_
   refine at_release 1 0 rfl rfl rfl (by simp only [List.nil_append, List.cons_append, List.length_cons, List.length_nil, ty66_bytes] <;> omega) ?_
   refine at_derive [14, 0] (ty69.fact (⟨x2084.From, 32, 32, [(⟨x2094.From, ([120] : Str)⟩ : D_api_Sub)]⟩ : D_api_Field) [str x2084.From, .int .u8 32, .int .u8 32, s2102]) rfl (fun F w h => mk69 (x := (⟨x2084.From, 32, 32, [(⟨x2094.From, ([120] : Str)⟩ : D_api_Sub)]⟩ : D_api_Field)) h) ?_
   refine at_rowsnoc 6 0 rfl rfl ?_
   refine at_release 0 0 rfl rfl rfl (by simp only [List.nil_append, List.cons_append, List.length_cons, List.length_nil, ty69_bytes] <;> omega) ?_
   refine at_derive [9, 0] (ty25.fact (⟨1, [(⟨x2084.From, 32, 32, [(⟨x2094.From, ([120] : Str)⟩ : D_api_Sub)]⟩ : D_api_Field)]⟩ : D_api_Record) [.int .i64 1, s2104]) rfl (fun F w h => mk25 (x := (⟨1, [(⟨x2084.From, 32, 32, [(⟨x2094.From, ([120] : Str)⟩ : D_api_Sub)]⟩ : D_api_Field)]⟩ : D_api_Record)) h) ?_
   exact at_return (.tuple #[.agg #[.int .i64 1, s2104], .bool true]) [0] hS Tryz.results34 (.cons (.cell 0 rfl ti25 rfl rfl rfl rfl) (.cons (.tmp rfl) .nil)) rfl rfl ⟨s2104, rfl, rfl⟩
  replace hr := ineg h2083 hr
  refine at_true rfl (nf (bf h2083)) (s_sr (at_lt (lt_build (cs := [.int .i64 0, (.slice none 0 0)]) rfl ti25 pl25 rfl) rfl (at_hv rfl (hv_store_box 0 (cs' := [.int .i64 0, (.slice none 0 0)]) rfl rfl ti25 rfl rfl rfl rfl rfl (s_as rfl (s_nt (at_ret ?_)))))))
  have hq := oinj hr
  clear hr
  subst hq
  refine at_then_ret (at_int .i64 0 (by simp only [lo, hi]; omega) (at_fnil ty69 none ?_))
  refine at_derive [1, 0] (ty25.fact (⟨0, ([] : (List D_api_Field))⟩ : D_api_Record) [.int .i64 0, (.slice none 0 0)]) rfl (fun F w h => mk25 (x := (⟨0, ([] : (List D_api_Field))⟩ : D_api_Record)) h) ?_
  exact at_return (.tuple #[.agg #[.int .i64 0, (.slice none 0 0)], .bool false]) [0] hS Tryz.results34 (.cons (.cell 0 rfl ti25 rfl rfl rfl rfl) (.cons (.tmp rfl) .nil)) rfl rfl ⟨((.slice none 0 0)), rfl, rfl⟩
 replace hr := ineg h2078 hr
 refine at_true rfl (nf (bf h2078)) (s_sr (at_lt (lt_build (cs := [.int .i64 0, (.slice none 0 0)]) rfl ti25 pl25 rfl) rfl (at_hv rfl (hv_store_box 0 (cs' := [.int .i64 0, (.slice none 0 0)]) rfl rfl ti25 rfl rfl rfl rfl rfl (s_as rfl (s_nt (at_ret ?_)))))))
 have hq := oinj hr
 clear hr
 subst hq
 refine at_then_ret (at_int .i64 0 (by simp only [lo, hi]; omega) (at_fnil ty69 none ?_))
 refine at_derive [1, 0] (ty25.fact (⟨0, ([] : (List D_api_Field))⟩ : D_api_Record) [.int .i64 0, (.slice none 0 0)]) rfl (fun F w h => mk25 (x := (⟨0, ([] : (List D_api_Field))⟩ : D_api_Record)) h) ?_
 exact at_return (.tuple #[.agg #[.int .i64 0, (.slice none 0 0)], .bool false]) [0] hS Tryz.results34 (.cons (.cell 0 rfl ti25 rfl rfl rfl rfl) (.cons (.tmp rfl) .nil)) rfl rfl ⟨((.slice none 0 0)), rfl, rfl⟩
def m72_l1 (a0 : (List D_ref16_Entry)) (a1 : D_ref16_Entry) : Nat → Nat → Option Nat
  | 0, _ => none
  | k + 1, x2110 =>
    if x2110 < a0.length then
     (a0[x2110]?).bind fun x2117 =>
     if (Op.bytesLess x2117.From a1.From) = true then
      m72_l1 a0 a1 k (x2110 + 1)
     else
      some x2110
    else
     some x2110
def m72 (a0 : (List D_ref16_Entry)) (a1 : D_ref16_Entry) : Option (List D_ref16_Entry) :=
  (m72_l1 a0 a1 (a0.length + 1) 0).bind fun x2111 =>
  if x2111 ≤ a0.length then
   if (a0.take x2111).length ≤ 2513169434916 then
    if ([] ++ (a0.take x2111)).length + 1 ≤ 2513169434916 then
     if ([] ++ (a0.take x2111) ++ [(⟨a1.From, a1.To, a1.Codes⟩ : D_ref16_Entry)]).length + (a0.drop x2111).length ≤ 2513169434916 then
      some ([] ++ (a0.take x2111) ++ [(⟨a1.From, a1.To, a1.Codes⟩ : D_ref16_Entry)] ++ (a0.drop x2111))
     else none
    else none
   else none
  else none
def post72 (r : (List D_ref16_Entry)) (v : Value) (fs : List Fact) : Prop := ∃ s2174 : Value, v = s2174 ∧ fs = [((Ty.slice ty50).fact r [s2174])]
theorem en72 : Enters Tryz.prog 72 := ⟨_, Tryz.func72, by kernel_rfl, rfl⟩
theorem f72_spec {a0 : (List D_ref16_Entry)} {a1 : D_ref16_Entry} {w2107 : Value} {s2108 : Value} {r : (List D_ref16_Entry)} (hr : m72 a0 a1 = some r) : Spec Tryz.prog 72 [w2107, .agg #[str a1.From, str a1.To, s2108]] [((Ty.slice ty50).fact a0 [w2107]), (ty50.fact a1 [str a1.From, str a1.To, s2108])] (post72 r) := by
 refine spec_start (N := 34) Tryz.func72 (by kernel_rfl) rfl rfl rfl ?_
 intro g hS
 unfold m72 at hr
 refine at_open (A := Unit) 1 rfl (fun _ => True) (fun _ => [(Ty.str.fact a1.From [str a1.From]), (Ty.str.fact a1.To [str a1.To]), ((Ty.slice ty83).fact a1.Codes [s2108])]) (fun F w h => ⟨(), trivial, ex50 h⟩) (fun _ _ => ?_)
 refine s_sr (at_hv rfl ?_)
 refine hv_box (cs := [str a1.From, str a1.To, s2108]) rfl rfl rfl (fun b2109 => ?_)
 refine s_as rfl (s_ntsr (s_as rfl (s_nt (at_seq (at_int .i64 0 (by simp only [lo, hi]; omega) ?_)))))
 replace hr := obind hr
 obtain ⟨x2111, hl2112, hr⟩ := hr
 refine at_cut (V := Unit) (fun e => (⟨[(0, w2107), (3, .pointer (some (Addr.add ⟨b2109, 0, none⟩ 0))), (5, .int .i64 (x2111 : Int))], [⟨b2109, [str a1.From, str a1.To, s2108], 50⟩], [], [((Ty.int .i64).fact (x2111 : Int) [.int .i64 (x2111 : Int)]), ((Ty.slice ty50).fact a0 [w2107]), (Ty.str.fact a1.From [str a1.From]), (Ty.str.fact a1.To [str a1.To]), ((Ty.slice ty83).fact a1.Codes [s2108])]⟩ : St)) ?_ ?_
 ·refine at_block ?_
  refine at_loopW (σ := Nat) (V := Unit) (r := x2111) (fun n s => m72_l1 a0 a1 n s) (fun s e => (⟨[(0, w2107), (3, .pointer (some (Addr.add ⟨b2109, 0, none⟩ 0))), (5, .int .i64 (s : Int))], [⟨b2109, [str a1.From, str a1.To, s2108], 50⟩], [], [((Ty.int .i64).fact (s : Int) [.int .i64 (s : Int)]), ((Ty.slice ty50).fact a0 [w2107]), (Ty.str.fact a1.From [str a1.From]), (Ty.str.fact a1.To [str a1.To]), ((Ty.slice ty83).fact a1.Codes [s2108])]⟩ : St)) (fun _ => rfl) _ 0 () hl2112 ⟨⟨rfl, ⟨rfl, ⟨rfl, trivial⟩⟩⟩, ⟨[true], rfl⟩, ⟨[], rfl⟩, ⟨[0, 4, 1, 2, 3], rfl⟩⟩ ?_
  clear hr hl2112
  intro n x2110 hr e
  skip
  skip
  change m72_l1 a0 a1 (n + 1) x2110 = some x2111 at hr
  change At _ _ (⟨[(0, w2107), (3, .pointer (some (Addr.add ⟨b2109, 0, none⟩ 0))), (5, .int .i64 (x2110 : Int))], [⟨b2109, [str a1.From, str a1.To, s2108], 50⟩], [], [((Ty.int .i64).fact (x2110 : Int) [.int .i64 (x2110 : Int)]), ((Ty.slice ty50).fact a0 [w2107]), (Ty.str.fact a1.From [str a1.From]), (Ty.str.fact a1.To [str a1.To]), ((Ty.slice ty83).fact a1.Codes [s2108])]⟩ : St) _
  rw [m72_l1] at hr
  refine at_seq (at_seq ?_)
  refine at_inv 1 rfl (fun i2114 => ?_)
  have l2115 := slice_len i2114
  by_cases h2116 : x2110 < a0.length
  ·replace hr := ipos h2116 hr
   replace hr := obind hr
   obtain ⟨x2117, h2118, hr⟩ := hr
   have := (List.getElem?_eq_some_iff.1 h2118).1
   refine at_elem 1 rfl (nat_at' h2118) (fun p2120 ec pa2121 => ?_)
   refine at_open (A := Value) 0 rfl _ _ (fun F w h => op50 h) ?_
   rintro s2119 rfl
   refine aa_start 14 (by kernel_rfl) ?_
   refine aa_p 0 rfl (lt_move rfl) (aa_p 1 rfl (lt_move rfl) (aa_l 2 rfl (lt_flen 6 rfl rfl und22) (aa_p 3 rfl (lt_lss rfl rfl) (aa_p 4 rfl (lt_move rfl) ?_))))
   refine aa_pg 5 rfl ⟨10, rfl, .inl ⟨_, rfl, gdq (v := true) (decide_eq_true (by omega)) rfl⟩⟩ (lt_move rfl) ?_
   refine aa_pg 6 rfl ⟨10, rfl, .inl ⟨_, rfl, gdq (v := true) (decide_eq_true (by omega)) rfl⟩⟩ (lt_move rfl) ?_
   refine aa_pg 7 rfl ⟨10, rfl, .inl ⟨_, rfl, gdq (v := true) (decide_eq_true (by omega)) rfl⟩⟩ (lt_idx rfl rfl pa2121 und22 ti50) ?_
   refine aa_pg 8 rfl ⟨10, rfl, .inl ⟨_, rfl, gdq (v := true) (decide_eq_true (by omega)) rfl⟩⟩ (lt_fieldAddr 0 rfl fld50_0 rfl) ?_
   refine aa_lg 9 rfl ⟨10, rfl, .inl ⟨_, rfl, gdq (v := true) (decide_eq_true (by omega)) rfl⟩⟩ (lt_load_peek 4 rfl ti9 rfl rfl rfl rfl rfl) ?_
   refine aa_pg 10 rfl ⟨10, rfl, .inl ⟨_, rfl, gdq (v := true) (decide_eq_true (by omega)) rfl⟩⟩ (lt_fieldAddr 0 rfl fld50_0 rfl) ?_
   refine aa_lg 11 rfl ⟨10, rfl, .inl ⟨_, rfl, gdq (v := true) (decide_eq_true (by omega)) rfl⟩⟩ (lt_load_box 0 rfl ti9 rfl rfl rfl rfl rfl) ?_
   refine aa_pg 12 rfl ⟨10, rfl, .inl ⟨_, rfl, gdq (v := true) (decide_eq_true (by omega)) rfl⟩⟩ (lt_slss rfl rfl) ?_
   refine aa_p 13 rfl (lt_pick true rfl (decide_eq_true (by omega)) rfl) ?_
   refine aa_done (by kernel_rfl) (ts_in 0 0 rfl rfl) ?_
   refine at_then ?_
   by_cases h2122 : (Op.bytesLess x2117.From a1.From) = true
   ·replace hr := ipos h2122 hr
    refine at_true rfl h2122 (at_skip (at_then (at_block (at_region (s_mv rfl (at_lt (lt_add rfl rfl (by simp only [lo, hi]; omega)) rfl (s_as rfl (at_nil (at_in ?_)))))))))
    refine at_int .i64 (x2110 + 1 : Int) (by simp only [lo, hi]; omega) ?_
    exact at_again (σ := Nat) (V := Unit) (lp := fun n s => m72_l1 a0 a1 n s) (S := fun s e => (⟨[(0, w2107), (3, .pointer (some (Addr.add ⟨b2109, 0, none⟩ 0))), (5, .int .i64 (s : Int))], [⟨b2109, [str a1.From, str a1.To, s2108], 50⟩], [], [((Ty.int .i64).fact (s : Int) [.int .i64 (s : Int)]), ((Ty.slice ty50).fact a0 [w2107]), (Ty.str.fact a1.From [str a1.From]), (Ty.str.fact a1.To [str a1.To]), ((Ty.slice ty83).fact a1.Codes [s2108])]⟩ : St)) (x2110 + 1) () hr ⟨⟨rfl, ⟨rfl, ⟨rfl, trivial⟩⟩⟩, ⟨[true], rfl⟩, ⟨[], rfl⟩, ⟨[0, 7, 8, 9, 10], rfl⟩⟩
   replace hr := ineg h2122 hr
   refine at_false rfl (bf h2122) (at_exit (at_then_exit (at_then_exit (at_in_exit ?_))))
   have hq := oinj hr
   clear hr
   subst hq
   exact at_leaf () ⟨⟨rfl, ⟨rfl, ⟨rfl, trivial⟩⟩⟩, ⟨[true], rfl⟩, ⟨[], rfl⟩, ⟨[5, 6, 7, 8, 9], rfl⟩⟩
  replace hr := ineg h2116 hr
  refine aa_start 14 (by kernel_rfl) ?_
  refine aa_p 0 rfl (lt_move rfl) (aa_p 1 rfl (lt_move rfl) (aa_l 2 rfl (lt_flen 1 rfl rfl und22) (aa_p 3 rfl (lt_lss rfl rfl) (aa_p 4 rfl (lt_move rfl) ?_))))
  refine aa_o 5 rfl ⟨10, rfl, .inl ⟨_, rfl, gdq (v := false) (decide_eq_false (by omega)) rfl⟩⟩ ?_
  refine aa_o 6 rfl ⟨10, rfl, .inl ⟨_, rfl, gdq (v := false) (decide_eq_false (by omega)) rfl⟩⟩ ?_
  refine aa_o 7 rfl ⟨10, rfl, .inl ⟨_, rfl, gdq (v := false) (decide_eq_false (by omega)) rfl⟩⟩ ?_
  refine aa_o 8 rfl ⟨10, rfl, .inl ⟨_, rfl, gdq (v := false) (decide_eq_false (by omega)) rfl⟩⟩ ?_
  refine aa_o 9 rfl ⟨10, rfl, .inl ⟨_, rfl, gdq (v := false) (decide_eq_false (by omega)) rfl⟩⟩ ?_
  refine aa_o 10 rfl ⟨10, rfl, .inl ⟨_, rfl, gdq (v := false) (decide_eq_false (by omega)) rfl⟩⟩ ?_
  refine aa_o 11 rfl ⟨10, rfl, .inl ⟨_, rfl, gdq (v := false) (decide_eq_false (by omega)) rfl⟩⟩ ?_
  refine aa_o 12 rfl ⟨10, rfl, .inl ⟨_, rfl, gdq (v := false) (decide_eq_false (by omega)) rfl⟩⟩ ?_
  refine aa_p 13 rfl (lt_pick false rfl (decide_eq_false (by omega)) rfl) ?_
  refine aa_done (by kernel_rfl) (ts_in 0 0 rfl rfl) ?_
  refine at_then (at_false rfl rfl (at_exit (at_then_exit (at_then_exit (at_in_exit ?_)))))
  have hq := oinj hr
  clear hr
  subst hq
  exact at_leaf () ⟨⟨rfl, ⟨rfl, ⟨rfl, trivial⟩⟩⟩, ⟨[true], rfl⟩, ⟨[], rfl⟩, ⟨[0, 1, 2, 3, 4], rfl⟩⟩
 clear hl2112
 intro e
 change At _ _ (⟨[(0, w2107), (3, .pointer (some (Addr.add ⟨b2109, 0, none⟩ 0))), (5, .int .i64 (x2111 : Int))], [⟨b2109, [str a1.From, str a1.To, s2108], 50⟩], [], [((Ty.int .i64).fact (x2111 : Int) [.int .i64 (x2111 : Int)]), ((Ty.slice ty50).fact a0 [w2107]), (Ty.str.fact a1.From [str a1.From]), (Ty.str.fact a1.To [str a1.To]), ((Ty.slice ty83).fact a1.Codes [s2108])]⟩ : St) _
 refine at_then (at_seq ?_)
 replace hr := imust hr
 obtain ⟨h2124, hr⟩ := hr
 refine at_cutf_h 1 x2111 rfl (by omega) (fun s2125 hc2126 => ?_)
 replace hr := imust hr
 obtain ⟨h2127, hr⟩ := hr
 replace hr := imust hr
 obtain ⟨h2132, hr⟩ := hr
 refine at_cutf_l 2 x2111 rfl (by omega) (fun s2136 hc2137 => ?_)
 replace hr := imust hr
 obtain ⟨h2138, hr⟩ := hr
 refine aa_start 13 (by kernel_rfl) ?_
 refine aa_p 1 rfl (lt_move rfl) (aa_p 2 rfl (lt_move rfl) ?_)
 refine aa_p 3 rfl (lt_cut_h x2111 rfl rfl (by omega) und22 ti50 hc2126) ?_
 refine aa_l 5 rfl (lt_load_box 0 rfl ti50 rfl rfl rfl rfl rfl) (aa_p 8 rfl (lt_move rfl) (aa_p 9 rfl (lt_move rfl) ?_))
 refine aa_p 10 rfl (lt_cut_l x2111 rfl rfl (by omega) und22 ti50 (by omega) hc2137) ?_
 refine aa_all (rs := [0, 6]) (by kernel_rfl) rfl (ts_in 0 0 rfl rfl) (List.forall_mem_cons.2 ⟨?_, (List.forall_mem_singleton.2 ?_)⟩)
 ·refine aa_op rfl rfl ?_
  refine hv_bslice (cs := []) rfl und22 ti50 rfl rfl rfl rfl rfl (fun s2142 => ?_)
  refine aa_all (rs := [4, 6]) (by kernel_rfl) rfl (ts_in 0 0 rfl rfl) (List.forall_mem_cons.2 ⟨?_, (List.forall_mem_singleton.2 ?_)⟩)
  ·refine at_rownil ty50 ?_
   refine at_rown 0 0 rfl rfl rfl (fun hn2145 => ?_)
   refine aa_op rfl rfl ?_
   refine hv_append_f 0 2 rfl rfl rfl rfl und22 ti50 rfl rfl (by omega) (by omega) rfl (fun s2143 u2144 => ?_)
   refine at_rowcat 1 0 rfl rfl ?_
   refine aa_all (rs := [6]) (by kernel_rfl) rfl (ts_in 0 3 rfl rfl) (List.forall_mem_singleton.2 ?_)
   refine aa_op rfl rfl ?_
   refine hv_bslice (cs := [str a1.From, str a1.To, s2108]) rfl und22 ti50 rfl rfl rfl rfl rfl (fun s2146 => ?_)
   refine aa_all (rs := [7]) (by kernel_rfl) rfl (ts_in 0 3 rfl rfl) (List.forall_mem_singleton.2 ?_)
   refine at_derive [7, 8, 9] (ty50.fact (⟨a1.From, a1.To, a1.Codes⟩ : D_ref16_Entry) [str a1.From, str a1.To, s2108]) rfl (fun F w h => mk50 (x := (⟨a1.From, a1.To, a1.Codes⟩ : D_ref16_Entry)) h) ?_
   refine at_rown 1 1 rfl rfl rfl (fun hn2148 => ?_)
   refine at_one 10 rfl (fun ho2149 => ?_)
   refine aa_op rfl rfl ?_
   refine hv_append 1 0 rfl rfl rfl rfl und22 ti50 rfl rfl (allc rfl (allc rfl (allc ho2149 rfl))) (by omega) (by omega) rfl (fun s2147 => ?_)
   refine at_rowsnoc 1 0 rfl rfl ?_
   refine aa_all (rs := [11]) (by kernel_rfl) rfl (ts_in 0 5 rfl rfl) (List.forall_mem_singleton.2 ?_)
   refine at_rown 1 0 rfl rfl rfl (fun hn2152 => ?_)
   refine aa_op rfl rfl ?_
   refine hv_append_f 1 5 rfl rfl rfl rfl und22 ti50 rfl rfl (by omega) (by omega) rfl (fun s2150 u2151 => ?_)
   refine at_rowcat 1 0 rfl rfl ?_
   refine aa_pure 12 rfl (by kernel_rfl) rfl rfl (lt_assign rfl) rfl (ts_in 0 7 rfl rfl) ?_
   refine aa_done (by kernel_rfl) (ts_in 0 7 rfl rfl) ?_
   refine at_then (at_ret ?_)
   have hq := oinj hr
   clear hr
   subst hq
   refine at_release 1 0 rfl rfl rfl (by simp only [List.length_append, List.length_cons, List.length_nil, ty50_bytes] <;> omega) ?_
   exact at_return (s2150) [0] hS Tryz.results72 (.cons (.tmp rfl) .nil) rfl rfl ⟨s2150, rfl, rfl⟩
  ·refine aa_op rfl rfl ?_
   refine hv_bslice (cs := [str a1.From, str a1.To, s2108]) rfl und22 ti50 rfl rfl rfl rfl rfl (fun s2153 => ?_)
   refine aa_one 4 (at_rownil ty50 ?_)
   refine at_rown 1 0 rfl rfl rfl (fun hn2156 => ?_)
   refine aa_op rfl rfl ?_
   refine hv_append_f 1 2 rfl rfl rfl rfl und22 ti50 rfl rfl (by omega) (by omega) rfl (fun s2154 u2155 => ?_)
   refine at_rowcat 1 0 rfl rfl ?_
   refine aa_all (rs := [7]) (by kernel_rfl) rfl (ts_in 0 3 rfl rfl) (List.forall_mem_singleton.2 ?_)
   refine at_derive [7, 8, 9] (ty50.fact (⟨a1.From, a1.To, a1.Codes⟩ : D_ref16_Entry) [str a1.From, str a1.To, s2108]) rfl (fun F w h => mk50 (x := (⟨a1.From, a1.To, a1.Codes⟩ : D_ref16_Entry)) h) ?_
   refine at_rown 1 1 rfl rfl rfl (fun hn2158 => ?_)
   refine at_one 10 rfl (fun ho2159 => ?_)
   refine aa_op rfl rfl ?_
   refine hv_append 1 0 rfl rfl rfl rfl und22 ti50 rfl rfl (allc rfl (allc rfl (allc ho2159 rfl))) (by omega) (by omega) rfl (fun s2157 => ?_)
   refine at_rowsnoc 1 0 rfl rfl ?_
   refine aa_all (rs := [11]) (by kernel_rfl) rfl (ts_in 0 5 rfl rfl) (List.forall_mem_singleton.2 ?_)
   refine at_rown 1 0 rfl rfl rfl (fun hn2162 => ?_)
   refine aa_op rfl rfl ?_
   refine hv_append_f 1 5 rfl rfl rfl rfl und22 ti50 rfl rfl (by omega) (by omega) rfl (fun s2160 u2161 => ?_)
   refine at_rowcat 1 0 rfl rfl ?_
   refine aa_pure 12 rfl (by kernel_rfl) rfl rfl (lt_assign rfl) rfl (ts_in 0 7 rfl rfl) ?_
   refine aa_done (by kernel_rfl) (ts_in 0 7 rfl rfl) ?_
   refine at_then (at_ret ?_)
   have hq := oinj hr
   clear hr
   subst hq
   refine at_release 1 0 rfl rfl rfl (by simp only [List.length_append, List.length_cons, List.length_nil, ty50_bytes] <;> omega) ?_
   exact at_return (s2160) [0] hS Tryz.results72 (.cons (.tmp rfl) .nil) rfl rfl ⟨s2160, rfl, rfl⟩
 ·refine aa_op rfl rfl ?_
  refine hv_bslice (cs := [str a1.From, str a1.To, s2108]) rfl und22 ti50 rfl rfl rfl rfl rfl (fun s2163 => ?_)
  refine aa_one 0 (aa_op rfl rfl ?_)
  refine hv_bslice (cs := []) rfl und22 ti50 rfl rfl rfl rfl rfl (fun s2164 => ?_)
  refine aa_one 4 (at_rownil ty50 ?_)
  refine at_rown 0 0 rfl rfl rfl (fun hn2167 => ?_)
  refine aa_op rfl rfl ?_
  refine hv_append_f 0 2 rfl rfl rfl rfl und22 ti50 rfl rfl (by omega) (by omega) rfl (fun s2165 u2166 => ?_)
  refine at_rowcat 1 0 rfl rfl ?_
  refine aa_all (rs := [7]) (by kernel_rfl) rfl (ts_in 0 3 rfl rfl) (List.forall_mem_singleton.2 ?_)
  refine at_derive [7, 8, 9] (ty50.fact (⟨a1.From, a1.To, a1.Codes⟩ : D_ref16_Entry) [str a1.From, str a1.To, s2108]) rfl (fun F w h => mk50 (x := (⟨a1.From, a1.To, a1.Codes⟩ : D_ref16_Entry)) h) ?_
  refine at_rown 0 1 rfl rfl rfl (fun hn2169 => ?_)
  refine at_one 10 rfl (fun ho2170 => ?_)
  refine aa_op rfl rfl ?_
  refine hv_append 0 1 rfl rfl rfl rfl und22 ti50 rfl rfl (allc rfl (allc rfl (allc ho2170 rfl))) (by omega) (by omega) rfl (fun s2168 => ?_)
  refine at_rowsnoc 1 0 rfl rfl ?_
  refine aa_all (rs := [11]) (by kernel_rfl) rfl (ts_in 0 5 rfl rfl) (List.forall_mem_singleton.2 ?_)
  refine at_rown 0 0 rfl rfl rfl (fun hn2173 => ?_)
  refine aa_op rfl rfl ?_
  refine hv_append_f 0 5 rfl rfl rfl rfl und22 ti50 rfl rfl (by omega) (by omega) rfl (fun s2171 u2172 => ?_)
  refine at_rowcat 1 0 rfl rfl ?_
  refine aa_pure 12 rfl (by kernel_rfl) rfl rfl (lt_assign rfl) rfl (ts_in 0 7 rfl rfl) ?_
  refine aa_done (by kernel_rfl) (ts_in 0 7 rfl rfl) ?_
  refine at_then (at_ret ?_)
  have hq := oinj hr
  clear hr
  subst hq
  refine at_release 0 0 rfl rfl rfl (by simp only [List.length_append, List.length_cons, List.length_nil, ty50_bytes] <;> omega) ?_
  exact at_return (s2171) [0] hS Tryz.results72 (.cons (.tmp rfl) .nil) rfl rfl ⟨s2171, rfl, rfl⟩
end Go.WK.S
