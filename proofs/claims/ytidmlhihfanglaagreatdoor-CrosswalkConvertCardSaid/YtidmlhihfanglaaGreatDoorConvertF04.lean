
/- What functions of this program compute: a model of each, and the proof that it is kept. -/
import Derived.Test.YtidmlhihfanglaaGreatDoorConvertF03
import Derived.KernelRfl
set_option linter.unusedSimpArgs false
set_option linter.unusedVariables false
namespace Go.WK.S
open Go Go.Proofs Go.WK Go.RowKit
set_option linter.unusedVariables false
set_option maxRecDepth 100000
set_option maxHeartbeats 4000000
def m48_l1 (a0 : (List D_api_Field)) (a1 : (List D_api_Field)) : Nat → Nat → Option (Fl Bool Unit)
  | 0, _ => none
  | k + 1, x1542 =>
    if x1542 < a0.length then
     (a0[x1542]?).bind fun x1547 =>
     (a1[x1542]?).bind fun x1552 =>
     (m84 x1547 x1552).bind fun x1557 =>
     if x1557 = true then
      m48_l1 a0 a1 k (x1542 + 1)
     else
      some (Fl.ret false)
    else
     some (Fl.go ())
def m48 (a0 : (List D_api_Field)) (a1 : (List D_api_Field)) : Option Bool :=
  if a0.length = a1.length then
   (m48_l1 a0 a1 (a0.length + 1) 0).bind fun r => match r with
   | .ret x => some x
   | .go _ =>
    some true
  else
   some false
def post48 (r : Bool) (v : Value) (fs : List Fact) : Prop := v = .bool r ∧ fs = []
theorem en48 : Enters Tryz.prog 48 := ⟨_, Tryz.func48, by kernel_rfl, rfl⟩
theorem f48_spec {a0 : (List D_api_Field)} {a1 : (List D_api_Field)} {w1535 : Value} {w1536 : Value} {r : Bool} (hr : m48 a0 a1 = some r) : Spec Tryz.prog 48 [w1535, w1536] [((Ty.slice ty69).fact a0 [w1535]), ((Ty.slice ty69).fact a1 [w1536])] (post48 r) := by
 refine spec_start (N := 27) Tryz.func48 (by kernel_rfl) rfl rfl rfl ?_
 intro g hS
 unfold m48 at hr
 refine s_sr (s_as rfl (s_nt (at_seq (s_sr (s_mv rfl ?_)))))
 refine at_inv 0 rfl (fun i1537 => ?_)
 have l1538 := slice_len i1537
 refine at_lt (lt_flen 0 rfl rfl und23) rfl (s_mv rfl ?_)
 refine at_inv 1 rfl (fun i1539 => ?_)
 have l1540 := slice_len i1539
 refine at_lt (lt_flen 1 rfl rfl und23) rfl (at_lt (lt_neq rfl rfl) rfl (s_nt ?_))
 by_cases h1541 : a0.length = a1.length
 ·replace hr := ipos h1541 hr
  refine at_false rfl (nt (decide_eq_true (by omega))) ?_
  refine at_skip (at_then (at_seq (s_sr (s_as rfl (s_nt (at_int .i64 0 (by simp only [lo, hi]; omega) ?_))))))
  replace hr := obind hr
  obtain ⟨r1543, hl1544, hk1545⟩ := hr
  refine at_cutP (V := (Unit) × (Unit)) (fun v => r1543 = Fl.go v.1) (fun v => (⟨[], [], [], []⟩ : St)) ?_ ?_
  ·refine at_block ?_
   refine at_loopW (σ := Nat) (V := Unit) (r := r1543) (fun n s => m48_l1 a0 a1 n s) (fun s e => (⟨[(0, w1535), (1, w1536), (5, .int .i64 (s : Int))], [], [], [((Ty.int .i64).fact (s : Int) [.int .i64 (s : Int)]), ((Ty.slice ty69).fact a0 [w1535]), ((Ty.slice ty69).fact a1 [w1536])]⟩ : St)) (fun _ => rfl) _ 0 () hl1544 ⟨⟨rfl, ⟨rfl, ⟨rfl, trivial⟩⟩⟩, ⟨[], rfl⟩, ⟨[], rfl⟩, ⟨[0, 1, 2], rfl⟩⟩ ?_
   clear hl1544
   intro n x1542 hr e
   skip
   skip
   change m48_l1 a0 a1 (n + 1) x1542 = some r1543 at hr
   change At _ _ (⟨[(0, w1535), (1, w1536), (5, .int .i64 (x1542 : Int))], [], [], [((Ty.int .i64).fact (x1542 : Int) [.int .i64 (x1542 : Int)]), ((Ty.slice ty69).fact a0 [w1535]), ((Ty.slice ty69).fact a1 [w1536])]⟩ : St) _
   rw [m48_l1] at hr
   refine at_seq (s_sr (s_mv rfl (s_mv rfl (at_lt (lt_flen 1 rfl rfl und23) rfl (at_lt (lt_lss rfl rfl) rfl (s_nt ?_))))))
   by_cases h1546 : x1542 < a0.length
   ·replace hr := ipos h1546 hr
    refine at_true rfl (decide_eq_true (by omega)) ?_
    refine at_skip (at_then (at_seq (at_block (at_seq ?_))))
    replace hr := obind hr
    obtain ⟨x1547, h1548, hr⟩ := hr
    have := (List.getElem?_eq_some_iff.1 h1548).1
    refine at_elem 1 rfl (nat_at' h1548) (fun p1550 ec pa1551 => ?_)
    refine at_open (A := Value) 0 rfl _ _ (fun F w h => op69 h) ?_
    rintro s1549 rfl
    replace hr := obind hr
    obtain ⟨x1552, h1553, hr⟩ := hr
    have := (List.getElem?_eq_some_iff.1 h1553).1
    refine at_elem 6 rfl (nat_at' h1553) (fun p1555 ec pa1556 => ?_)
    refine at_open (A := Value) 0 rfl _ _ (fun F w h => op69 h) ?_
    rintro s1554 rfl
    replace hr := obind hr
    obtain ⟨x1557, h1558, hr⟩ := hr
    refine aa_start 10 (by kernel_rfl) ?_
    refine aa_p 0 rfl (lt_move rfl) (aa_p 1 rfl (lt_move rfl) (aa_p 2 rfl (lt_idx rfl rfl pa1551 und23 ti69) (aa_l 3 rfl (lt_load_peek 7 rfl ti69 rfl rfl rfl rfl rfl) (aa_p 4 rfl (lt_move rfl) (aa_p 5 rfl (lt_move rfl) (aa_p 6 rfl (lt_idx rfl rfl pa1556 und23 ti69) (aa_l 7 rfl (lt_load_peek 3 rfl ti69 rfl rfl rfl rfl rfl) (aa_one 8 (aa_op rfl rfl ?_)))))))))
    refine hv_call0 [6, 2] (f84_spec h1558) rfl rfl rfl rfl ?_
    rintro _ _ ⟨rfl, rfl⟩
    refine aa_p 9 rfl (lt_not rfl) ?_
    refine aa_done (by kernel_rfl) (ts_in 0 0 rfl rfl) ?_
    refine at_then ?_
    by_cases h1559 : x1557 = true
    ·replace hr := ipos h1559 hr
     refine at_false rfl (nt h1559) (at_skip (at_in (s_tr (s_mv rfl (at_lt (lt_add rfl rfl (by simp only [lo, hi]; omega)) rfl (s_as rfl (at_nil (at_int .i64 (x1542 + 1 : Int) (by simp only [lo, hi]; omega) ?_))))))))
     exact at_again (σ := Nat) (V := Unit) (lp := fun n s => m48_l1 a0 a1 n s) (S := fun s e => (⟨[(0, w1535), (1, w1536), (5, .int .i64 (s : Int))], [], [], [((Ty.int .i64).fact (s : Int) [.int .i64 (s : Int)]), ((Ty.slice ty69).fact a0 [w1535]), ((Ty.slice ty69).fact a1 [w1536])]⟩ : St)) (x1542 + 1) () hr ⟨⟨rfl, ⟨rfl, ⟨rfl, trivial⟩⟩⟩, ⟨[], rfl⟩, ⟨[], rfl⟩, ⟨[0, 10, 11], rfl⟩⟩
    replace hr := ineg h1559 hr
    refine at_true rfl (nf (bf h1559)) (s_sr (s_as rfl (s_nt (at_ret ?_))))
    have hq := oinj hr
    clear hr
    subst hq
    have hq := oinj hk1545
    clear hk1545
    subst hq
    refine at_in_ret (at_then_ret (at_then_ret (at_in_ret (at_then_ret (at_then_ret ?_)))))
    exact at_return (.bool false) [] hS Tryz.results48 (.cons (.tmp rfl) .nil) rfl rfl ⟨rfl, rfl⟩
   replace hr := ineg h1546 hr
   refine at_false rfl (decide_eq_false (by omega)) ?_
   refine at_exit (at_then_exit (at_then_exit (at_in_exit ?_)))
   have hq := oinj hr
   clear hr
   subst hq
   exact at_leafP ((), ()) rfl ⟨trivial, ⟨[], rfl⟩, ⟨[], rfl⟩, ⟨[], rfl⟩⟩
  rintro ⟨_, _⟩ hp
  replace hr := hk1545
  subst hp
  clear hl1544
  change At _ _ (⟨[], [], [], []⟩ : St) _
  refine s_tsr (s_as rfl (s_nt (at_ret ?_)))
  have hq := oinj hr
  clear hr
  subst hq
  exact at_return (.bool true) [] hS Tryz.results48 (.cons (.tmp rfl) .nil) rfl rfl ⟨rfl, rfl⟩
 replace hr := ineg h1541 hr
 refine at_true rfl (nf (decide_eq_false (by omega))) ?_
 refine s_sr (s_as rfl (s_nt (at_ret ?_)))
 have hq := oinj hr
 clear hr
 subst hq
 refine at_then_ret ?_
 exact at_return (.bool false) [] hS Tryz.results48 (.cons (.tmp rfl) .nil) rfl rfl ⟨rfl, rfl⟩
def m18 (a0 : D_api_Record) (a1 : D_api_Record) : Option Bool :=
  if a0.ID = a1.ID then
   (m48 a0.Fields a1.Fields).bind fun x1567 =>
   some x1567
  else
   some false
def post18 (r : Bool) (v : Value) (fs : List Fact) : Prop := v = .bool r ∧ fs = []
theorem en18 : Enters Tryz.prog 18 := ⟨_, Tryz.func18, by kernel_rfl, rfl⟩
theorem f18_spec {a0 : D_api_Record} {a1 : D_api_Record} {s1560 : Value} {s1561 : Value} {r : Bool} (hr : m18 a0 a1 = some r) : Spec Tryz.prog 18 [.agg #[.int .i64 a0.ID, s1560], .agg #[.int .i64 a1.ID, s1561]] [(ty25.fact a0 [.int .i64 a0.ID, s1560]), (ty25.fact a1 [.int .i64 a1.ID, s1561])] (post18 r) := by
 refine spec_start (N := 17) Tryz.func18 (by kernel_rfl) rfl rfl rfl ?_
 intro g hS
 unfold m18 at hr
 refine at_open (A := Unit) 0 rfl (fun _ => True) (fun _ => [((Ty.int .i64).fact a0.ID [.int .i64 a0.ID]), ((Ty.slice ty69).fact a0.Fields [s1560])]) (fun F w h => ⟨(), trivial, ex25 h⟩) (fun _ _ => ?_)
 refine at_inv 0 rfl (fun l1562 => ?_)
 replace l1562 : (-9223372036854775808) ≤ a0.ID ∧ a0.ID ≤ 9223372036854775807 := l1562
 refine at_open (A := Unit) 3 rfl (fun _ => True) (fun _ => [((Ty.int .i64).fact a1.ID [.int .i64 a1.ID]), ((Ty.slice ty69).fact a1.Fields [s1561])]) (fun F w h => ⟨(), trivial, ex25 h⟩) (fun _ _ => ?_)
 refine at_inv 0 rfl (fun l1563 => ?_)
 replace l1563 : (-9223372036854775808) ≤ a1.ID ∧ a1.ID ≤ 9223372036854775807 := l1563
 refine s_sr (at_hv rfl ?_)
 refine hv_box (cs := [.int .i64 a0.ID, s1560]) rfl rfl rfl (fun b1564 => ?_)
 refine at_hv rfl ?_
 refine hv_box (cs := [.int .i64 a1.ID, s1561]) rfl rfl rfl (fun b1565 => ?_)
 refine s_as rfl (s_ntsr (at_lt (lt_fieldAddr 0 rfl fld25_0 rfl) rfl (at_lt (lt_load_box 1 rfl ti3 rfl rfl rfl rfl rfl) rfl (at_lt (lt_fieldAddr 0 rfl fld25_0 rfl) rfl (at_lt (lt_load_box 0 rfl ti3 rfl rfl rfl rfl rfl) rfl (at_lt (lt_eql rfl rfl) rfl (s_mv rfl ?_)))))))
 by_cases h1566 : a0.ID = a1.ID
 ·replace hr := ipos h1566 hr
  refine at_on rfl rfl (decide_eq_true (by first | exact h1566 | omega)) ?_
  refine at_lt (lt_fieldAddr 1 rfl fld25_1 rfl) rfl ?_
  refine at_on rfl rfl (decide_eq_true (by first | exact h1566 | omega)) ?_
  refine at_lt (lt_load_box 1 rfl ti23 rfl rfl rfl rfl rfl) rfl ?_
  refine at_on rfl rfl (decide_eq_true (by first | exact h1566 | omega)) ?_
  refine at_lt (lt_fieldAddr 1 rfl fld25_1 rfl) rfl ?_
  refine at_on rfl rfl (decide_eq_true (by first | exact h1566 | omega)) ?_
  refine at_lt (lt_load_box 0 rfl ti23 rfl rfl rfl rfl rfl) rfl ?_
  replace hr := obind hr
  obtain ⟨x1567, h1568, hr⟩ := hr
  refine at_on rfl rfl (decide_eq_true (by first | exact h1566 | omega)) ?_
  refine at_hv rfl (hv_call0 [3, 1] (f48_spec h1568) rfl rfl rfl rfl ?_)
  rintro _ _ ⟨rfl, rfl⟩
  refine at_lt (lt_pick true rfl (decide_eq_true (by first | exact h1566 | omega)) rfl) rfl ?_
  refine s_as rfl (s_nt (at_ret ?_))
  have hq := oinj hr
  clear hr
  subst hq
  exact at_return (.bool x1567) [] hS Tryz.results18 (.cons (.tmp rfl) .nil) rfl rfl ⟨rfl, rfl⟩
 replace hr := ineg h1566 hr
 refine at_off rfl rfl (decide_eq_false (by first | exact h1566 | omega)) rfl ?_
 refine at_off rfl rfl (decide_eq_false (by first | exact h1566 | omega)) rfl ?_
 refine at_off rfl rfl (decide_eq_false (by first | exact h1566 | omega)) rfl ?_
 refine at_off rfl rfl (decide_eq_false (by first | exact h1566 | omega)) rfl ?_
 refine at_off rfl rfl (decide_eq_false (by first | exact h1566 | omega)) rfl ?_
 refine at_lt (lt_pick false rfl (decide_eq_false (by first | exact h1566 | omega)) rfl) rfl ?_
 refine s_as rfl (s_nt (at_ret ?_))
 have hq := oinj hr
 clear hr
 subst hq
 exact at_return (.bool false) [] hS Tryz.results18 (.cons (.tmp rfl) .nil) rfl rfl ⟨rfl, rfl⟩
def m115 (a0 : UInt8) : Option Bool :=
  if 48 ≤ a0.toNat then
   some (decide ((a0.toNat : Int) ≤ 57))
  else
   some false
def post115 (r : Bool) (v : Value) (fs : List Fact) : Prop := v = .bool r ∧ fs = []
theorem en115 : Enters Tryz.prog 115 := ⟨_, Tryz.func115, by kernel_rfl, rfl⟩
theorem f115_spec {a0 : UInt8} {r : Bool} (hr : m115 a0 = some r) : Spec Tryz.prog 115 [.int .u8 (a0.toNat : Int)] [] (post115 r) := by
 refine spec_start (N := 9) Tryz.func115 (by kernel_rfl) rfl rfl rfl ?_
 intro g hS
 unfold m115 at hr
 refine s_sr (s_as rfl (s_ntsr (s_mv rfl (at_lt (lt_geq rfl rfl) rfl (s_mv rfl ?_)))))
 by_cases h1569 : 48 ≤ a0.toNat
 ·replace hr := ipos h1569 hr
  refine at_on rfl rfl (decide_eq_true (by omega)) ?_
  refine s_mv rfl ?_
  refine at_on rfl rfl (decide_eq_true (by omega)) ?_
  refine at_lt (lt_leq rfl rfl) rfl ?_
  refine at_lt (lt_pick true rfl (decide_eq_true (by omega)) rfl) rfl ?_
  refine s_as rfl (s_nt (at_ret ?_))
  have hq := oinj hr
  clear hr
  subst hq
  exact at_return (.bool (decide ((a0.toNat : Int) ≤ 57))) [] hS Tryz.results115 (.cons (.tmp rfl) .nil) rfl rfl ⟨rfl, rfl⟩
 replace hr := ineg h1569 hr
 refine at_off rfl rfl (decide_eq_false (by omega)) rfl ?_
 refine at_off rfl rfl (decide_eq_false (by omega)) rfl ?_
 refine at_lt (lt_pick false rfl (decide_eq_false (by omega)) rfl) rfl ?_
 refine s_as rfl (s_nt (at_ret ?_))
 have hq := oinj hr
 clear hr
 subst hq
 exact at_return (.bool false) [] hS Tryz.results115 (.cons (.tmp rfl) .nil) rfl rfl ⟨rfl, rfl⟩
def m87 (a0 : Str) : Option Bool :=
  if a0.length = 3 then
   (a0[0]?).bind fun c1572 =>
   (m115 c1572).bind fun x1574 =>
   if x1574 = true then
    (a0[1]?).bind fun c1577 =>
    (m115 c1577).bind fun x1579 =>
    if x1579 = true then
     (a0[2]?).bind fun c1582 =>
     (m115 c1582).bind fun x1584 =>
     if x1584 = true then
      some (!decide (a0 = ([48, 48, 48] : Str)))
     else
      some false
    else
     some false
   else
    some false
  else
   some false
def post87 (r : Bool) (v : Value) (fs : List Fact) : Prop := v = .bool r ∧ fs = []
theorem en87 : Enters Tryz.prog 87 := ⟨_, Tryz.func87, by kernel_rfl, rfl⟩
theorem f87_spec {a0 : Str} {r : Bool} (hr : m87 a0 = some r) : Spec Tryz.prog 87 [str a0] [(Ty.str.fact a0 [str a0])] (post87 r) := by
 refine spec_start (N := 25) Tryz.func87 (by kernel_rfl) rfl rfl rfl ?_
 intro g hS
 unfold m87 at hr
 refine s_sr (s_as rfl (s_ntsr (s_mv rfl ?_)))
 refine at_inv 0 rfl (fun l1570 => ?_)
 replace l1570 : a0.length ≤ 9223372036854775807 := l1570
 refine at_lt (lt_slen rfl und9) rfl (at_lt (lt_eql rfl rfl) rfl (s_mv rfl ?_))
 by_cases h1571 : a0.length = 3
 ·replace hr := ipos h1571 hr
  refine at_on rfl rfl (decide_eq_true (by omega)) ?_
  refine s_mv rfl ?_
  replace hr := obind hr
  obtain ⟨c1572, h1573, hr⟩ := hr
  have := (List.getElem?_eq_some_iff.1 h1573).1
  have := c1572.toNat_lt
  refine at_on rfl rfl (decide_eq_true (by omega)) ?_
  refine at_lt (lt_sidx rfl rfl und9 (by omega) h1573) rfl ?_
  replace hr := obind hr
  obtain ⟨x1574, h1575, hr⟩ := hr
  refine at_on rfl rfl (decide_eq_true (by omega)) ?_
  refine at_hv rfl (hv_call0 [] (f115_spec h1575) rfl rfl rfl rfl ?_)
  rintro _ _ ⟨rfl, rfl⟩
  refine at_lt (lt_pick true rfl (decide_eq_true (by omega)) rfl) rfl ?_
  refine s_mv rfl ?_
  by_cases h1576 : x1574 = true
  ·replace hr := ipos h1576 hr
   refine at_on rfl rfl h1576 (s_mv rfl ?_)
   replace hr := obind hr
   obtain ⟨c1577, h1578, hr⟩ := hr
   have := (List.getElem?_eq_some_iff.1 h1578).1
   have := c1577.toNat_lt
   refine at_on rfl rfl h1576 ?_
   refine at_lt (lt_sidx rfl rfl und9 (by omega) h1578) rfl ?_
   replace hr := obind hr
   obtain ⟨x1579, h1580, hr⟩ := hr
   refine at_on rfl rfl h1576 (at_hv rfl (hv_call0 [] (f115_spec h1580) rfl rfl rfl rfl ?_))
   rintro _ _ ⟨rfl, rfl⟩
   refine at_lt (lt_pick true rfl h1576 rfl) rfl (s_mv rfl ?_)
   by_cases h1581 : x1579 = true
   ·replace hr := ipos h1581 hr
    refine at_on rfl rfl h1581 (s_mv rfl ?_)
    replace hr := obind hr
    obtain ⟨c1582, h1583, hr⟩ := hr
    have := (List.getElem?_eq_some_iff.1 h1583).1
    have := c1582.toNat_lt
    refine at_on rfl rfl h1581 ?_
    refine at_lt (lt_sidx rfl rfl und9 (by omega) h1583) rfl ?_
    replace hr := obind hr
    obtain ⟨x1584, h1585, hr⟩ := hr
    refine at_on rfl rfl h1581 (at_hv rfl (hv_call0 [] (f115_spec h1585) rfl rfl rfl rfl ?_))
    rintro _ _ ⟨rfl, rfl⟩
    refine at_lt (lt_pick true rfl h1581 rfl) rfl (s_mv rfl ?_)
    by_cases h1586 : x1584 = true
    ·replace hr := ipos h1586 hr
     refine at_on rfl rfl h1586 (s_mv rfl (at_on rfl rfl h1586 (at_lt (lt_sneq rfl rfl) rfl (at_lt (lt_pick true rfl h1586 rfl) rfl (s_as rfl (s_nt (at_ret ?_)))))))
     have hq := oinj hr
     clear hr
     subst hq
     exact at_return (.bool (!decide (a0 = ([48, 48, 48] : Str)))) [] hS Tryz.results87 (.cons (.tmp rfl) .nil) rfl rfl ⟨rfl, rfl⟩
    replace hr := ineg h1586 hr
    refine at_off rfl rfl (bf h1586) rfl (at_off rfl rfl (bf h1586) rfl (at_lt (lt_pick false rfl (bf h1586) rfl) rfl (s_as rfl (s_nt (at_ret ?_)))))
    have hq := oinj hr
    clear hr
    subst hq
    exact at_return (.bool false) [] hS Tryz.results87 (.cons (.tmp rfl) .nil) rfl rfl ⟨rfl, rfl⟩
   replace hr := ineg h1581 hr
   refine at_off rfl rfl (bf h1581) rfl (at_off rfl rfl (bf h1581) rfl (at_off rfl rfl (bf h1581) rfl (at_lt (lt_pick false rfl (bf h1581) rfl) rfl (s_mv rfl (at_off rfl rfl rfl rfl (at_off rfl rfl rfl rfl (at_lt (lt_pick false rfl rfl rfl) rfl (s_as rfl (s_nt ?_)))))))))
   refine at_ret ?_
   have hq := oinj hr
   clear hr
   subst hq
   exact at_return (.bool false) [] hS Tryz.results87 (.cons (.tmp rfl) .nil) rfl rfl ⟨rfl, rfl⟩
  replace hr := ineg h1576 hr
  refine at_off rfl rfl (bf h1576) rfl (at_off rfl rfl (bf h1576) rfl (at_off rfl rfl (bf h1576) rfl (at_lt (lt_pick false rfl (bf h1576) rfl) rfl (s_mv rfl (at_off rfl rfl rfl rfl (at_off rfl rfl rfl rfl (at_off rfl rfl rfl rfl (at_lt (lt_pick false rfl rfl rfl) rfl (s_mv rfl ?_)))))))))
  refine at_off rfl rfl rfl rfl (at_off rfl rfl rfl rfl (at_lt (lt_pick false rfl rfl rfl) rfl (s_as rfl (s_nt (at_ret ?_)))))
  have hq := oinj hr
  clear hr
  subst hq
  exact at_return (.bool false) [] hS Tryz.results87 (.cons (.tmp rfl) .nil) rfl rfl ⟨rfl, rfl⟩
 replace hr := ineg h1571 hr
 refine at_off rfl rfl (decide_eq_false (by omega)) rfl ?_
 refine at_off rfl rfl (decide_eq_false (by omega)) rfl ?_
 refine at_off rfl rfl (decide_eq_false (by omega)) rfl ?_
 refine at_lt (lt_pick false rfl (decide_eq_false (by omega)) rfl) rfl ?_
 refine s_mv rfl (at_off rfl rfl rfl rfl (at_off rfl rfl rfl rfl (at_off rfl rfl rfl rfl (at_lt (lt_pick false rfl rfl rfl) rfl (s_mv rfl (at_off rfl rfl rfl rfl (at_off rfl rfl rfl rfl (at_off rfl rfl rfl rfl (at_lt (lt_pick false rfl rfl rfl) rfl ?_)))))))))
 refine s_mv rfl (at_off rfl rfl rfl rfl (at_off rfl rfl rfl rfl (at_lt (lt_pick false rfl rfl rfl) rfl (s_as rfl (s_nt (at_ret ?_))))))
 have hq := oinj hr
 clear hr
 subst hq
 exact at_return (.bool false) [] hS Tryz.results87 (.cons (.tmp rfl) .nil) rfl rfl ⟨rfl, rfl⟩
def m89 (a0 : UInt8) : Option Bool :=
  (m115 a0).bind fun x1587 =>
  if x1587 = true then
   some true
  else
   if 97 ≤ a0.toNat then
    some (decide ((a0.toNat : Int) ≤ 122))
   else
    some false
def post89 (r : Bool) (v : Value) (fs : List Fact) : Prop := v = .bool r ∧ fs = []
theorem en89 : Enters Tryz.prog 89 := ⟨_, Tryz.func89, by kernel_rfl, rfl⟩
theorem f89_spec {a0 : UInt8} {r : Bool} (hr : m89 a0 = some r) : Spec Tryz.prog 89 [.int .u8 (a0.toNat : Int)] [] (post89 r) := by
 refine spec_start (N := 13) Tryz.func89 (by kernel_rfl) rfl rfl rfl ?_
 intro g hS
 unfold m89 at hr
 refine s_sr (s_as rfl (s_ntsr (s_mv rfl ?_)))
 replace hr := obind hr
 obtain ⟨x1587, h1588, hr⟩ := hr
 refine at_hv rfl (hv_call0 [] (f115_spec h1588) rfl rfl rfl rfl ?_)
 rintro _ _ ⟨rfl, rfl⟩
 refine s_mv rfl ?_
 by_cases h1589 : x1587 = true
 ·replace hr := ipos h1589 hr
  refine at_off rfl rfl h1589 rfl (at_off rfl rfl h1589 rfl (at_off rfl rfl h1589 rfl (at_offu rfl rfl rfl (at_offu rfl rfl rfl (at_off rfl rfl h1589 rfl (at_lt (lt_pick true rfl h1589 rfl) rfl (s_as rfl (s_nt (at_ret ?_)))))))))
  have hq := oinj hr
  clear hr
  subst hq
  exact at_return (.bool true) [] hS Tryz.results89 (.cons (.tmp rfl) .nil) rfl rfl ⟨rfl, rfl⟩
 replace hr := ineg h1589 hr
 refine at_on rfl rfl (bf h1589) (s_mv rfl (at_on rfl rfl (bf h1589) (at_lt (lt_geq rfl rfl) rfl (at_on rfl rfl (bf h1589) (s_mv rfl ?_)))))
 by_cases h1590 : 97 ≤ a0.toNat
 ·replace hr := ipos h1590 hr
  refine at_on rfl rfl (decide_eq_true (by omega)) ?_
  refine s_mv rfl ?_
  refine at_on rfl rfl (decide_eq_true (by omega)) ?_
  refine at_lt (lt_leq rfl rfl) rfl (at_on rfl rfl (bf h1589) ?_)
  refine at_lt (lt_pick true rfl (decide_eq_true (by omega)) rfl) rfl ?_
  refine at_lt (lt_pick false rfl (bf h1589) rfl) rfl (s_as rfl (s_nt (at_ret ?_)))
  have hq := oinj hr
  clear hr
  subst hq
  exact at_return (.bool (decide ((a0.toNat : Int) ≤ 122))) [] hS Tryz.results89 (.cons (.tmp rfl) .nil) rfl rfl ⟨rfl, rfl⟩
 replace hr := ineg h1590 hr
 refine at_off rfl rfl (decide_eq_false (by omega)) rfl ?_
 refine at_off rfl rfl (decide_eq_false (by omega)) rfl ?_
 refine at_on rfl rfl (bf h1589) ?_
 refine at_lt (lt_pick false rfl (decide_eq_false (by omega)) rfl) rfl ?_
 refine at_lt (lt_pick false rfl (bf h1589) rfl) rfl (s_as rfl (s_nt (at_ret ?_)))
 have hq := oinj hr
 clear hr
 subst hq
 exact at_return (.bool false) [] hS Tryz.results89 (.cons (.tmp rfl) .nil) rfl rfl ⟨rfl, rfl⟩
def m88 (a0 : UInt8) : Option Bool :=
  (m89 a0).bind fun x1591 =>
  some x1591
def post88 (r : Bool) (v : Value) (fs : List Fact) : Prop := v = .bool r ∧ fs = []
theorem en88 : Enters Tryz.prog 88 := ⟨_, Tryz.func88, by kernel_rfl, rfl⟩
theorem f88_spec {a0 : UInt8} {r : Bool} (hr : m88 a0 = some r) : Spec Tryz.prog 88 [.int .u8 (a0.toNat : Int)] [] (post88 r) := by
 refine spec_start (N := 5) Tryz.func88 (by kernel_rfl) rfl rfl rfl ?_
 intro g hS
 unfold m88 at hr
 refine s_sr (s_as rfl (s_ntsr (s_mv rfl ?_)))
 replace hr := obind hr
 obtain ⟨x1591, h1592, hr⟩ := hr
 refine at_hv rfl (hv_call0 [] (f89_spec h1592) rfl rfl rfl rfl ?_)
 rintro _ _ ⟨rfl, rfl⟩
 refine s_as rfl (s_nt (at_ret ?_))
 have hq := oinj hr
 clear hr
 subst hq
 exact at_return (.bool x1591) [] hS Tryz.results88 (.cons (.tmp rfl) .nil) rfl rfl ⟨rfl, rfl⟩
def m55_l1 (a0 : D_ref16_Entry) : Nat → Nat → Option (Fl Bool Unit)
  | 0, _ => none
  | k + 1, x1605 =>
    if x1605 < a0.Codes.length then
     (a0.Codes[x1605]?).bind fun x1610 =>
     (m88 x1610.From).bind fun x1615 =>
     if x1615 = true then
      (m88 x1610.To).bind fun x1618 =>
      if x1618 = true then
       if 0 < x1605 then
        (at? a0.Codes ((x1605 : Int) - 1)).bind fun x1622 =>
        if x1610.From.toNat ≤ x1622.From.toNat then
         some (Fl.ret false)
        else
         m55_l1 a0 k (x1605 + 1)
       else
        m55_l1 a0 k (x1605 + 1)
      else
       some (Fl.ret false)
     else
      some (Fl.ret false)
    else
     some (Fl.go ())
def m55 (a0 : D_ref16_Entry) : Option Bool :=
  (m87 a0.From).bind fun x1595 =>
  if x1595 = true then
   (m87 a0.To).bind fun x1598 =>
   if x1598 = true then
    if a0.Codes.length < 1 then
     some false
    else
     if 36 < a0.Codes.length then
      some false
     else
      (m55_l1 a0 (a0.Codes.length + 1) 0).bind fun r => match r with
      | .ret x => some x
      | .go _ =>
       some true
   else
    some false
  else
   some false
def post55 (r : Bool) (v : Value) (fs : List Fact) : Prop := v = .bool r ∧ fs = []
theorem en55 : Enters Tryz.prog 55 := ⟨_, Tryz.func55, by kernel_rfl, rfl⟩
theorem f55_spec {a0 : D_ref16_Entry} {s1593 : Value} {r : Bool} (hr : m55 a0 = some r) : Spec Tryz.prog 55 [.agg #[str a0.From, str a0.To, s1593]] [(ty50.fact a0 [str a0.From, str a0.To, s1593])] (post55 r) := by
 refine spec_start (N := 65) Tryz.func55 (by kernel_rfl) rfl rfl rfl ?_
 intro g hS
 unfold m55 at hr
 refine at_open (A := Unit) 0 rfl (fun _ => True) (fun _ => [(Ty.str.fact a0.From [str a0.From]), (Ty.str.fact a0.To [str a0.To]), ((Ty.slice ty83).fact a0.Codes [s1593])]) (fun F w h => ⟨(), trivial, ex50 h⟩) (fun _ _ => ?_)
 refine s_sr (at_hv rfl ?_)
 refine hv_box (cs := [str a0.From, str a0.To, s1593]) rfl rfl rfl (fun b1594 => ?_)
 refine s_as rfl (s_nt (at_seq (s_sr (at_lt (lt_fieldAddr 0 rfl fld50_0 rfl) rfl (at_lt (lt_load_box 0 rfl ti9 rfl rfl rfl rfl rfl) rfl ?_)))))
 replace hr := obind hr
 obtain ⟨x1595, h1596, hr⟩ := hr
 refine at_hv rfl (hv_call0 [0] (f87_spec h1596) rfl rfl rfl rfl ?_)
 rintro _ _ ⟨rfl, rfl⟩
 refine at_lt (lt_not rfl) rfl (s_mv rfl ?_)
 by_cases h1597 : x1595 = true
 ·replace hr := ipos h1597 hr
  refine at_on rfl rfl (nt h1597) (at_lt (lt_fieldAddr 1 rfl fld50_1 rfl) rfl (at_on rfl rfl (nt h1597) (at_lt (lt_load_box 0 rfl ti9 rfl rfl rfl rfl rfl) rfl ?_)))
  replace hr := obind hr
  obtain ⟨x1598, h1599, hr⟩ := hr
  refine at_on rfl rfl (nt h1597) (at_hv rfl (hv_call0 [1] (f87_spec h1599) rfl rfl rfl rfl ?_))
  rintro _ _ ⟨rfl, rfl⟩
  refine at_on rfl rfl (nt h1597) (at_lt (lt_not rfl) rfl (at_lt (lt_pick false rfl (nt h1597) rfl) rfl (s_mv rfl ?_)))
  by_cases h1600 : x1598 = true
  ·replace hr := ipos h1600 hr
   refine at_on rfl rfl (nt h1600) (at_lt (lt_fieldAddr 2 rfl fld50_2 rfl) rfl (at_on rfl rfl (nt h1600) (at_lt (lt_load_box 0 rfl ti48 rfl rfl rfl rfl rfl) rfl ?_)))
   refine at_inv 2 rfl (fun i1601 => ?_)
   have l1602 := slice_len i1601
   refine at_on rfl rfl (nt h1600) (at_lt (lt_flen 2 rfl rfl und48) rfl (at_on rfl rfl (nt h1600) (at_lt (lt_lss rfl rfl) rfl (at_lt (lt_pick false rfl (nt h1600) rfl) rfl (s_mv rfl ?_)))))
   by_cases h1603 : a0.Codes.length < 1
   ·replace hr := ipos h1603 hr
    refine at_off rfl rfl (decide_eq_true (by omega)) rfl ?_
    refine at_off rfl rfl (decide_eq_true (by omega)) rfl ?_
    refine at_off rfl rfl (decide_eq_true (by omega)) rfl ?_
    refine at_off rfl rfl (decide_eq_true (by omega)) rfl ?_
    refine at_lt (lt_pick true rfl (decide_eq_true (by omega)) rfl) rfl ?_
    refine s_nt (at_true rfl rfl (s_sr (s_as rfl (s_nt (at_ret ?_)))))
    have hq := oinj hr
    clear hr
    subst hq
    refine at_then_ret ?_
    exact at_return (.bool false) [] hS Tryz.results55 (.cons (.tmp rfl) .nil) rfl rfl ⟨rfl, rfl⟩
   replace hr := ineg h1603 hr
   refine at_on rfl rfl (decide_eq_false (by omega)) ?_
   refine at_lt (lt_fieldAddr 2 rfl fld50_2 rfl) rfl ?_
   refine at_on rfl rfl (decide_eq_false (by omega)) ?_
   refine at_lt (lt_load_box 0 rfl ti48 rfl rfl rfl rfl rfl) rfl ?_
   refine at_on rfl rfl (decide_eq_false (by omega)) ?_
   refine at_lt (lt_flen 2 rfl rfl und48) rfl ?_
   refine at_on rfl rfl (decide_eq_false (by omega)) ?_
   refine at_lt (lt_gtr rfl rfl) rfl ?_
   refine at_lt (lt_pick false rfl (decide_eq_false (by omega)) rfl) rfl ?_
   refine s_nt ?_
   by_cases h1604 : 36 < a0.Codes.length
   ·replace hr := ipos h1604 hr
    refine at_true rfl (decide_eq_true (by omega)) ?_
    refine s_sr (s_as rfl (s_nt (at_ret ?_)))
    have hq := oinj hr
    clear hr
    subst hq
    refine at_then_ret ?_
    exact at_return (.bool false) [] hS Tryz.results55 (.cons (.tmp rfl) .nil) rfl rfl ⟨rfl, rfl⟩
   replace hr := ineg h1604 hr
   refine at_false rfl (decide_eq_false (by omega)) ?_
   refine at_skip (at_then (at_seq (s_sr (s_as rfl (s_nt (at_int .i64 0 (by simp only [lo, hi]; omega) ?_))))))
   replace hr := obind hr
   obtain ⟨r1606, hl1607, hk1608⟩ := hr
   refine at_cutP (V := (Unit) × (Unit)) (fun v => r1606 = Fl.go v.1) (fun v => (⟨[], [], [], []⟩ : St)) ?_ ?_
   ·refine at_block ?_
    refine at_loopW (σ := Nat) (V := Unit) (r := r1606) (fun n s => m55_l1 a0 n s) (fun s e => (⟨[(1, .pointer (some (Addr.add ⟨b1594, 0, none⟩ 0))), (3, .int .i64 (s : Int))], [⟨b1594, [str a0.From, str a0.To, s1593], 50⟩], [], [((Ty.int .i64).fact (s : Int) [.int .i64 (s : Int)]), (Ty.str.fact a0.From [str a0.From]), (Ty.str.fact a0.To [str a0.To]), ((Ty.slice ty83).fact a0.Codes [s1593])]⟩ : St)) (fun _ => rfl) _ 0 () hl1607 ⟨⟨rfl, ⟨rfl, trivial⟩⟩, ⟨[true], rfl⟩, ⟨[], rfl⟩, ⟨[0, 1, 2, 3], rfl⟩⟩ ?_
    clear hl1607
    intro n x1605 hr e
    skip
    skip
    change m55_l1 a0 (n + 1) x1605 = some r1606 at hr
    change At _ _ (⟨[(1, .pointer (some (Addr.add ⟨b1594, 0, none⟩ 0))), (3, .int .i64 (x1605 : Int))], [⟨b1594, [str a0.From, str a0.To, s1593], 50⟩], [], [((Ty.int .i64).fact (x1605 : Int) [.int .i64 (x1605 : Int)]), (Ty.str.fact a0.From [str a0.From]), (Ty.str.fact a0.To [str a0.To]), ((Ty.slice ty83).fact a0.Codes [s1593])]⟩ : St) _
    rw [m55_l1] at hr
    refine at_seq (s_sr (s_mv rfl (at_lt (lt_fieldAddr 2 rfl fld50_2 rfl) rfl (at_lt (lt_load_box 0 rfl ti48 rfl rfl rfl rfl rfl) rfl (at_lt (lt_flen 3 rfl rfl und48) rfl (at_lt (lt_lss rfl rfl) rfl (s_nt ?_)))))))
    by_cases h1609 : x1605 < a0.Codes.length
    ·replace hr := ipos h1609 hr
     refine at_true rfl (decide_eq_true (by omega)) ?_
     refine at_skip (at_then (at_seq (at_block (s_sr (at_lt (lt_fieldAddr 2 rfl fld50_2 rfl) rfl (at_lt (lt_load_box 0 rfl ti48 rfl rfl rfl rfl rfl) rfl (s_mv rfl ?_)))))))
     replace hr := obind hr
     obtain ⟨x1610, h1611, hr⟩ := hr
     have := (List.getElem?_eq_some_iff.1 h1611).1
     refine at_elem 3 rfl (nat_at' h1611) (fun p1612 ec pa1613 => ?_)
     refine at_open (A := Unit) 0 rfl _ _ (fun F w h => op83 h) ?_
     rintro _ rfl
     refine at_lt (lt_idx rfl rfl pa1613 und48 ti83) rfl (at_lt (lt_load_peek 1 rfl ti83 rfl rfl rfl rfl rfl) rfl (at_hv rfl ?_))
     refine hv_alloc (cs := [.int .u8 0, .int .u8 0]) ti83 rfl rfl (fun b1614 => ?_)
     refine at_hv rfl (hv_store_box 0 (cs' := [.int .u8 (x1610.From.toNat : Int), .int .u8 (x1610.To.toNat : Int)]) rfl rfl ti83 rfl rfl rfl rfl rfl (s_nt (at_seq ?_)))
     replace hr := obind hr
     obtain ⟨x1615, h1616, hr⟩ := hr
     by_cases h1617 : x1615 = true
     ·replace hr := ipos h1617 hr
      replace hr := obind hr
      obtain ⟨x1618, h1619, hr⟩ := hr
      by_cases h1620 : x1618 = true
      ·replace hr := ipos h1620 hr
       by_cases h1621 : 0 < x1605
       ·replace hr := ipos h1621 hr
        replace hr := obind hr
        obtain ⟨x1622, h1623, hr⟩ := hr
        have := at?_lt h1623
        refine at_elem 5 rfl h1623 (fun p1624 ec pa1625 => ?_)
        refine at_open (A := Unit) 0 rfl _ _ (fun F w h => op83 h) ?_
        rintro _ rfl
        refine aa_start 26 (by kernel_rfl) ?_
        refine aa_p 0 rfl (lt_fieldAddr 0 rfl fld83_0 rfl) (aa_l 1 rfl (lt_load_box 0 rfl ti5 rfl rfl rfl rfl rfl) (aa_one 2 (aa_op rfl rfl (hv_call0 [] (f88_spec h1616) rfl rfl rfl rfl ?_))))
        rintro _ _ ⟨rfl, rfl⟩
        refine aa_p 3 rfl (lt_not rfl) (aa_p 4 rfl (lt_move rfl) ?_)
        refine aa_pg 5 rfl ⟨43, rfl, .inl ⟨_, rfl, gdq (v := false) (nt h1617) rfl⟩⟩ (lt_fieldAddr 1 rfl fld83_1 rfl) ?_
        refine aa_lg 6 rfl ⟨43, rfl, .inl ⟨_, rfl, gdq (v := false) (nt h1617) rfl⟩⟩ (lt_load_box 0 rfl ti5 rfl rfl rfl rfl rfl) ?_
        refine aa_one 7 ?_
        refine aa_op rfl ⟨43, rfl, .inl ⟨_, rfl, gdq (v := false) (nt h1617) rfl⟩⟩ ?_
        refine hv_call0 [] (f88_spec h1619) rfl rfl rfl rfl ?_
        rintro _ _ ⟨rfl, rfl⟩
        refine aa_pg 8 rfl ⟨43, rfl, .inl ⟨_, rfl, gdq (v := false) (nt h1617) rfl⟩⟩ (lt_not rfl) ?_
        refine aa_p 9 rfl (lt_pick false rfl (nt h1617) rfl) (aa_p 10 rfl (lt_move rfl) ?_)
        refine aa_pg 11 rfl ⟨49, rfl, .inl ⟨_, rfl, gdq (v := false) (nt h1620) rfl⟩⟩ (lt_move rfl) ?_
        refine aa_pg 12 rfl ⟨49, rfl, .inl ⟨_, rfl, gdq (v := false) (nt h1620) rfl⟩⟩ (lt_gtr rfl rfl) ?_
        refine aa_pg 13 rfl ⟨49, rfl, .inl ⟨_, rfl, gdq (v := false) (nt h1620) rfl⟩⟩ (lt_move rfl) ?_
        refine aa_pg 14 rfl ⟨52, rfl, .inl ⟨_, rfl, gdq (v := true) (decide_eq_true (by omega)) rfl⟩⟩ (lt_fieldAddr 0 rfl fld83_0 rfl) ?_
        refine aa_lg 15 rfl ⟨52, rfl, .inl ⟨_, rfl, gdq (v := true) (decide_eq_true (by omega)) rfl⟩⟩ (lt_load_box 0 rfl ti5 rfl rfl rfl rfl rfl) ?_
        refine aa_pg 16 rfl ⟨52, rfl, .inl ⟨_, rfl, gdq (v := true) (decide_eq_true (by omega)) rfl⟩⟩ (lt_fieldAddr 2 rfl fld50_2 rfl) ?_
        refine aa_lg 17 rfl ⟨52, rfl, .inl ⟨_, rfl, gdq (v := true) (decide_eq_true (by omega)) rfl⟩⟩ (lt_load_box 1 rfl ti48 rfl rfl rfl rfl rfl) ?_
        refine aa_pg 18 rfl ⟨52, rfl, .inl ⟨_, rfl, gdq (v := true) (decide_eq_true (by omega)) rfl⟩⟩ (lt_move rfl) ?_
        refine aa_pg 19 rfl ⟨52, rfl, .inl ⟨_, rfl, gdq (v := true) (decide_eq_true (by omega)) rfl⟩⟩ (lt_sub rfl rfl (by simp only [lo, hi]; omega)) ?_
        refine aa_pg 20 rfl ⟨52, rfl, .inl ⟨_, rfl, gdq (v := true) (decide_eq_true (by omega)) rfl⟩⟩ (lt_idx rfl rfl pa1625 und48 ti83) ?_
        refine aa_pg 21 rfl ⟨52, rfl, .inl ⟨_, rfl, gdq (v := true) (decide_eq_true (by omega)) rfl⟩⟩ (lt_fieldAddr 0 rfl fld83_0 rfl) ?_
        refine aa_lg 22 rfl ⟨52, rfl, .inl ⟨_, rfl, gdq (v := true) (decide_eq_true (by omega)) rfl⟩⟩ (lt_load_peek 1 rfl ti5 rfl rfl rfl rfl rfl) ?_
        refine aa_pg 23 rfl ⟨52, rfl, .inl ⟨_, rfl, gdq (v := true) (decide_eq_true (by omega)) rfl⟩⟩ (lt_leq rfl rfl) ?_
        refine aa_pg 24 rfl ⟨49, rfl, .inl ⟨_, rfl, gdq (v := false) (nt h1620) rfl⟩⟩ (lt_pick true rfl (decide_eq_true (by omega)) rfl) ?_
        refine aa_p 25 rfl (lt_pick false rfl (nt h1620) rfl) ?_
        refine aa_done (by kernel_rfl) (ts_in 0 0 rfl rfl) ?_
        refine at_then ?_
        by_cases h1626 : x1610.From.toNat ≤ x1622.From.toNat
        ·replace hr := ipos h1626 hr
         refine at_true rfl (decide_eq_true (by omega)) ?_
         refine s_sr (s_as rfl (s_nt (at_ret ?_)))
         have hq := oinj hr
         clear hr
         subst hq
         have hq := oinj hk1608
         clear hk1608
         subst hq
         refine at_in_ret (at_then_ret (at_then_ret (at_in_ret (at_then_ret (at_then_ret ?_)))))
         exact at_return (.bool false) [] hS Tryz.results55 (.cons (.tmp rfl) .nil) rfl rfl ⟨rfl, rfl⟩
        replace hr := ineg h1626 hr
        refine at_false rfl (decide_eq_false (by omega)) ?_
        refine at_skip (at_in (s_tr (s_mv rfl (at_lt (lt_add rfl rfl (by simp only [lo, hi]; omega)) rfl (s_as rfl (at_nil (at_int .i64 (x1605 + 1 : Int) (by simp only [lo, hi]; omega) ?_)))))))
        exact at_again (σ := Nat) (V := Unit) (lp := fun n s => m55_l1 a0 n s) (S := fun s e => (⟨[(1, .pointer (some (Addr.add ⟨b1594, 0, none⟩ 0))), (3, .int .i64 (s : Int))], [⟨b1594, [str a0.From, str a0.To, s1593], 50⟩], [], [((Ty.int .i64).fact (s : Int) [.int .i64 (s : Int)]), (Ty.str.fact a0.From [str a0.From]), (Ty.str.fact a0.To [str a0.To]), ((Ty.slice ty83).fact a0.Codes [s1593])]⟩ : St)) (x1605 + 1) () hr ⟨⟨rfl, ⟨rfl, trivial⟩⟩, ⟨[false, true], rfl⟩, ⟨[], rfl⟩, ⟨[0, 6, 7, 8], rfl⟩⟩
       replace hr := ineg h1621 hr
       refine aa_start 26 (by kernel_rfl) ?_
       refine aa_p 0 rfl (lt_fieldAddr 0 rfl fld83_0 rfl) (aa_l 1 rfl (lt_load_box 0 rfl ti5 rfl rfl rfl rfl rfl) (aa_one 2 (aa_op rfl rfl (hv_call0 [] (f88_spec h1616) rfl rfl rfl rfl ?_))))
       rintro _ _ ⟨rfl, rfl⟩
       refine aa_p 3 rfl (lt_not rfl) (aa_p 4 rfl (lt_move rfl) ?_)
       refine aa_pg 5 rfl ⟨43, rfl, .inl ⟨_, rfl, gdq (v := false) (nt h1617) rfl⟩⟩ (lt_fieldAddr 1 rfl fld83_1 rfl) ?_
       refine aa_lg 6 rfl ⟨43, rfl, .inl ⟨_, rfl, gdq (v := false) (nt h1617) rfl⟩⟩ (lt_load_box 0 rfl ti5 rfl rfl rfl rfl rfl) ?_
       refine aa_one 7 ?_
       refine aa_op rfl ⟨43, rfl, .inl ⟨_, rfl, gdq (v := false) (nt h1617) rfl⟩⟩ ?_
       refine hv_call0 [] (f88_spec h1619) rfl rfl rfl rfl ?_
       rintro _ _ ⟨rfl, rfl⟩
       refine aa_pg 8 rfl ⟨43, rfl, .inl ⟨_, rfl, gdq (v := false) (nt h1617) rfl⟩⟩ (lt_not rfl) ?_
       refine aa_p 9 rfl (lt_pick false rfl (nt h1617) rfl) (aa_p 10 rfl (lt_move rfl) ?_)
       refine aa_pg 11 rfl ⟨49, rfl, .inl ⟨_, rfl, gdq (v := false) (nt h1620) rfl⟩⟩ (lt_move rfl) ?_
       refine aa_pg 12 rfl ⟨49, rfl, .inl ⟨_, rfl, gdq (v := false) (nt h1620) rfl⟩⟩ (lt_gtr rfl rfl) ?_
       refine aa_pg 13 rfl ⟨49, rfl, .inl ⟨_, rfl, gdq (v := false) (nt h1620) rfl⟩⟩ (lt_move rfl) ?_
       refine aa_o 14 rfl ⟨52, rfl, .inl ⟨_, rfl, gdq (v := false) (decide_eq_false (by omega)) rfl⟩⟩ ?_
       refine aa_o 15 rfl ⟨52, rfl, .inl ⟨_, rfl, gdq (v := false) (decide_eq_false (by omega)) rfl⟩⟩ ?_
       refine aa_o 16 rfl ⟨52, rfl, .inl ⟨_, rfl, gdq (v := false) (decide_eq_false (by omega)) rfl⟩⟩ ?_
       refine aa_o 17 rfl ⟨52, rfl, .inl ⟨_, rfl, gdq (v := false) (decide_eq_false (by omega)) rfl⟩⟩ ?_
       refine aa_o 18 rfl ⟨52, rfl, .inl ⟨_, rfl, gdq (v := false) (decide_eq_false (by omega)) rfl⟩⟩ ?_
       refine aa_o 19 rfl ⟨52, rfl, .inl ⟨_, rfl, gdq (v := false) (decide_eq_false (by omega)) rfl⟩⟩ ?_
       refine aa_o 20 rfl ⟨52, rfl, .inl ⟨_, rfl, gdq (v := false) (decide_eq_false (by omega)) rfl⟩⟩ ?_
       refine aa_o 21 rfl ⟨52, rfl, .inl ⟨_, rfl, gdq (v := false) (decide_eq_false (by omega)) rfl⟩⟩ ?_
       refine aa_o 22 rfl ⟨52, rfl, .inl ⟨_, rfl, gdq (v := false) (decide_eq_false (by omega)) rfl⟩⟩ ?_
       refine aa_o 23 rfl ⟨52, rfl, .inl ⟨_, rfl, gdq (v := false) (decide_eq_false (by omega)) rfl⟩⟩ ?_
       refine aa_pg 24 rfl ⟨49, rfl, .inl ⟨_, rfl, gdq (v := false) (nt h1620) rfl⟩⟩ (lt_pick false rfl (decide_eq_false (by omega)) rfl) ?_
       refine aa_p 25 rfl (lt_pick false rfl (nt h1620) rfl) ?_
       refine aa_done (by kernel_rfl) (ts_in 0 0 rfl rfl) ?_
       refine at_then (at_false rfl rfl (at_skip (at_in (s_tr (s_mv rfl (at_lt (lt_add rfl rfl (by simp only [lo, hi]; omega)) rfl (s_as rfl (at_nil (at_int .i64 (x1605 + 1 : Int) (by simp only [lo, hi]; omega) ?_)))))))))
       exact at_again (σ := Nat) (V := Unit) (lp := fun n s => m55_l1 a0 n s) (S := fun s e => (⟨[(1, .pointer (some (Addr.add ⟨b1594, 0, none⟩ 0))), (3, .int .i64 (s : Int))], [⟨b1594, [str a0.From, str a0.To, s1593], 50⟩], [], [((Ty.int .i64).fact (s : Int) [.int .i64 (s : Int)]), (Ty.str.fact a0.From [str a0.From]), (Ty.str.fact a0.To [str a0.To]), ((Ty.slice ty83).fact a0.Codes [s1593])]⟩ : St)) (x1605 + 1) () hr ⟨⟨rfl, ⟨rfl, trivial⟩⟩, ⟨[false, true], rfl⟩, ⟨[], rfl⟩, ⟨[0, 4, 5, 6], rfl⟩⟩
      replace hr := ineg h1620 hr
      refine aa_start 26 (by kernel_rfl) ?_
      refine aa_p 0 rfl (lt_fieldAddr 0 rfl fld83_0 rfl) (aa_l 1 rfl (lt_load_box 0 rfl ti5 rfl rfl rfl rfl rfl) (aa_one 2 (aa_op rfl rfl (hv_call0 [] (f88_spec h1616) rfl rfl rfl rfl ?_))))
      rintro _ _ ⟨rfl, rfl⟩
      refine aa_p 3 rfl (lt_not rfl) (aa_p 4 rfl (lt_move rfl) ?_)
      refine aa_pg 5 rfl ⟨43, rfl, .inl ⟨_, rfl, gdq (v := false) (nt h1617) rfl⟩⟩ (lt_fieldAddr 1 rfl fld83_1 rfl) ?_
      refine aa_lg 6 rfl ⟨43, rfl, .inl ⟨_, rfl, gdq (v := false) (nt h1617) rfl⟩⟩ (lt_load_box 0 rfl ti5 rfl rfl rfl rfl rfl) ?_
      refine aa_one 7 ?_
      refine aa_op rfl ⟨43, rfl, .inl ⟨_, rfl, gdq (v := false) (nt h1617) rfl⟩⟩ ?_
      refine hv_call0 [] (f88_spec h1619) rfl rfl rfl rfl ?_
      rintro _ _ ⟨rfl, rfl⟩
      refine aa_pg 8 rfl ⟨43, rfl, .inl ⟨_, rfl, gdq (v := false) (nt h1617) rfl⟩⟩ (lt_not rfl) ?_
      refine aa_p 9 rfl (lt_pick false rfl (nt h1617) rfl) (aa_p 10 rfl (lt_move rfl) ?_)
      refine aa_o 11 rfl ⟨49, rfl, .inl ⟨_, rfl, gdq (v := true) (nf (bf h1620)) rfl⟩⟩ ?_
      refine aa_o 12 rfl ⟨49, rfl, .inl ⟨_, rfl, gdq (v := true) (nf (bf h1620)) rfl⟩⟩ ?_
      refine aa_o 13 rfl ⟨49, rfl, .inl ⟨_, rfl, gdq (v := true) (nf (bf h1620)) rfl⟩⟩ ?_
      refine aa_o 14 rfl ⟨52, rfl, .inr ⟨rfl, rfl⟩⟩ ?_
      refine aa_o 15 rfl ⟨52, rfl, .inr ⟨rfl, rfl⟩⟩ ?_
      refine aa_o 16 rfl ⟨52, rfl, .inr ⟨rfl, rfl⟩⟩ ?_
      refine aa_o 17 rfl ⟨52, rfl, .inr ⟨rfl, rfl⟩⟩ ?_
      refine aa_o 18 rfl ⟨52, rfl, .inr ⟨rfl, rfl⟩⟩ ?_
      refine aa_o 19 rfl ⟨52, rfl, .inr ⟨rfl, rfl⟩⟩ ?_
      refine aa_o 20 rfl ⟨52, rfl, .inr ⟨rfl, rfl⟩⟩ ?_
      refine aa_o 21 rfl ⟨52, rfl, .inr ⟨rfl, rfl⟩⟩ ?_
      refine aa_o 22 rfl ⟨52, rfl, .inr ⟨rfl, rfl⟩⟩ ?_
      refine aa_o 23 rfl ⟨52, rfl, .inr ⟨rfl, rfl⟩⟩ ?_
      refine aa_o 24 rfl ⟨49, rfl, .inl ⟨_, rfl, gdq (v := true) (nf (bf h1620)) rfl⟩⟩ ?_
      refine aa_p 25 rfl (lt_pick true rfl (nf (bf h1620)) rfl) ?_
      refine aa_done (by kernel_rfl) (ts_in 0 0 rfl rfl) ?_
      refine at_then (at_true rfl rfl (s_sr (s_as rfl (s_nt (at_ret ?_)))))
      have hq := oinj hr
      clear hr
      subst hq
      have hq := oinj hk1608
      clear hk1608
      subst hq
      refine at_in_ret (at_then_ret (at_then_ret (at_in_ret (at_then_ret (at_then_ret ?_)))))
      exact at_return (.bool false) [] hS Tryz.results55 (.cons (.tmp rfl) .nil) rfl rfl ⟨rfl, rfl⟩
     replace hr := ineg h1617 hr
     refine aa_start 26 (by kernel_rfl) ?_
     refine aa_p 0 rfl (lt_fieldAddr 0 rfl fld83_0 rfl) (aa_l 1 rfl (lt_load_box 0 rfl ti5 rfl rfl rfl rfl rfl) (aa_one 2 (aa_op rfl rfl (hv_call0 [] (f88_spec h1616) rfl rfl rfl rfl ?_))))
     rintro _ _ ⟨rfl, rfl⟩
     refine aa_p 3 rfl (lt_not rfl) (aa_p 4 rfl (lt_move rfl) ?_)
     refine aa_o 5 rfl ⟨43, rfl, .inl ⟨_, rfl, gdq (v := true) (nf (bf h1617)) rfl⟩⟩ ?_
     refine aa_o 6 rfl ⟨43, rfl, .inl ⟨_, rfl, gdq (v := true) (nf (bf h1617)) rfl⟩⟩ ?_
     refine aa_o 7 rfl ⟨43, rfl, .inl ⟨_, rfl, gdq (v := true) (nf (bf h1617)) rfl⟩⟩ ?_
     refine aa_o 8 rfl ⟨43, rfl, .inl ⟨_, rfl, gdq (v := true) (nf (bf h1617)) rfl⟩⟩ ?_
     refine aa_p 9 rfl (lt_pick true rfl (nf (bf h1617)) rfl) (aa_p 10 rfl (lt_move rfl) ?_)
     refine aa_o 11 rfl ⟨49, rfl, .inl ⟨_, rfl, gdq (v := true) rfl rfl⟩⟩ ?_
     refine aa_o 12 rfl ⟨49, rfl, .inl ⟨_, rfl, gdq (v := true) rfl rfl⟩⟩ ?_
     refine aa_o 13 rfl ⟨49, rfl, .inl ⟨_, rfl, gdq (v := true) rfl rfl⟩⟩ ?_
     refine aa_o 14 rfl ⟨52, rfl, .inr ⟨rfl, rfl⟩⟩ ?_
     refine aa_o 15 rfl ⟨52, rfl, .inr ⟨rfl, rfl⟩⟩ ?_
     refine aa_o 16 rfl ⟨52, rfl, .inr ⟨rfl, rfl⟩⟩ ?_
     refine aa_o 17 rfl ⟨52, rfl, .inr ⟨rfl, rfl⟩⟩ ?_
     refine aa_o 18 rfl ⟨52, rfl, .inr ⟨rfl, rfl⟩⟩ ?_
     refine aa_o 19 rfl ⟨52, rfl, .inr ⟨rfl, rfl⟩⟩ ?_
     refine aa_o 20 rfl ⟨52, rfl, .inr ⟨rfl, rfl⟩⟩ ?_
     refine aa_o 21 rfl ⟨52, rfl, .inr ⟨rfl, rfl⟩⟩ ?_
     refine aa_o 22 rfl ⟨52, rfl, .inr ⟨rfl, rfl⟩⟩ ?_
     refine aa_o 23 rfl ⟨52, rfl, .inr ⟨rfl, rfl⟩⟩ ?_
     refine aa_o 24 rfl ⟨49, rfl, .inl ⟨_, rfl, gdq (v := true) rfl rfl⟩⟩ ?_
     refine aa_p 25 rfl (lt_pick true rfl rfl rfl) ?_
     refine aa_done (by kernel_rfl) (ts_in 0 0 rfl rfl) ?_
     refine at_then (at_true rfl rfl (s_sr (s_as rfl (s_nt (at_ret ?_)))))
     have hq := oinj hr
     clear hr
     subst hq
     have hq := oinj hk1608
     clear hk1608
     subst hq
     refine at_in_ret (at_then_ret (at_then_ret (at_in_ret (at_then_ret (at_then_ret ?_)))))
     exact at_return (.bool false) [] hS Tryz.results55 (.cons (.tmp rfl) .nil) rfl rfl ⟨rfl, rfl⟩
    replace hr := ineg h1609 hr
    refine at_false rfl (decide_eq_false (by omega)) ?_
    refine at_exit (at_then_exit (at_then_exit (at_in_exit ?_)))
    have hq := oinj hr
    clear hr
    subst hq
    exact at_leafP ((), ()) rfl ⟨trivial, ⟨[false], rfl⟩, ⟨[], rfl⟩, ⟨[], rfl⟩⟩
   rintro ⟨_, _⟩ hp
   replace hr := hk1608
   subst hp
   clear hl1607
   change At _ _ (⟨[], [], [], []⟩ : St) _
   refine s_tsr (s_as rfl (s_nt (at_ret ?_)))
   have hq := oinj hr
   clear hr
   subst hq
   exact at_return (.bool true) [] hS Tryz.results55 (.cons (.tmp rfl) .nil) rfl rfl ⟨rfl, rfl⟩
  replace hr := ineg h1600 hr
  refine at_off rfl rfl (nf (bf h1600)) rfl (at_off rfl rfl (nf (bf h1600)) rfl (at_off rfl rfl (nf (bf h1600)) rfl (at_off rfl rfl (nf (bf h1600)) rfl (at_lt (lt_pick true rfl (nf (bf h1600)) rfl) rfl (s_mv rfl (at_off rfl rfl rfl rfl (at_off rfl rfl rfl rfl (at_off rfl rfl rfl rfl (at_off rfl rfl rfl rfl ?_)))))))))
  refine at_lt (lt_pick true rfl rfl rfl) rfl (s_nt (at_true rfl rfl (s_sr (s_as rfl (s_nt (at_ret ?_))))))
  have hq := oinj hr
  clear hr
  subst hq
  refine at_then_ret ?_
  exact at_return (.bool false) [] hS Tryz.results55 (.cons (.tmp rfl) .nil) rfl rfl ⟨rfl, rfl⟩
 replace hr := ineg h1597 hr
 refine at_off rfl rfl (nf (bf h1597)) rfl (at_off rfl rfl (nf (bf h1597)) rfl (at_off rfl rfl (nf (bf h1597)) rfl (at_off rfl rfl (nf (bf h1597)) rfl (at_lt (lt_pick true rfl (nf (bf h1597)) rfl) rfl (s_mv rfl (at_off rfl rfl rfl rfl (at_off rfl rfl rfl rfl (at_off rfl rfl rfl rfl (at_off rfl rfl rfl rfl ?_)))))))))
 refine at_lt (lt_pick true rfl rfl rfl) rfl (s_mv rfl (at_off rfl rfl rfl rfl (at_off rfl rfl rfl rfl (at_off rfl rfl rfl rfl (at_off rfl rfl rfl rfl (at_lt (lt_pick true rfl rfl rfl) rfl (s_nt (at_true rfl rfl (s_sr ?_)))))))))
 refine s_as rfl (s_nt (at_ret ?_))
 have hq := oinj hr
 clear hr
 subst hq
 refine at_then_ret ?_
 exact at_return (.bool false) [] hS Tryz.results55 (.cons (.tmp rfl) .nil) rfl rfl ⟨rfl, rfl⟩
def m24_l1 (a0 : (List D_ref16_Entry)) : Nat → Nat → Option (Fl Bool Unit)
  | 0, _ => none
  | k + 1, x1628 =>
    if x1628 < a0.length then
     (a0[x1628]?).bind fun x1635 =>
     (m55 x1635).bind fun x1640 =>
     if x1640 = true then
      if 0 < x1628 then
       (a0[x1628]?).bind fun x1644 =>
       (at? a0 ((x1628 : Int) - 1)).bind fun x1649 =>
       if (Op.bytesLess x1649.From x1644.From) = true then
        m24_l1 a0 k (x1628 + 1)
       else
        some (Fl.ret false)
      else
       m24_l1 a0 k (x1628 + 1)
     else
      some (Fl.ret false)
    else
     some (Fl.go ())
def m24 (a0 : (List D_ref16_Entry)) : Option Bool :=
  (m24_l1 a0 (a0.length + 1) 0).bind fun r => match r with
  | .ret x => some x
  | .go _ =>
   some (decide ((a0.length : Int) ≤ 60))
def post24 (r : Bool) (v : Value) (fs : List Fact) : Prop := v = .bool r ∧ fs = []
theorem en24 : Enters Tryz.prog 24 := ⟨_, Tryz.func24, by kernel_rfl, rfl⟩
theorem f24_spec {a0 : (List D_ref16_Entry)} {w1627 : Value} {r : Bool} (hr : m24 a0 = some r) : Spec Tryz.prog 24 [w1627] [((Ty.slice ty50).fact a0 [w1627])] (post24 r) := by
 refine spec_start (N := 37) Tryz.func24 (by kernel_rfl) rfl rfl rfl ?_
 intro g hS
 unfold m24 at hr
 refine s_sr (s_as rfl (s_nt (at_seq (s_sr (s_as rfl (s_nt (at_int .i64 0 (by simp only [lo, hi]; omega) ?_)))))))
 replace hr := obind hr
 obtain ⟨r1629, hl1630, hk1631⟩ := hr
 refine at_cutP (V := (Unit) × (Unit)) (fun v => r1629 = Fl.go v.1) (fun v => (⟨[(0, w1627)], [], [], [((Ty.slice ty50).fact a0 [w1627])]⟩ : St)) ?_ ?_
 ·refine at_block ?_
  refine at_loopW (σ := Nat) (V := Unit) (r := r1629) (fun n s => m24_l1 a0 n s) (fun s e => (⟨[(0, w1627), (3, .int .i64 (s : Int))], [], [], [((Ty.int .i64).fact (s : Int) [.int .i64 (s : Int)]), ((Ty.slice ty50).fact a0 [w1627])]⟩ : St)) (fun _ => rfl) _ 0 () hl1630 ⟨⟨rfl, ⟨rfl, trivial⟩⟩, ⟨[], rfl⟩, ⟨[], rfl⟩, ⟨[0, 1], rfl⟩⟩ ?_
  clear hl1630
  intro n x1628 hr e
  skip
  skip
  change m24_l1 a0 (n + 1) x1628 = some r1629 at hr
  change At _ _ (⟨[(0, w1627), (3, .int .i64 (x1628 : Int))], [], [], [((Ty.int .i64).fact (x1628 : Int) [.int .i64 (x1628 : Int)]), ((Ty.slice ty50).fact a0 [w1627])]⟩ : St) _
  rw [m24_l1] at hr
  refine at_seq (s_sr (s_mv rfl (s_mv rfl ?_)))
  refine at_inv 1 rfl (fun i1632 => ?_)
  have l1633 := slice_len i1632
  refine at_lt (lt_flen 1 rfl rfl und22) rfl (at_lt (lt_lss rfl rfl) rfl (s_nt ?_))
  by_cases h1634 : x1628 < a0.length
  ·replace hr := ipos h1634 hr
   refine at_true rfl (decide_eq_true (by omega)) ?_
   refine at_skip (at_then (at_seq (at_block (at_seq ?_))))
   replace hr := obind hr
   obtain ⟨x1635, h1636, hr⟩ := hr
   have := (List.getElem?_eq_some_iff.1 h1636).1
   refine at_elem 1 rfl (nat_at' h1636) (fun p1638 ec pa1639 => ?_)
   refine at_open (A := Value) 0 rfl _ _ (fun F w h => op50 h) ?_
   rintro s1637 rfl
   replace hr := obind hr
   obtain ⟨x1640, h1641, hr⟩ := hr
   by_cases h1642 : x1640 = true
   ·replace hr := ipos h1642 hr
    by_cases h1643 : 0 < x1628
    ·replace hr := ipos h1643 hr
     replace hr := obind hr
     obtain ⟨x1644, h1645, hr⟩ := hr
     have := (List.getElem?_eq_some_iff.1 h1645).1
     refine at_elem 6 rfl (nat_at' h1645) (fun p1647 ec pa1648 => ?_)
     refine at_open (A := Value) 0 rfl _ _ (fun F w h => op50 h) ?_
     rintro s1646 rfl
     replace hr := obind hr
     obtain ⟨x1649, h1650, hr⟩ := hr
     have := at?_lt h1650
     refine at_elem 11 rfl h1650 (fun p1652 ec pa1653 => ?_)
     refine at_open (A := Value) 0 rfl _ _ (fun F w h => op50 h) ?_
     rintro s1651 rfl
     refine aa_start 24 (by kernel_rfl) ?_
     refine aa_p 0 rfl (lt_move rfl) (aa_p 1 rfl (lt_move rfl) (aa_p 2 rfl (lt_idx rfl rfl pa1639 und22 ti50) (aa_l 3 rfl (lt_load_peek 14 rfl ti50 rfl rfl rfl rfl rfl) (aa_one 4 (aa_op rfl rfl (hv_call0 [13] (f55_spec h1641) rfl rfl rfl rfl ?_))))))
     rintro _ _ ⟨rfl, rfl⟩
     refine aa_p 5 rfl (lt_not rfl) (aa_p 6 rfl (lt_move rfl) ?_)
     refine aa_pg 7 rfl ⟨16, rfl, .inl ⟨_, rfl, gdq (v := false) (nt h1642) rfl⟩⟩ (lt_move rfl) ?_
     refine aa_pg 8 rfl ⟨16, rfl, .inl ⟨_, rfl, gdq (v := false) (nt h1642) rfl⟩⟩ (lt_gtr rfl rfl) ?_
     refine aa_pg 9 rfl ⟨16, rfl, .inl ⟨_, rfl, gdq (v := false) (nt h1642) rfl⟩⟩ (lt_move rfl) ?_
     refine aa_pg 10 rfl ⟨19, rfl, .inl ⟨_, rfl, gdq (v := true) (decide_eq_true (by omega)) rfl⟩⟩ (lt_move rfl) ?_
     refine aa_pg 11 rfl ⟨19, rfl, .inl ⟨_, rfl, gdq (v := true) (decide_eq_true (by omega)) rfl⟩⟩ (lt_move rfl) ?_
     refine aa_pg 12 rfl ⟨19, rfl, .inl ⟨_, rfl, gdq (v := true) (decide_eq_true (by omega)) rfl⟩⟩ (lt_idx rfl rfl pa1648 und22 ti50) ?_
     refine aa_pg 13 rfl ⟨19, rfl, .inl ⟨_, rfl, gdq (v := true) (decide_eq_true (by omega)) rfl⟩⟩ (lt_fieldAddr 0 rfl fld50_0 rfl) ?_
     refine aa_lg 14 rfl ⟨19, rfl, .inl ⟨_, rfl, gdq (v := true) (decide_eq_true (by omega)) rfl⟩⟩ (lt_load_peek 9 rfl ti9 rfl rfl rfl rfl rfl) ?_
     refine aa_pg 15 rfl ⟨19, rfl, .inl ⟨_, rfl, gdq (v := true) (decide_eq_true (by omega)) rfl⟩⟩ (lt_move rfl) ?_
     refine aa_pg 16 rfl ⟨19, rfl, .inl ⟨_, rfl, gdq (v := true) (decide_eq_true (by omega)) rfl⟩⟩ (lt_move rfl) ?_
     refine aa_pg 17 rfl ⟨19, rfl, .inl ⟨_, rfl, gdq (v := true) (decide_eq_true (by omega)) rfl⟩⟩ (lt_sub rfl rfl (by simp only [lo, hi]; omega)) ?_
     refine aa_pg 18 rfl ⟨19, rfl, .inl ⟨_, rfl, gdq (v := true) (decide_eq_true (by omega)) rfl⟩⟩ (lt_idx rfl rfl pa1653 und22 ti50) ?_
     refine aa_pg 19 rfl ⟨19, rfl, .inl ⟨_, rfl, gdq (v := true) (decide_eq_true (by omega)) rfl⟩⟩ (lt_fieldAddr 0 rfl fld50_0 rfl) ?_
     refine aa_lg 20 rfl ⟨19, rfl, .inl ⟨_, rfl, gdq (v := true) (decide_eq_true (by omega)) rfl⟩⟩ (lt_load_peek 4 rfl ti9 rfl rfl rfl rfl rfl) ?_
     refine aa_pg 21 rfl ⟨19, rfl, .inl ⟨_, rfl, gdq (v := true) (decide_eq_true (by omega)) rfl⟩⟩ (lt_sleq rfl rfl) ?_
     refine aa_pg 22 rfl ⟨16, rfl, .inl ⟨_, rfl, gdq (v := false) (nt h1642) rfl⟩⟩ (lt_pick true rfl (decide_eq_true (by omega)) rfl) ?_
     refine aa_p 23 rfl (lt_pick false rfl (nt h1642) rfl) ?_
     refine aa_done (by kernel_rfl) (ts_in 0 0 rfl rfl) ?_
     refine at_then ?_
     by_cases h1654 : (Op.bytesLess x1649.From x1644.From) = true
     ·replace hr := ipos h1654 hr
      refine at_false rfl (nt h1654) (at_skip (at_in (s_tr (s_mv rfl (at_lt (lt_add rfl rfl (by simp only [lo, hi]; omega)) rfl (s_as rfl (at_nil (at_int .i64 (x1628 + 1 : Int) (by simp only [lo, hi]; omega) ?_))))))))
      exact at_again (σ := Nat) (V := Unit) (lp := fun n s => m24_l1 a0 n s) (S := fun s e => (⟨[(0, w1627), (3, .int .i64 (s : Int))], [], [], [((Ty.int .i64).fact (s : Int) [.int .i64 (s : Int)]), ((Ty.slice ty50).fact a0 [w1627])]⟩ : St)) (x1628 + 1) () hr ⟨⟨rfl, ⟨rfl, trivial⟩⟩, ⟨[], rfl⟩, ⟨[], rfl⟩, ⟨[0, 17], rfl⟩⟩
     replace hr := ineg h1654 hr
     refine at_true rfl (nf (bf h1654)) (s_sr (s_as rfl (s_nt (at_ret ?_))))
     have hq := oinj hr
     clear hr
     subst hq
     have hq := oinj hk1631
     clear hk1631
     subst hq
     refine at_in_ret (at_then_ret (at_then_ret (at_in_ret (at_then_ret (at_then_ret ?_)))))
     exact at_return (.bool false) [] hS Tryz.results24 (.cons (.tmp rfl) .nil) rfl rfl ⟨rfl, rfl⟩
    replace hr := ineg h1643 hr
    refine aa_start 24 (by kernel_rfl) ?_
    refine aa_p 0 rfl (lt_move rfl) (aa_p 1 rfl (lt_move rfl) (aa_p 2 rfl (lt_idx rfl rfl pa1639 und22 ti50) (aa_l 3 rfl (lt_load_peek 4 rfl ti50 rfl rfl rfl rfl rfl) (aa_one 4 (aa_op rfl rfl (hv_call0 [3] (f55_spec h1641) rfl rfl rfl rfl ?_))))))
    rintro _ _ ⟨rfl, rfl⟩
    refine aa_p 5 rfl (lt_not rfl) (aa_p 6 rfl (lt_move rfl) ?_)
    refine aa_pg 7 rfl ⟨16, rfl, .inl ⟨_, rfl, gdq (v := false) (nt h1642) rfl⟩⟩ (lt_move rfl) ?_
    refine aa_pg 8 rfl ⟨16, rfl, .inl ⟨_, rfl, gdq (v := false) (nt h1642) rfl⟩⟩ (lt_gtr rfl rfl) ?_
    refine aa_pg 9 rfl ⟨16, rfl, .inl ⟨_, rfl, gdq (v := false) (nt h1642) rfl⟩⟩ (lt_move rfl) ?_
    refine aa_o 10 rfl ⟨19, rfl, .inl ⟨_, rfl, gdq (v := false) (decide_eq_false (by omega)) rfl⟩⟩ ?_
    refine aa_o 11 rfl ⟨19, rfl, .inl ⟨_, rfl, gdq (v := false) (decide_eq_false (by omega)) rfl⟩⟩ ?_
    refine aa_o 12 rfl ⟨19, rfl, .inl ⟨_, rfl, gdq (v := false) (decide_eq_false (by omega)) rfl⟩⟩ ?_
    refine aa_o 13 rfl ⟨19, rfl, .inl ⟨_, rfl, gdq (v := false) (decide_eq_false (by omega)) rfl⟩⟩ ?_
    refine aa_o 14 rfl ⟨19, rfl, .inl ⟨_, rfl, gdq (v := false) (decide_eq_false (by omega)) rfl⟩⟩ ?_
    refine aa_o 15 rfl ⟨19, rfl, .inl ⟨_, rfl, gdq (v := false) (decide_eq_false (by omega)) rfl⟩⟩ ?_
    refine aa_o 16 rfl ⟨19, rfl, .inl ⟨_, rfl, gdq (v := false) (decide_eq_false (by omega)) rfl⟩⟩ ?_
    refine aa_o 17 rfl ⟨19, rfl, .inl ⟨_, rfl, gdq (v := false) (decide_eq_false (by omega)) rfl⟩⟩ ?_
    refine aa_o 18 rfl ⟨19, rfl, .inl ⟨_, rfl, gdq (v := false) (decide_eq_false (by omega)) rfl⟩⟩ ?_
    refine aa_o 19 rfl ⟨19, rfl, .inl ⟨_, rfl, gdq (v := false) (decide_eq_false (by omega)) rfl⟩⟩ ?_
    refine aa_o 20 rfl ⟨19, rfl, .inl ⟨_, rfl, gdq (v := false) (decide_eq_false (by omega)) rfl⟩⟩ ?_
    refine aa_o 21 rfl ⟨19, rfl, .inl ⟨_, rfl, gdq (v := false) (decide_eq_false (by omega)) rfl⟩⟩ ?_
    refine aa_pg 22 rfl ⟨16, rfl, .inl ⟨_, rfl, gdq (v := false) (nt h1642) rfl⟩⟩ (lt_pick false rfl (decide_eq_false (by omega)) rfl) ?_
    refine aa_p 23 rfl (lt_pick false rfl (nt h1642) rfl) ?_
    refine aa_done (by kernel_rfl) (ts_in 0 0 rfl rfl) ?_
    refine at_then (at_false rfl rfl (at_skip (at_in (s_tr (s_mv rfl (at_lt (lt_add rfl rfl (by simp only [lo, hi]; omega)) rfl (s_as rfl (at_nil (at_int .i64 (x1628 + 1 : Int) (by simp only [lo, hi]; omega) ?_)))))))))
    exact at_again (σ := Nat) (V := Unit) (lp := fun n s => m24_l1 a0 n s) (S := fun s e => (⟨[(0, w1627), (3, .int .i64 (s : Int))], [], [], [((Ty.int .i64).fact (s : Int) [.int .i64 (s : Int)]), ((Ty.slice ty50).fact a0 [w1627])]⟩ : St)) (x1628 + 1) () hr ⟨⟨rfl, ⟨rfl, trivial⟩⟩, ⟨[], rfl⟩, ⟨[], rfl⟩, ⟨[0, 7], rfl⟩⟩
   replace hr := ineg h1642 hr
   refine aa_start 24 (by kernel_rfl) ?_
   refine aa_p 0 rfl (lt_move rfl) (aa_p 1 rfl (lt_move rfl) (aa_p 2 rfl (lt_idx rfl rfl pa1639 und22 ti50) (aa_l 3 rfl (lt_load_peek 4 rfl ti50 rfl rfl rfl rfl rfl) (aa_one 4 (aa_op rfl rfl (hv_call0 [3] (f55_spec h1641) rfl rfl rfl rfl ?_))))))
   rintro _ _ ⟨rfl, rfl⟩
   refine aa_p 5 rfl (lt_not rfl) (aa_p 6 rfl (lt_move rfl) ?_)
   refine aa_o 7 rfl ⟨16, rfl, .inl ⟨_, rfl, gdq (v := true) (nf (bf h1642)) rfl⟩⟩ ?_
   refine aa_o 8 rfl ⟨16, rfl, .inl ⟨_, rfl, gdq (v := true) (nf (bf h1642)) rfl⟩⟩ ?_
   refine aa_o 9 rfl ⟨16, rfl, .inl ⟨_, rfl, gdq (v := true) (nf (bf h1642)) rfl⟩⟩ ?_
   refine aa_o 10 rfl ⟨19, rfl, .inr ⟨rfl, rfl⟩⟩ ?_
   refine aa_o 11 rfl ⟨19, rfl, .inr ⟨rfl, rfl⟩⟩ ?_
   refine aa_o 12 rfl ⟨19, rfl, .inr ⟨rfl, rfl⟩⟩ ?_
   refine aa_o 13 rfl ⟨19, rfl, .inr ⟨rfl, rfl⟩⟩ ?_
   refine aa_o 14 rfl ⟨19, rfl, .inr ⟨rfl, rfl⟩⟩ ?_
   refine aa_o 15 rfl ⟨19, rfl, .inr ⟨rfl, rfl⟩⟩ ?_
   refine aa_o 16 rfl ⟨19, rfl, .inr ⟨rfl, rfl⟩⟩ ?_
   refine aa_o 17 rfl ⟨19, rfl, .inr ⟨rfl, rfl⟩⟩ ?_
   refine aa_o 18 rfl ⟨19, rfl, .inr ⟨rfl, rfl⟩⟩ ?_
   refine aa_o 19 rfl ⟨19, rfl, .inr ⟨rfl, rfl⟩⟩ ?_
   refine aa_o 20 rfl ⟨19, rfl, .inr ⟨rfl, rfl⟩⟩ ?_
   refine aa_o 21 rfl ⟨19, rfl, .inr ⟨rfl, rfl⟩⟩ ?_
   refine aa_o 22 rfl ⟨16, rfl, .inl ⟨_, rfl, gdq (v := true) (nf (bf h1642)) rfl⟩⟩ ?_
   refine aa_p 23 rfl (lt_pick true rfl (nf (bf h1642)) rfl) ?_
   refine aa_done (by kernel_rfl) (ts_in 0 0 rfl rfl) ?_
   refine at_then (at_true rfl rfl (s_sr (s_as rfl (s_nt (at_ret ?_)))))
   have hq := oinj hr
   clear hr
   subst hq
   have hq := oinj hk1631
   clear hk1631
   subst hq
   refine at_in_ret (at_then_ret (at_then_ret (at_in_ret (at_then_ret (at_then_ret ?_)))))
   exact at_return (.bool false) [] hS Tryz.results24 (.cons (.tmp rfl) .nil) rfl rfl ⟨rfl, rfl⟩
  replace hr := ineg h1634 hr
  refine at_false rfl (decide_eq_false (by omega)) ?_
  refine at_exit (at_then_exit (at_then_exit (at_in_exit ?_)))
  have hq := oinj hr
  clear hr
  subst hq
  exact at_leafP ((), ()) rfl ⟨⟨rfl, trivial⟩, ⟨[], rfl⟩, ⟨[], rfl⟩, ⟨[1], rfl⟩⟩
 rintro ⟨_, _⟩ hp
 replace hr := hk1631
 subst hp
 clear hl1630
 change At _ _ (⟨[(0, w1627)], [], [], [((Ty.slice ty50).fact a0 [w1627])]⟩ : St) _
 refine s_tsr (s_mv rfl ?_)
 refine at_inv 0 rfl (fun i1655 => ?_)
 have l1656 := slice_len i1655
 refine at_lt (lt_flen 0 rfl rfl und22) rfl (at_lt (lt_leq rfl rfl) rfl (s_as rfl (s_nt (at_ret ?_))))
 have hq := oinj hr
 clear hr
 subst hq
 exact at_return (.bool (decide ((a0.length : Int) ≤ 60))) [] hS Tryz.results24 (.cons (.tmp rfl) .nil) rfl rfl ⟨rfl, rfl⟩
def m152 (a0 : Str) (a1 : Int) : Option (Int × Int) :=
  (at? a0 a1).bind fun c1658 =>
  if c1658.toNat < 128 then
   some ((c1658.toNat : Int), 1)
  else
   Option.bind (α := Bool) (
    if 194 ≤ c1658.toNat then
     if c1658.toNat < 224 then
      if IntKind.i64.wrap (a1 + 1) < (a0.length : Int) then
       (at? a0 (IntKind.i64.wrap (a1 + 1))).bind fun c1667 =>
       some (decide (Int.fdiv (c1667.toNat : Int) (2 ^ (min 6 8)) = 2))
      else
       some false
     else
      some false
    else
     some false
   ) fun x1661 =>
   if x1661 = true then
    (at? a0 (IntKind.i64.wrap (a1 + 1))).bind fun c1670 =>
    some (IntKind.i64.wrap ((IntKind.i64.wrap (((c1658.toNat : Int) - 192) * 64)) + ((w8 ((c1670.toNat : Int) - 128)).toNat : Int)), 2)
   else
    Option.bind (α := Bool) (
     if 224 ≤ c1658.toNat then
      if c1658.toNat < 240 then
       if IntKind.i64.wrap (a1 + 2) < (a0.length : Int) then
        (at? a0 (IntKind.i64.wrap (a1 + 1))).bind fun c1678 =>
        if Int.fdiv (c1678.toNat : Int) (2 ^ (min 6 8)) = 2 then
         (at? a0 (IntKind.i64.wrap (a1 + 2))).bind fun c1681 =>
         some (decide (Int.fdiv (c1681.toNat : Int) (2 ^ (min 6 8)) = 2))
        else
         some false
       else
        some false
      else
       some false
     else
      some false
    ) fun x1672 =>
    if x1672 = true then
     (at? a0 (IntKind.i64.wrap (a1 + 1))).bind fun c1684 =>
     if (w8 ((c1684.toNat : Int) - 128)).toNat * 64 ≤ 9223372036854775807 then
      (at? a0 (IntKind.i64.wrap (a1 + 2))).bind fun c1687 =>
      if (2048 : Int) ≤ IntKind.i64.wrap ((IntKind.i64.wrap ((IntKind.i64.wrap (((c1658.toNat : Int) - 224) * 4096)) + (((w8 ((c1684.toNat : Int) - 128)).toNat : Int) * 64))) + ((w8 ((c1687.toNat : Int) - 128)).toNat : Int)) then
       some (IntKind.i64.wrap ((IntKind.i64.wrap ((IntKind.i64.wrap (((c1658.toNat : Int) - 224) * 4096)) + (((w8 ((c1684.toNat : Int) - 128)).toNat : Int) * 64))) + ((w8 ((c1687.toNat : Int) - 128)).toNat : Int)), 3)
      else
       some (0, 0)
     else none
    else
     some (0, 0)
def post152 (r : (Int × Int)) (v : Value) (fs : List Fact) : Prop := v = .tuple #[.int .i64 r.1, .int .i64 r.2] ∧ fs = [((Ty.int .i64).fact r.1 [.int .i64 r.1]), ((Ty.int .i64).fact r.2 [.int .i64 r.2])]
theorem en152 : Enters Tryz.prog 152 := ⟨_, Tryz.func152, by kernel_rfl, rfl⟩
theorem f152_spec {a0 : Str} {a1 : Int} {r : (Int × Int)} (hr : m152 a0 a1 = some r) : Spec Tryz.prog 152 [str a0, .int .i64 a1] [(Ty.str.fact a0 [str a0]), ((Ty.int .i64).fact a1 [.int .i64 a1])] (post152 r) := by
 refine spec_start (N := 96) Tryz.func152 (by kernel_rfl) rfl rfl rfl ?_
 intro g hS
 unfold m152 at hr
 refine at_inv 1 rfl (fun l1657 => ?_)
 replace l1657 : (-9223372036854775808) ≤ a1 ∧ a1 ≤ 9223372036854775807 := l1657
 refine s_sr (s_as rfl (s_as rfl (s_ntsr (s_mv rfl (s_mv rfl ?_)))))
 replace hr := obind hr
 obtain ⟨c1658, h1659, hr⟩ := hr
 have := at?_lt h1659
 have := c1658.toNat_lt
 refine at_lt (lt_sidx rfl rfl und9 (at?_lt h1659).1 (at?_get h1659)) rfl ?_
 refine at_lt (lt_convint rfl (iso und5) und3 (u8_in_i64 c1658)) rfl (s_as rfl (s_nt (at_seq (s_sr (s_mv rfl (at_lt (lt_lss rfl rfl) rfl (s_nt ?_)))))))
 by_cases h1660 : c1658.toNat < 128
 ·replace hr := ipos h1660 hr
  refine at_true rfl (decide_eq_true (by omega)) ?_
  refine s_sr (s_mv rfl (s_as rfl (s_as rfl (s_nt (at_ret ?_)))))
  have hq := oinj hr
  clear hr
  subst hq
  refine at_then_ret (at_int .i64 (c1658.toNat : Int) (u8_in_i64 c1658) (at_int .i64 1 (by simp only [lo, hi]; omega) ?_))
  exact at_return (.tuple #[.int .i64 (c1658.toNat : Int), .int .i64 1]) [1, 0] hS Tryz.results152 (.cons (.tmp rfl) (.cons (.tmp rfl) .nil)) rfl rfl ⟨rfl, rfl⟩
 replace hr := ineg h1660 hr
 refine at_false rfl (decide_eq_false (by omega)) ?_
 refine at_skip (at_then (at_seq (at_seq ?_)))
 replace hr := obind hr
 obtain ⟨x1661, hc1662, hr⟩ := hr
 refine at_cut (V := Unit) (fun e => (⟨[(0, str a0), (1, .int .i64 a1), (6, .int .i64 (c1658.toNat : Int)), (35, .bool x1661)], [], [], [(Ty.str.fact a0 [str a0]), ((Ty.int .i64).fact a1 [.int .i64 a1])]⟩ : St)) ?_ ?_
 ·clear hr
  have hr := hc1662
  clear hc1662
  refine at_region (s_mv rfl (at_lt (lt_geq rfl rfl) rfl (s_mv rfl ?_)))
  by_cases h1663 : 194 ≤ c1658.toNat
  ·replace hr := ipos h1663 hr
   refine at_on rfl rfl (decide_eq_true (by omega)) ?_
   refine s_mv rfl ?_
   refine at_on rfl rfl (decide_eq_true (by omega)) ?_
   refine at_lt (lt_lss rfl rfl) rfl ?_
   refine at_lt (lt_pick true rfl (decide_eq_true (by omega)) rfl) rfl ?_
   refine s_mv rfl ?_
   by_cases h1664 : c1658.toNat < 224
   ·replace hr := ipos h1664 hr
    refine at_on rfl rfl (decide_eq_true (by omega)) ?_
    refine s_mv rfl ?_
    refine at_on rfl rfl (decide_eq_true (by omega)) ?_
    refine at_lt (lt_addw rfl rfl) rfl ?_
    refine at_on rfl rfl (decide_eq_true (by omega)) ?_
    refine s_mv rfl ?_
    refine at_inv 0 rfl (fun l1665 => ?_)
    replace l1665 : a0.length ≤ 9223372036854775807 := l1665
    refine at_on rfl rfl (decide_eq_true (by omega)) ?_
    refine at_lt (lt_slen rfl und9) rfl ?_
    refine at_on rfl rfl (decide_eq_true (by omega)) ?_
    refine at_lt (lt_lss rfl rfl) rfl ?_
    refine at_lt (lt_pick true rfl (decide_eq_true (by omega)) rfl) rfl ?_
    refine s_mv rfl ?_
    by_cases h1666 : IntKind.i64.wrap (a1 + 1) < (a0.length : Int)
    ·replace hr := ipos h1666 hr
     refine at_on rfl rfl (decide_eq_true (by first | exact h1666 | omega)) ?_
     refine s_mv rfl ?_
     refine at_on rfl rfl (decide_eq_true (by first | exact h1666 | omega)) ?_
     refine s_mv rfl ?_
     refine at_on rfl rfl (decide_eq_true (by first | exact h1666 | omega)) ?_
     refine at_lt (lt_addw rfl rfl) rfl ?_
     replace hr := obind hr
     obtain ⟨c1667, h1668, hr⟩ := hr
     have := at?_lt h1668
     have := c1667.toNat_lt
     refine at_on rfl rfl (decide_eq_true (by first | exact h1666 | omega)) ?_
     refine at_lt (lt_sidx rfl rfl und9 (at?_lt h1668).1 (at?_get h1668)) rfl ?_
     refine at_on rfl rfl (decide_eq_true (by first | exact h1666 | omega)) ?_
     refine at_lt (lt_shr rfl rfl (by decide)) rfl ?_
     refine at_on rfl rfl (decide_eq_true (by first | exact h1666 | omega)) ?_
     refine at_lt (lt_eql rfl rfl) rfl ?_
     refine at_lt (lt_pick true rfl (decide_eq_true (by first | exact h1666 | omega)) rfl) rfl ?_
     refine at_nil ?_
     have hq := oinj hr
     clear hr
     subst hq
     exact at_leaf () ⟨⟨rfl, ⟨rfl, ⟨rfl, ⟨rfl, trivial⟩⟩⟩⟩, ⟨[], rfl⟩, ⟨[], rfl⟩, ⟨[0, 1], rfl⟩⟩
    replace hr := ineg h1666 hr
    refine at_off rfl rfl (decide_eq_false (by first | exact h1666 | omega)) rfl ?_
    refine at_off rfl rfl (decide_eq_false (by first | exact h1666 | omega)) rfl ?_
    refine at_off rfl rfl (decide_eq_false (by first | exact h1666 | omega)) rfl ?_
    refine at_off rfl rfl (decide_eq_false (by first | exact h1666 | omega)) rfl ?_
    refine at_off rfl rfl (decide_eq_false (by first | exact h1666 | omega)) rfl ?_
    refine at_off rfl rfl (decide_eq_false (by first | exact h1666 | omega)) rfl ?_
    refine at_lt (lt_pick false rfl (decide_eq_false (by first | exact h1666 | omega)) rfl) rfl ?_
    refine at_nil ?_
    have hq := oinj hr
    clear hr
    subst hq
    exact at_leaf () ⟨⟨rfl, ⟨rfl, ⟨rfl, ⟨rfl, trivial⟩⟩⟩⟩, ⟨[], rfl⟩, ⟨[], rfl⟩, ⟨[0, 1], rfl⟩⟩
   replace hr := ineg h1664 hr
   refine at_off rfl rfl (decide_eq_false (by omega)) rfl ?_
   refine at_off rfl rfl (decide_eq_false (by omega)) rfl ?_
   refine at_off rfl rfl (decide_eq_false (by omega)) rfl ?_
   refine at_off rfl rfl (decide_eq_false (by omega)) rfl ?_
   refine at_off rfl rfl (decide_eq_false (by omega)) rfl ?_
   refine at_lt (lt_pick false rfl (decide_eq_false (by omega)) rfl) rfl ?_
   refine s_mv rfl (at_off rfl rfl rfl rfl (at_off rfl rfl rfl rfl (at_off rfl rfl rfl rfl (at_off rfl rfl rfl rfl (at_off rfl rfl rfl rfl (at_off rfl rfl rfl rfl (at_lt (lt_pick false rfl rfl rfl) rfl (at_nil ?_))))))))
   have hq := oinj hr
   clear hr
   subst hq
   exact at_leaf () ⟨⟨rfl, ⟨rfl, ⟨rfl, ⟨rfl, trivial⟩⟩⟩⟩, ⟨[], rfl⟩, ⟨[], rfl⟩, ⟨[0, 1], rfl⟩⟩
  replace hr := ineg h1663 hr
  refine at_off rfl rfl (decide_eq_false (by omega)) rfl ?_
  refine at_off rfl rfl (decide_eq_false (by omega)) rfl ?_
  refine at_lt (lt_pick false rfl (decide_eq_false (by omega)) rfl) rfl ?_
  refine s_mv rfl (at_off rfl rfl rfl rfl (at_off rfl rfl rfl rfl (at_off rfl rfl rfl rfl (at_off rfl rfl rfl rfl (at_off rfl rfl rfl rfl (at_lt (lt_pick false rfl rfl rfl) rfl (s_mv rfl (at_off rfl rfl rfl rfl (at_off rfl rfl rfl rfl ?_)))))))))
  refine at_off rfl rfl rfl rfl (at_off rfl rfl rfl rfl (at_off rfl rfl rfl rfl (at_off rfl rfl rfl rfl (at_lt (lt_pick false rfl rfl rfl) rfl (at_nil ?_)))))
  have hq := oinj hr
  clear hr
  subst hq
  exact at_leaf () ⟨⟨rfl, ⟨rfl, ⟨rfl, ⟨rfl, trivial⟩⟩⟩⟩, ⟨[], rfl⟩, ⟨[], rfl⟩, ⟨[0, 1], rfl⟩⟩
 clear hc1662
 intro _
 change At _ _ (⟨[(0, str a0), (1, .int .i64 a1), (6, .int .i64 (c1658.toNat : Int)), (35, .bool x1661)], [], [], [(Ty.str.fact a0 [str a0]), ((Ty.int .i64).fact a1 [.int .i64 a1])]⟩ : St) _
 refine at_then ?_
 by_cases h1669 : x1661 = true
 ·replace hr := ipos h1669 hr
  refine at_true rfl h1669 (s_sr (s_mv rfl (at_lt (lt_sub rfl rfl (by simp only [lo, hi]; omega)) rfl (at_lt (lt_mulw rfl rfl) rfl (s_mv rfl (s_mv rfl (at_lt (lt_addw rfl rfl) rfl ?_)))))))
  replace hr := obind hr
  obtain ⟨c1670, h1671, hr⟩ := hr
  have := at?_lt h1671
  have := c1670.toNat_lt
  refine at_lt (lt_sidx rfl rfl und9 (at?_lt h1671).1 (at?_get h1671)) rfl ?_
  refine at_lt (lt_u8 (lt_subw rfl rfl)) rfl (at_lt (lt_convint rfl (iso und5) und3 (u8_in_i64 (w8 ((c1670.toNat : Int) - 128)))) rfl (at_lt (lt_addw rfl rfl) rfl (s_as rfl (s_as rfl (s_nt (at_ret ?_))))))
  have hq := oinj hr
  clear hr
  subst hq
  refine at_then_ret (at_int .i64 (IntKind.i64.wrap ((IntKind.i64.wrap (((c1658.toNat : Int) - 192) * 64)) + ((w8 ((c1670.toNat : Int) - 128)).toNat : Int))) (wrap_bd .i64 _) (at_int .i64 2 (by simp only [lo, hi]; omega) ?_))
  exact at_return (.tuple #[.int .i64 (IntKind.i64.wrap ((IntKind.i64.wrap (((c1658.toNat : Int) - 192) * 64)) + ((w8 ((c1670.toNat : Int) - 128)).toNat : Int))), .int .i64 2]) [1, 0] hS Tryz.results152 (.cons (.tmp rfl) (.cons (.tmp rfl) .nil)) rfl rfl ⟨rfl, rfl⟩
 replace hr := ineg h1669 hr
 refine at_false rfl (bf h1669) (at_skip (at_then (at_seq (at_seq ?_))))
 replace hr := obind hr
 obtain ⟨x1672, hc1673, hr⟩ := hr
 refine at_cut (V := Unit) (fun e => (⟨[(0, str a0), (1, .int .i64 a1), (6, .int .i64 (c1658.toNat : Int)), (74, .bool x1672)], [], [], [(Ty.str.fact a0 [str a0]), ((Ty.int .i64).fact a1 [.int .i64 a1])]⟩ : St)) ?_ ?_
 ·clear hr
  have hr := hc1673
  clear hc1673
  refine at_region (s_mv rfl (at_lt (lt_geq rfl rfl) rfl (s_mv rfl ?_)))
  by_cases h1674 : 224 ≤ c1658.toNat
  ·replace hr := ipos h1674 hr
   refine at_on rfl rfl (decide_eq_true (by omega)) ?_
   refine s_mv rfl ?_
   refine at_on rfl rfl (decide_eq_true (by omega)) ?_
   refine at_lt (lt_lss rfl rfl) rfl ?_
   refine at_lt (lt_pick true rfl (decide_eq_true (by omega)) rfl) rfl ?_
   refine s_mv rfl ?_
   by_cases h1675 : c1658.toNat < 240
   ·replace hr := ipos h1675 hr
    refine at_on rfl rfl (decide_eq_true (by omega)) ?_
    refine s_mv rfl ?_
    refine at_on rfl rfl (decide_eq_true (by omega)) ?_
    refine at_lt (lt_addw rfl rfl) rfl ?_
    refine at_on rfl rfl (decide_eq_true (by omega)) ?_
    refine s_mv rfl ?_
    refine at_inv 0 rfl (fun l1676 => ?_)
    replace l1676 : a0.length ≤ 9223372036854775807 := l1676
    refine at_on rfl rfl (decide_eq_true (by omega)) ?_
    refine at_lt (lt_slen rfl und9) rfl ?_
    refine at_on rfl rfl (decide_eq_true (by omega)) ?_
    refine at_lt (lt_lss rfl rfl) rfl ?_
    refine at_lt (lt_pick true rfl (decide_eq_true (by omega)) rfl) rfl ?_
    refine s_mv rfl ?_
    by_cases h1677 : IntKind.i64.wrap (a1 + 2) < (a0.length : Int)
    ·replace hr := ipos h1677 hr
     refine at_on rfl rfl (decide_eq_true (by first | exact h1677 | omega)) ?_
     refine s_mv rfl ?_
     refine at_on rfl rfl (decide_eq_true (by first | exact h1677 | omega)) ?_
     refine s_mv rfl ?_
     refine at_on rfl rfl (decide_eq_true (by first | exact h1677 | omega)) ?_
     refine at_lt (lt_addw rfl rfl) rfl ?_
     replace hr := obind hr
     obtain ⟨c1678, h1679, hr⟩ := hr
     have := at?_lt h1679
     have := c1678.toNat_lt
     refine at_on rfl rfl (decide_eq_true (by first | exact h1677 | omega)) ?_
     refine at_lt (lt_sidx rfl rfl und9 (at?_lt h1679).1 (at?_get h1679)) rfl ?_
     refine at_on rfl rfl (decide_eq_true (by first | exact h1677 | omega)) ?_
     refine at_lt (lt_shr rfl rfl (by decide)) rfl ?_
     refine at_on rfl rfl (decide_eq_true (by first | exact h1677 | omega)) ?_
     refine at_lt (lt_eql rfl rfl) rfl ?_
     refine at_lt (lt_pick true rfl (decide_eq_true (by first | exact h1677 | omega)) rfl) rfl ?_
     refine s_mv rfl ?_
     by_cases h1680 : Int.fdiv (c1678.toNat : Int) (2 ^ (min 6 8)) = 2
     ·replace hr := ipos h1680 hr
      refine at_on rfl rfl (decide_eq_true (by first | exact h1680 | omega)) ?_
      refine s_mv rfl ?_
      refine at_on rfl rfl (decide_eq_true (by first | exact h1680 | omega)) ?_
      refine s_mv rfl ?_
      refine at_on rfl rfl (decide_eq_true (by first | exact h1680 | omega)) ?_
      refine at_lt (lt_addw rfl rfl) rfl ?_
      replace hr := obind hr
      obtain ⟨c1681, h1682, hr⟩ := hr
      have := at?_lt h1682
      have := c1681.toNat_lt
      refine at_on rfl rfl (decide_eq_true (by first | exact h1680 | omega)) ?_
      refine at_lt (lt_sidx rfl rfl und9 (at?_lt h1682).1 (at?_get h1682)) rfl ?_
      refine at_on rfl rfl (decide_eq_true (by first | exact h1680 | omega)) ?_
      refine at_lt (lt_shr rfl rfl (by decide)) rfl ?_
      refine at_on rfl rfl (decide_eq_true (by first | exact h1680 | omega)) ?_
      refine at_lt (lt_eql rfl rfl) rfl ?_
      refine at_lt (lt_pick true rfl (decide_eq_true (by first | exact h1680 | omega)) rfl) rfl ?_
      refine at_nil ?_
      have hq := oinj hr
      clear hr
      subst hq
      exact at_leaf () ⟨⟨rfl, ⟨rfl, ⟨rfl, ⟨rfl, trivial⟩⟩⟩⟩, ⟨[], rfl⟩, ⟨[], rfl⟩, ⟨[0, 1], rfl⟩⟩
     replace hr := ineg h1680 hr
     refine at_off rfl rfl (decide_eq_false (by first | exact h1680 | omega)) rfl ?_
     refine at_off rfl rfl (decide_eq_false (by first | exact h1680 | omega)) rfl ?_
     refine at_off rfl rfl (decide_eq_false (by first | exact h1680 | omega)) rfl ?_
     refine at_off rfl rfl (decide_eq_false (by first | exact h1680 | omega)) rfl ?_
     refine at_off rfl rfl (decide_eq_false (by first | exact h1680 | omega)) rfl ?_
     refine at_off rfl rfl (decide_eq_false (by first | exact h1680 | omega)) rfl ?_
     refine at_lt (lt_pick false rfl (decide_eq_false (by first | exact h1680 | omega)) rfl) rfl ?_
     refine at_nil ?_
     have hq := oinj hr
     clear hr
     subst hq
     exact at_leaf () ⟨⟨rfl, ⟨rfl, ⟨rfl, ⟨rfl, trivial⟩⟩⟩⟩, ⟨[], rfl⟩, ⟨[], rfl⟩, ⟨[0, 1], rfl⟩⟩
    replace hr := ineg h1677 hr
    refine at_off rfl rfl (decide_eq_false (by first | exact h1677 | omega)) rfl ?_
    refine at_off rfl rfl (decide_eq_false (by first | exact h1677 | omega)) rfl ?_
    refine at_off rfl rfl (decide_eq_false (by first | exact h1677 | omega)) rfl ?_
    refine at_off rfl rfl (decide_eq_false (by first | exact h1677 | omega)) rfl ?_
    refine at_off rfl rfl (decide_eq_false (by first | exact h1677 | omega)) rfl ?_
    refine at_off rfl rfl (decide_eq_false (by first | exact h1677 | omega)) rfl ?_
    refine at_lt (lt_pick false rfl (decide_eq_false (by first | exact h1677 | omega)) rfl) rfl ?_
    refine s_mv rfl (at_off rfl rfl rfl rfl (at_off rfl rfl rfl rfl (at_off rfl rfl rfl rfl (at_off rfl rfl rfl rfl (at_off rfl rfl rfl rfl (at_off rfl rfl rfl rfl (at_lt (lt_pick false rfl rfl rfl) rfl (at_nil ?_))))))))
    have hq := oinj hr
    clear hr
    subst hq
    exact at_leaf () ⟨⟨rfl, ⟨rfl, ⟨rfl, ⟨rfl, trivial⟩⟩⟩⟩, ⟨[], rfl⟩, ⟨[], rfl⟩, ⟨[0, 1], rfl⟩⟩
   replace hr := ineg h1675 hr
   refine at_off rfl rfl (decide_eq_false (by omega)) rfl ?_
   refine at_off rfl rfl (decide_eq_false (by omega)) rfl ?_
   refine at_off rfl rfl (decide_eq_false (by omega)) rfl ?_
   refine at_off rfl rfl (decide_eq_false (by omega)) rfl ?_
   refine at_off rfl rfl (decide_eq_false (by omega)) rfl ?_
   refine at_lt (lt_pick false rfl (decide_eq_false (by omega)) rfl) rfl ?_
   refine s_mv rfl (at_off rfl rfl rfl rfl (at_off rfl rfl rfl rfl (at_off rfl rfl rfl rfl (at_off rfl rfl rfl rfl (at_off rfl rfl rfl rfl (at_off rfl rfl rfl rfl (at_lt (lt_pick false rfl rfl rfl) rfl (s_mv rfl (at_off rfl rfl rfl rfl ?_)))))))))
   refine at_off rfl rfl rfl rfl (at_off rfl rfl rfl rfl (at_off rfl rfl rfl rfl (at_off rfl rfl rfl rfl (at_off rfl rfl rfl rfl (at_lt (lt_pick false rfl rfl rfl) rfl (at_nil ?_))))))
   have hq := oinj hr
   clear hr
   subst hq
   exact at_leaf () ⟨⟨rfl, ⟨rfl, ⟨rfl, ⟨rfl, trivial⟩⟩⟩⟩, ⟨[], rfl⟩, ⟨[], rfl⟩, ⟨[0, 1], rfl⟩⟩
  replace hr := ineg h1674 hr
  refine at_off rfl rfl (decide_eq_false (by omega)) rfl ?_
  refine at_off rfl rfl (decide_eq_false (by omega)) rfl ?_
  refine at_lt (lt_pick false rfl (decide_eq_false (by omega)) rfl) rfl ?_
  refine s_mv rfl (at_off rfl rfl rfl rfl (at_off rfl rfl rfl rfl (at_off rfl rfl rfl rfl (at_off rfl rfl rfl rfl (at_off rfl rfl rfl rfl (at_lt (lt_pick false rfl rfl rfl) rfl (s_mv rfl (at_off rfl rfl rfl rfl (at_off rfl rfl rfl rfl ?_)))))))))
  refine at_off rfl rfl rfl rfl (at_off rfl rfl rfl rfl (at_off rfl rfl rfl rfl (at_off rfl rfl rfl rfl (at_lt (lt_pick false rfl rfl rfl) rfl (s_mv rfl (at_off rfl rfl rfl rfl (at_off rfl rfl rfl rfl (at_off rfl rfl rfl rfl (at_off rfl rfl rfl rfl ?_)))))))))
  refine at_off rfl rfl rfl rfl (at_off rfl rfl rfl rfl (at_lt (lt_pick false rfl rfl rfl) rfl (at_nil ?_)))
  have hq := oinj hr
  clear hr
  subst hq
  exact at_leaf () ⟨⟨rfl, ⟨rfl, ⟨rfl, ⟨rfl, trivial⟩⟩⟩⟩, ⟨[], rfl⟩, ⟨[], rfl⟩, ⟨[0, 1], rfl⟩⟩
 clear hc1673
 intro _
 change At _ _ (⟨[(0, str a0), (1, .int .i64 a1), (6, .int .i64 (c1658.toNat : Int)), (74, .bool x1672)], [], [], [(Ty.str.fact a0 [str a0]), ((Ty.int .i64).fact a1 [.int .i64 a1])]⟩ : St) _
 refine at_then ?_
 by_cases h1683 : x1672 = true
 ·replace hr := ipos h1683 hr
  refine at_true rfl h1683 (at_seq ?_)
  replace hr := obind hr
  obtain ⟨c1684, h1685, hr⟩ := hr
  have := at?_lt h1685
  have := c1684.toNat_lt
  replace hr := imust hr
  obtain ⟨h1686, hr⟩ := hr
  replace hr := obind hr
  obtain ⟨c1687, h1688, hr⟩ := hr
  have := at?_lt h1688
  have := c1687.toNat_lt
  refine aa_start 19 (by kernel_rfl) ?_
  refine aa_p 0 rfl (lt_move rfl) (aa_p 1 rfl (lt_sub rfl rfl (by simp only [lo, hi]; omega)) (aa_p 2 rfl (lt_mulw rfl rfl) (aa_p 3 rfl (lt_move rfl) (aa_p 4 rfl (lt_move rfl) (aa_p 5 rfl (lt_addw rfl rfl) ?_)))))
  refine aa_p 6 rfl (lt_sidx rfl rfl und9 (at?_lt h1685).1 (at?_get h1685)) ?_
  refine aa_p 7 rfl (lt_u8 (lt_subw rfl rfl)) (aa_p 8 rfl (lt_convint rfl (iso und5) und3 (u8_in_i64 (w8 ((c1684.toNat : Int) - 128)))) (aa_p 9 rfl (lt_mul rfl rfl (by simp only [lo, hi]; omega)) (aa_p 10 rfl (lt_addw rfl rfl) (aa_p 11 rfl (lt_move rfl) (aa_p 12 rfl (lt_move rfl) (aa_p 13 rfl (lt_addw rfl rfl) ?_))))))
  refine aa_p 14 rfl (lt_sidx rfl rfl und9 (at?_lt h1688).1 (at?_get h1688)) ?_
  refine aa_p 15 rfl (lt_u8 (lt_subw rfl rfl)) (aa_p 16 rfl (lt_convint rfl (iso und5) und3 (u8_in_i64 (w8 ((c1687.toNat : Int) - 128)))) (aa_p 17 rfl (lt_addw rfl rfl) (aa_p 18 rfl (lt_assign rfl) ?_)))
  refine aa_done (by kernel_rfl) (ts_in 0 0 rfl rfl) ?_
  refine s_tsr (s_mv rfl (at_lt (lt_geq rfl rfl) rfl (s_nt ?_)))
  by_cases h1689 : (2048 : Int) ≤ IntKind.i64.wrap ((IntKind.i64.wrap ((IntKind.i64.wrap (((c1658.toNat : Int) - 224) * 4096)) + (((w8 ((c1684.toNat : Int) - 128)).toNat : Int) * 64))) + ((w8 ((c1687.toNat : Int) - 128)).toNat : Int))
  ·replace hr := ipos h1689 hr
   refine at_true rfl (decide_eq_true (by first | exact h1689 | omega)) ?_
   refine s_sr (s_mv rfl (s_as rfl (s_as rfl (s_nt (at_ret ?_)))))
   have hq := oinj hr
   clear hr
   subst hq
   refine at_then_ret (at_int .i64 (IntKind.i64.wrap ((IntKind.i64.wrap ((IntKind.i64.wrap (((c1658.toNat : Int) - 224) * 4096)) + (((w8 ((c1684.toNat : Int) - 128)).toNat : Int) * 64))) + ((w8 ((c1687.toNat : Int) - 128)).toNat : Int))) (wrap_bd .i64 _) (at_int .i64 3 (by simp only [lo, hi]; omega) ?_))
   exact at_return (.tuple #[.int .i64 (IntKind.i64.wrap ((IntKind.i64.wrap ((IntKind.i64.wrap (((c1658.toNat : Int) - 224) * 4096)) + (((w8 ((c1684.toNat : Int) - 128)).toNat : Int) * 64))) + ((w8 ((c1687.toNat : Int) - 128)).toNat : Int))), .int .i64 3]) [1, 0] hS Tryz.results152 (.cons (.tmp rfl) (.cons (.tmp rfl) .nil)) rfl rfl ⟨rfl, rfl⟩
  replace hr := ineg h1689 hr
  refine at_false rfl (decide_eq_false (by first | exact h1689 | omega)) ?_
  refine at_skip (s_tsr (s_as rfl (s_as rfl (s_nt (at_ret ?_)))))
  have hq := oinj hr
  clear hr
  subst hq
  refine at_int .i64 0 (by simp only [lo, hi]; omega) ?_
  exact at_return (.tuple #[.int .i64 0, .int .i64 0]) [0, 0] hS Tryz.results152 (.cons (.tmp rfl) (.cons (.tmp rfl) .nil)) rfl rfl ⟨rfl, rfl⟩
 replace hr := ineg h1683 hr
 refine at_false rfl (bf h1683) (at_skip (s_tsr (s_as rfl (s_as rfl (s_nt (at_ret ?_))))))
 have hq := oinj hr
 clear hr
 subst hq
 refine at_int .i64 0 (by simp only [lo, hi]; omega) ?_
 exact at_return (.tuple #[.int .i64 0, .int .i64 0]) [0, 0] hS Tryz.results152 (.cons (.tmp rfl) (.cons (.tmp rfl) .nil)) rfl rfl ⟨rfl, rfl⟩
def m186 (a0 : Int) (a1 : Int) (a2 : Int) : Option Bool :=
  if a1 ≤ a0 then
   some (decide (a0 ≤ a2))
  else
   some false
def post186 (r : Bool) (v : Value) (fs : List Fact) : Prop := v = .bool r ∧ fs = []
theorem en186 : Enters Tryz.prog 186 := ⟨_, Tryz.func186, by kernel_rfl, rfl⟩
theorem f186_spec {a0 : Int} {a1 : Int} {a2 : Int} {r : Bool} (hr : m186 a0 a1 a2 = some r) : Spec Tryz.prog 186 [.int .i64 a0, .int .i64 a1, .int .i64 a2] [((Ty.int .i64).fact a0 [.int .i64 a0]), ((Ty.int .i64).fact a1 [.int .i64 a1]), ((Ty.int .i64).fact a2 [.int .i64 a2])] (post186 r) := by
 refine spec_start (N := 15) Tryz.func186 (by kernel_rfl) rfl rfl rfl ?_
 intro g hS
 unfold m186 at hr
 refine at_inv 0 rfl (fun l1690 => ?_)
 replace l1690 : (-9223372036854775808) ≤ a0 ∧ a0 ≤ 9223372036854775807 := l1690
 refine at_inv 1 rfl (fun l1691 => ?_)
 replace l1691 : (-9223372036854775808) ≤ a1 ∧ a1 ≤ 9223372036854775807 := l1691
 refine at_inv 2 rfl (fun l1692 => ?_)
 replace l1692 : (-9223372036854775808) ≤ a2 ∧ a2 ≤ 9223372036854775807 := l1692
 refine s_sr (s_as rfl (s_ntsr (s_mv rfl (s_mv rfl (at_lt (lt_geq rfl rfl) rfl (s_mv rfl ?_))))))
 by_cases h1693 : a1 ≤ a0
 ·replace hr := ipos h1693 hr
  refine at_on rfl rfl (decide_eq_true (by first | exact h1693 | omega)) ?_
  refine s_mv rfl ?_
  refine at_on rfl rfl (decide_eq_true (by first | exact h1693 | omega)) ?_
  refine s_mv rfl ?_
  refine at_on rfl rfl (decide_eq_true (by first | exact h1693 | omega)) ?_
  refine at_lt (lt_leq rfl rfl) rfl ?_
  refine at_lt (lt_pick true rfl (decide_eq_true (by first | exact h1693 | omega)) rfl) rfl ?_
  refine s_as rfl (s_nt (at_ret ?_))
  have hq := oinj hr
  clear hr
  subst hq
  exact at_return (.bool (decide (a0 ≤ a2))) [] hS Tryz.results186 (.cons (.tmp rfl) .nil) rfl rfl ⟨rfl, rfl⟩
 replace hr := ineg h1693 hr
 refine at_off rfl rfl (decide_eq_false (by first | exact h1693 | omega)) rfl ?_
 refine at_off rfl rfl (decide_eq_false (by first | exact h1693 | omega)) rfl ?_
 refine at_off rfl rfl (decide_eq_false (by first | exact h1693 | omega)) rfl ?_
 refine at_lt (lt_pick false rfl (decide_eq_false (by first | exact h1693 | omega)) rfl) rfl ?_
 refine s_as rfl (s_nt (at_ret ?_))
 have hq := oinj hr
 clear hr
 subst hq
 exact at_return (.bool false) [] hS Tryz.results186 (.cons (.tmp rfl) .nil) rfl rfl ⟨rfl, rfl⟩
def m187_l1 (a0 : Str) (a1 : Int) : Nat → Int → Option (Fl Bool Unit)
  | 0, _ => none
  | k + 1, x1695 =>
    if x1695 < (a0.length : Int) then
     (m152 a0 x1695).bind fun x1702 =>
     if x1702.1 = a1 then
      some (Fl.ret true)
     else
      m187_l1 a0 a1 k (IntKind.i64.wrap (x1695 + x1702.2))
    else
     some (Fl.go ())
def m187 (a0 : Str) (a1 : Int) : Option Bool :=
  (m187_l1 a0 a1 (a0.length + 1) 0).bind fun r => match r with
  | .ret x => some x
  | .go _ =>
   some false
def post187 (r : Bool) (v : Value) (fs : List Fact) : Prop := v = .bool r ∧ fs = []
theorem en187 : Enters Tryz.prog 187 := ⟨_, Tryz.func187, by kernel_rfl, rfl⟩
theorem f187_spec {a0 : Str} {a1 : Int} {r : Bool} (hr : m187 a0 a1 = some r) : Spec Tryz.prog 187 [str a0, .int .i64 a1] [(Ty.str.fact a0 [str a0]), ((Ty.int .i64).fact a1 [.int .i64 a1])] (post187 r) := by
 refine spec_start (N := 24) Tryz.func187 (by kernel_rfl) rfl rfl rfl ?_
 intro g hS
 unfold m187 at hr
 refine at_inv 1 rfl (fun l1694 => ?_)
 replace l1694 : (-9223372036854775808) ≤ a1 ∧ a1 ≤ 9223372036854775807 := l1694
 refine s_sr (s_as rfl (s_nt (at_seq (s_sr (s_as rfl (s_nt (at_int .i64 0 (by simp only [lo, hi]; omega) ?_)))))))
 replace hr := obind hr
 obtain ⟨r1696, hl1697, hk1698⟩ := hr
 refine at_cutP (V := (Unit) × (Unit)) (fun v => r1696 = Fl.go v.1) (fun v => (⟨[], [], [], []⟩ : St)) ?_ ?_
 ·refine at_block ?_
  refine at_loopW (σ := Int) (V := Unit) (r := r1696) (fun n s => m187_l1 a0 a1 n s) (fun s e => (⟨[(0, str a0), (1, .int .i64 a1), (5, .int .i64 s)], [], [], [((Ty.int .i64).fact s [.int .i64 s]), (Ty.str.fact a0 [str a0]), ((Ty.int .i64).fact a1 [.int .i64 a1])]⟩ : St)) (fun _ => rfl) _ 0 () hl1697 ⟨⟨rfl, ⟨rfl, ⟨rfl, trivial⟩⟩⟩, ⟨[], rfl⟩, ⟨[], rfl⟩, ⟨[0, 1, 2], rfl⟩⟩ ?_
  clear hl1697
  intro n x1695 hr e
  skip
  skip
  change m187_l1 a0 a1 (n + 1) x1695 = some r1696 at hr
  change At _ _ (⟨[(0, str a0), (1, .int .i64 a1), (5, .int .i64 x1695)], [], [], [((Ty.int .i64).fact x1695 [.int .i64 x1695]), (Ty.str.fact a0 [str a0]), ((Ty.int .i64).fact a1 [.int .i64 a1])]⟩ : St) _
  rw [m187_l1] at hr
  refine at_inv 0 rfl (fun l1699 => ?_)
  replace l1699 : (-9223372036854775808) ≤ x1695 ∧ x1695 ≤ 9223372036854775807 := l1699
  refine at_seq (s_sr (s_mv rfl (s_mv rfl ?_)))
  refine at_inv 1 rfl (fun l1700 => ?_)
  replace l1700 : a0.length ≤ 9223372036854775807 := l1700
  refine at_lt (lt_slen rfl und9) rfl (at_lt (lt_lss rfl rfl) rfl (s_nt ?_))
  by_cases h1701 : x1695 < (a0.length : Int)
  ·replace hr := ipos h1701 hr
   refine at_true rfl (decide_eq_true (by first | exact h1701 | omega)) ?_
   refine at_skip (at_then (at_block (s_sr (s_mv rfl (s_mv rfl ?_)))))
   replace hr := obind hr
   obtain ⟨x1702, h1703, hr⟩ := hr
   refine at_hv rfl (hv_call0 [1, 0] (f152_spec h1703) rfl rfl rfl rfl ?_)
   rintro _ _ ⟨rfl, rfl⟩
   refine at_inv 0 rfl (fun l1704 => ?_)
   replace l1704 : (-9223372036854775808) ≤ x1702.1 ∧ x1702.1 ≤ 9223372036854775807 := l1704
   refine at_inv 1 rfl (fun l1705 => ?_)
   replace l1705 : (-9223372036854775808) ≤ x1702.2 ∧ x1702.2 ≤ 9223372036854775807 := l1705
   refine s_mv rfl (at_lt (lt_extract rfl rfl) rfl (at_lt (lt_extract rfl rfl) rfl (s_as rfl (s_as rfl (s_nt (at_seq (s_sr (s_mv rfl (s_mv rfl ?_)))))))))
   refine at_lt (lt_eql rfl rfl) rfl (s_nt ?_)
   by_cases h1706 : x1702.1 = a1
   ·replace hr := ipos h1706 hr
    refine at_true rfl (decide_eq_true (by first | exact h1706 | omega)) ?_
    refine s_sr (s_as rfl (s_nt (at_ret ?_)))
    have hq := oinj hr
    clear hr
    subst hq
    have hq := oinj hk1698
    clear hk1698
    subst hq
    refine at_then_ret (at_in_ret (at_then_ret (at_in_ret (at_then_ret (at_then_ret ?_)))))
    exact at_return (.bool true) [] hS Tryz.results187 (.cons (.tmp rfl) .nil) rfl rfl ⟨rfl, rfl⟩
   replace hr := ineg h1706 hr
   refine at_false rfl (decide_eq_false (by first | exact h1706 | omega)) ?_
   refine at_skip (s_tr (s_mv rfl (s_mv rfl (at_lt (lt_addw rfl rfl) rfl (s_as rfl (at_nil (at_in (at_int .i64 (IntKind.i64.wrap (x1695 + x1702.2)) (wrap_bd .i64 _) ?_))))))))
   exact at_again (σ := Int) (V := Unit) (lp := fun n s => m187_l1 a0 a1 n s) (S := fun s e => (⟨[(0, str a0), (1, .int .i64 a1), (5, .int .i64 s)], [], [], [((Ty.int .i64).fact s [.int .i64 s]), (Ty.str.fact a0 [str a0]), ((Ty.int .i64).fact a1 [.int .i64 a1])]⟩ : St)) (IntKind.i64.wrap (x1695 + x1702.2)) () hr ⟨⟨rfl, ⟨rfl, ⟨rfl, trivial⟩⟩⟩, ⟨[], rfl⟩, ⟨[], rfl⟩, ⟨[0, 4, 5], rfl⟩⟩
  replace hr := ineg h1701 hr
  refine at_false rfl (decide_eq_false (by first | exact h1701 | omega)) ?_
  refine at_exit (at_then_exit (at_then_exit (at_in_exit ?_)))
  have hq := oinj hr
  clear hr
  subst hq
  exact at_leafP ((), ()) rfl ⟨trivial, ⟨[], rfl⟩, ⟨[], rfl⟩, ⟨[], rfl⟩⟩
 rintro ⟨_, _⟩ hp
 replace hr := hk1698
 subst hp
 clear hl1697
 change At _ _ (⟨[], [], [], []⟩ : St) _
 refine s_tsr (s_as rfl (s_nt (at_ret ?_)))
 have hq := oinj hr
 clear hr
 subst hq
 exact at_return (.bool false) [] hS Tryz.results187 (.cons (.tmp rfl) .nil) rfl rfl ⟨rfl, rfl⟩
def m173 (a0 : Int) : Option (Int × Int) :=
  (m186 a0 65281 65374).bind fun x1708 =>
  Option.bind (α := Int) (
   if x1708 = true then
    some (IntKind.i64.wrap (a0 - 65248))
   else
    some a0
  ) fun x1710 =>
  if x1710 = 32 then
   some (0, 4)
  else
   if x1710 = 160 then
    some (0, 4)
   else
    (m186 x1710 48 57).bind fun x1716 =>
    if x1716 = true then
     some (0, 3)
    else
     if x1710 = 178 then
      some (0, 3)
     else
      if x1710 = 179 then
       some (0, 3)
      else
       if x1710 = 185 then
        some (0, 3)
       else
        (m186 x1710 65 90).bind fun x1722 =>
        if x1722 = true then
         some (1, 1)
        else
         (m186 x1710 97 122).bind fun x1725 =>
         if x1725 = true then
          some (1, 1)
         else
          if x1710 = 383 then
           some (1, 1)
          else
           if x1710 = 64257 then
            some (1, 1)
           else
            if x1710 = 64258 then
             some (1, 1)
            else
             (m187 ([195, 128, 195, 136, 195, 140, 195, 146, 195, 153, 195, 160, 195, 168, 195, 172, 195, 178, 195, 185, 195, 129, 195, 137, 195, 141, 195, 147, 195, 154, 195, 157, 195, 161, 195, 169, 195, 173, 195, 179, 195, 186, 195, 189, 196, 134, 196, 135, 196, 185, 196, 186, 197, 131, 197, 132, 197, 148, 197, 149, 197, 154, 197, 155, 197, 185, 197, 186, 195, 130, 195, 138, 195, 142, 195, 148, 195, 155, 195, 162, 195, 170, 195, 174, 195, 180, 195, 187, 196, 136, 196, 137, 196, 156, 196, 157, 196, 164, 196, 165, 196, 180, 196, 181, 197, 156, 197, 157, 197, 180, 197, 181, 197, 182, 197, 183, 195, 131, 195, 145, 195, 149, 195, 163, 195, 177, 195, 181, 196, 168, 196, 169, 197, 168, 197, 169, 196, 128, 196, 129, 196, 146, 196, 147, 196, 170, 196, 171, 197, 140, 197, 141, 197, 170, 197, 171, 196, 130, 196, 131, 196, 148, 196, 149, 196, 158, 196, 159, 196, 172, 196, 173, 197, 142, 197, 143, 197, 172, 197, 173, 196, 138, 196, 139, 196, 150, 196, 151, 196, 160, 196, 161, 196, 176, 197, 187, 197, 188, 195, 132, 195, 139, 195, 143, 195, 150, 195, 156, 195, 164, 195, 171, 195, 175, 195, 182, 195, 188, 195, 191, 197, 184, 195, 133, 195, 165, 197, 174, 197, 175, 197, 144, 197, 145, 197, 176, 197, 177, 196, 140, 196, 141, 196, 142, 196, 143, 196, 154, 196, 155, 197, 135, 197, 136, 197, 152, 197, 153, 197, 160, 197, 161, 197, 164, 197, 165, 197, 189, 197, 190, 196, 189, 196, 190, 195, 135, 195, 167, 196, 162, 196, 163, 196, 182, 196, 183, 196, 187, 196, 188, 197, 133, 197, 134, 197, 150, 197, 151, 197, 158, 197, 159, 197, 162, 197, 163, 196, 132, 196, 133, 196, 152, 196, 153, 196, 174, 196, 175, 197, 178, 197, 179, 195, 134, 195, 166, 195, 152, 195, 184, 195, 144, 195, 176, 195, 158, 195, 190, 195, 159, 196, 144, 196, 145, 196, 166, 196, 167, 196, 177, 197, 129, 197, 130, 197, 146, 197, 147, 197, 138, 197, 139, 197, 166, 197, 167] : Str) x1710).bind fun x1731 =>
             if x1731 = true then
              some (1, 1)
             else
              (m186 x1710 768 772).bind fun x1734 =>
              if x1734 = true then
               some (0, 2)
              else
               (m186 x1710 774 776).bind fun x1737 =>
               if x1737 = true then
                some (0, 2)
               else
                (m186 x1710 778 780).bind fun x1740 =>
                if x1740 = true then
                 some (0, 2)
                else
                 if x1710 = 803 then
                  some (0, 2)
                 else
                  if x1710 = 807 then
                   some (0, 2)
                  else
                   if x1710 = 808 then
                    some (0, 2)
                   else
                    (m186 x1710 913 929).bind fun x1746 =>
                    if x1746 = true then
                     some (2, 1)
                    else
                     (m186 x1710 931 937).bind fun x1749 =>
                     if x1749 = true then
                      some (2, 1)
                     else
                      (m186 x1710 945 969).bind fun x1752 =>
                      if x1752 = true then
                       some (2, 1)
                      else
                       (m187 ([206, 134, 206, 136, 206, 137, 206, 138, 206, 140, 206, 142, 206, 143, 206, 172, 206, 173, 206, 174, 206, 175, 207, 140, 207, 141, 207, 142, 206, 170, 206, 171, 207, 138, 207, 139] : Str) x1710).bind fun x1755 =>
                       if x1755 = true then
                        some (2, 1)
                       else
                        (m186 x1710 1040 1103).bind fun x1758 =>
                        if x1758 = true then
                         some (3, 1)
                        else
                         (m187 ([208, 129, 209, 145, 208, 135, 209, 151, 208, 132, 209, 148, 210, 144, 210, 145, 208, 142, 209, 158, 208, 134, 209, 150] : Str) x1710).bind fun x1761 =>
                         if x1761 = true then
                          some (3, 1)
                         else
                          (m186 x1710 33 126).bind fun x1764 =>
                          if x1764 = true then
                           some (0, 5)
                          else
                           some (0, 0)
def post173 (r : (Int × Int)) (v : Value) (fs : List Fact) : Prop := v = .tuple #[.int .i64 r.1, .int .i64 r.2] ∧ fs = [((Ty.int .i64).fact r.1 [.int .i64 r.1]), ((Ty.int .i64).fact r.2 [.int .i64 r.2])]
theorem en173 : Enters Tryz.prog 173 := ⟨_, Tryz.func173, by kernel_rfl, rfl⟩
theorem f173_spec {a0 : Int} {r : (Int × Int)} (hr : m173 a0 = some r) : Spec Tryz.prog 173 [.int .i64 a0] [((Ty.int .i64).fact a0 [.int .i64 a0])] (post173 r) := by
 refine spec_start (N := 101) Tryz.func173 (by kernel_rfl) rfl rfl rfl ?_
 intro g hS
 unfold m173 at hr
 refine at_inv 0 rfl (fun l1707 => ?_)
 replace l1707 : (-9223372036854775808) ≤ a0 ∧ a0 ≤ 9223372036854775807 := l1707
 refine s_sr (s_as rfl (s_as rfl (s_nt (at_seq (s_sr (s_mv rfl ?_))))))
 replace hr := obind hr
 obtain ⟨x1708, h1709, hr⟩ := hr
 refine at_int .i64 65281 (by simp only [lo, hi]; omega) (at_int .i64 65374 (by simp only [lo, hi]; omega) (at_hv rfl (hv_call0 [2, 1, 0] (f186_spec h1709) rfl rfl rfl rfl ?_)))
 rintro _ _ ⟨rfl, rfl⟩
 refine s_nt ?_
 replace hr := obind hr
 obtain ⟨x1710, hc1711, hr⟩ := hr
 refine at_cut (V := Unit) (fun e => (⟨[(0, .int .i64 x1710)], [], [], [((Ty.int .i64).fact x1710 [.int .i64 x1710])]⟩ : St)) ?_ ?_
 ·clear hr
  have hr := hc1711
  clear hc1711
  by_cases h1712 : x1708 = true
  ·replace hr := ipos h1712 hr
   refine at_true rfl h1712 (at_region (s_mv rfl (at_lt (lt_subw rfl rfl) rfl (s_as rfl (at_nil ?_)))))
   have hq := oinj hr
   clear hr
   subst hq
   refine at_int .i64 (IntKind.i64.wrap (a0 - 65248)) (wrap_bd .i64 _) ?_
   exact at_leaf () ⟨⟨rfl, trivial⟩, ⟨[], rfl⟩, ⟨[], rfl⟩, ⟨[0], rfl⟩⟩
  replace hr := ineg h1712 hr
  refine at_false rfl (bf h1712) (at_skip ?_)
  have hq := oinj hr
  clear hr
  subst hq
  exact at_leaf () ⟨⟨rfl, trivial⟩, ⟨[], rfl⟩, ⟨[], rfl⟩, ⟨[2], rfl⟩⟩
 clear hc1711
 intro _
 change At _ _ (⟨[(0, .int .i64 x1710)], [], [], [((Ty.int .i64).fact x1710 [.int .i64 x1710])]⟩ : St) _
 refine at_inv 0 rfl (fun l1713 => ?_)
 replace l1713 : (-9223372036854775808) ≤ x1710 ∧ x1710 ≤ 9223372036854775807 := l1713
 refine at_then (at_seq (at_block (s_sr (s_mv rfl (at_lt (lt_eql rfl rfl) rfl (s_mv rfl ?_))))))
 by_cases h1714 : x1710 = 32
 ·replace hr := ipos h1714 hr
  refine at_off rfl rfl (decide_eq_true (by first | exact h1714 | omega)) rfl ?_
  refine at_off rfl rfl (decide_eq_true (by first | exact h1714 | omega)) rfl ?_
  refine at_lt (lt_pick true rfl (decide_eq_true (by first | exact h1714 | omega)) rfl) rfl ?_
  refine s_as rfl (s_nt (at_true rfl rfl (s_sr (s_as rfl (s_as rfl (s_nt (at_ret ?_)))))))
  have hq := oinj hr
  clear hr
  subst hq
  refine at_in_ret (at_then_ret (at_int .i64 0 (by simp only [lo, hi]; omega) (at_int .i64 4 (by simp only [lo, hi]; omega) ?_)))
  exact at_return (.tuple #[.int .i64 0, .int .i64 4]) [1, 0] hS Tryz.results173 (.cons (.tmp rfl) (.cons (.tmp rfl) .nil)) rfl rfl ⟨rfl, rfl⟩
 replace hr := ineg h1714 hr
 refine at_on rfl rfl (decide_eq_false (by first | exact h1714 | omega)) ?_
 refine s_mv rfl ?_
 refine at_on rfl rfl (decide_eq_false (by first | exact h1714 | omega)) ?_
 refine at_lt (lt_eql rfl rfl) rfl ?_
 refine at_lt (lt_pick false rfl (decide_eq_false (by first | exact h1714 | omega)) rfl) rfl ?_
 refine s_as rfl (s_nt ?_)
 by_cases h1715 : x1710 = 160
 ·replace hr := ipos h1715 hr
  refine at_true rfl (decide_eq_true (by first | exact h1715 | omega)) ?_
  refine s_sr (s_as rfl (s_as rfl (s_nt (at_ret ?_))))
  have hq := oinj hr
  clear hr
  subst hq
  refine at_in_ret (at_then_ret (at_int .i64 0 (by simp only [lo, hi]; omega) (at_int .i64 4 (by simp only [lo, hi]; omega) ?_)))
  exact at_return (.tuple #[.int .i64 0, .int .i64 4]) [1, 0] hS Tryz.results173 (.cons (.tmp rfl) (.cons (.tmp rfl) .nil)) rfl rfl ⟨rfl, rfl⟩
 replace hr := ineg h1715 hr
 refine at_false rfl (decide_eq_false (by first | exact h1715 | omega)) ?_
 refine s_sr (s_mv rfl ?_)
 replace hr := obind hr
 obtain ⟨x1716, h1717, hr⟩ := hr
 refine at_int .i64 48 (by simp only [lo, hi]; omega) (at_int .i64 57 (by simp only [lo, hi]; omega) (at_hv rfl (hv_call0 [2, 1, 0] (f186_spec h1717) rfl rfl rfl rfl ?_)))
 rintro _ _ ⟨rfl, rfl⟩
 refine s_mv rfl ?_
 by_cases h1718 : x1716 = true
 ·replace hr := ipos h1718 hr
  refine at_off rfl rfl h1718 rfl (at_off rfl rfl h1718 rfl (at_lt (lt_pick true rfl h1718 rfl) rfl (s_mv rfl (at_off rfl rfl rfl rfl (at_off rfl rfl rfl rfl (at_lt (lt_pick true rfl rfl rfl) rfl (s_mv rfl (at_off rfl rfl rfl rfl (at_off rfl rfl rfl rfl ?_)))))))))
  refine at_lt (lt_pick true rfl rfl rfl) rfl (s_as rfl (s_nt (at_true rfl rfl (s_sr (s_as rfl (s_as rfl (s_nt (at_ret ?_))))))))
  have hq := oinj hr
  clear hr
  subst hq
  refine at_in_ret (at_then_ret (at_int .i64 0 (by simp only [lo, hi]; omega) (at_int .i64 3 (by simp only [lo, hi]; omega) ?_)))
  exact at_return (.tuple #[.int .i64 0, .int .i64 3]) [1, 0] hS Tryz.results173 (.cons (.tmp rfl) (.cons (.tmp rfl) .nil)) rfl rfl ⟨rfl, rfl⟩
 replace hr := ineg h1718 hr
 refine at_on rfl rfl (bf h1718) (s_mv rfl (at_on rfl rfl (bf h1718) (at_lt (lt_eql rfl rfl) rfl (at_lt (lt_pick false rfl (bf h1718) rfl) rfl (s_mv rfl ?_)))))
 by_cases h1719 : x1710 = 178
 ·replace hr := ipos h1719 hr
  refine at_off rfl rfl (decide_eq_true (by first | exact h1719 | omega)) rfl ?_
  refine at_off rfl rfl (decide_eq_true (by first | exact h1719 | omega)) rfl ?_
  refine at_lt (lt_pick true rfl (decide_eq_true (by first | exact h1719 | omega)) rfl) rfl ?_
  refine s_mv rfl (at_off rfl rfl rfl rfl (at_off rfl rfl rfl rfl (at_lt (lt_pick true rfl rfl rfl) rfl (s_as rfl (s_nt (at_true rfl rfl (s_sr (s_as rfl (s_as rfl ?_)))))))))
  refine s_nt (at_ret ?_)
  have hq := oinj hr
  clear hr
  subst hq
  refine at_in_ret (at_then_ret (at_int .i64 0 (by simp only [lo, hi]; omega) (at_int .i64 3 (by simp only [lo, hi]; omega) ?_)))
  exact at_return (.tuple #[.int .i64 0, .int .i64 3]) [1, 0] hS Tryz.results173 (.cons (.tmp rfl) (.cons (.tmp rfl) .nil)) rfl rfl ⟨rfl, rfl⟩
 replace hr := ineg h1719 hr
 refine at_on rfl rfl (decide_eq_false (by first | exact h1719 | omega)) ?_
 refine s_mv rfl ?_
 refine at_on rfl rfl (decide_eq_false (by first | exact h1719 | omega)) ?_
 refine at_lt (lt_eql rfl rfl) rfl ?_
 refine at_lt (lt_pick false rfl (decide_eq_false (by first | exact h1719 | omega)) rfl) rfl ?_
 refine s_mv rfl ?_
 by_cases h1720 : x1710 = 179
 ·replace hr := ipos h1720 hr
  refine at_off rfl rfl (decide_eq_true (by first | exact h1720 | omega)) rfl ?_
  refine at_off rfl rfl (decide_eq_true (by first | exact h1720 | omega)) rfl ?_
  refine at_lt (lt_pick true rfl (decide_eq_true (by first | exact h1720 | omega)) rfl) rfl ?_
  refine s_as rfl (s_nt (at_true rfl rfl (s_sr (s_as rfl (s_as rfl (s_nt (at_ret ?_)))))))
  have hq := oinj hr
  clear hr
  subst hq
  refine at_in_ret (at_then_ret (at_int .i64 0 (by simp only [lo, hi]; omega) (at_int .i64 3 (by simp only [lo, hi]; omega) ?_)))
  exact at_return (.tuple #[.int .i64 0, .int .i64 3]) [1, 0] hS Tryz.results173 (.cons (.tmp rfl) (.cons (.tmp rfl) .nil)) rfl rfl ⟨rfl, rfl⟩
 replace hr := ineg h1720 hr
 refine at_on rfl rfl (decide_eq_false (by first | exact h1720 | omega)) ?_
 refine s_mv rfl ?_
 refine at_on rfl rfl (decide_eq_false (by first | exact h1720 | omega)) ?_
 refine at_lt (lt_eql rfl rfl) rfl ?_
 refine at_lt (lt_pick false rfl (decide_eq_false (by first | exact h1720 | omega)) rfl) rfl ?_
 refine s_as rfl (s_nt ?_)
 by_cases h1721 : x1710 = 185
 ·replace hr := ipos h1721 hr
  refine at_true rfl (decide_eq_true (by first | exact h1721 | omega)) ?_
  refine s_sr (s_as rfl (s_as rfl (s_nt (at_ret ?_))))
  have hq := oinj hr
  clear hr
  subst hq
  refine at_in_ret (at_then_ret (at_int .i64 0 (by simp only [lo, hi]; omega) (at_int .i64 3 (by simp only [lo, hi]; omega) ?_)))
  exact at_return (.tuple #[.int .i64 0, .int .i64 3]) [1, 0] hS Tryz.results173 (.cons (.tmp rfl) (.cons (.tmp rfl) .nil)) rfl rfl ⟨rfl, rfl⟩
 replace hr := ineg h1721 hr
 refine at_false rfl (decide_eq_false (by first | exact h1721 | omega)) ?_
 refine s_sr (s_mv rfl ?_)
 replace hr := obind hr
 obtain ⟨x1722, h1723, hr⟩ := hr
 refine at_int .i64 65 (by simp only [lo, hi]; omega) (at_int .i64 90 (by simp only [lo, hi]; omega) (at_hv rfl (hv_call0 [4, 1, 0] (f186_spec h1723) rfl rfl rfl rfl ?_)))
 rintro _ _ ⟨rfl, rfl⟩
 refine s_mv rfl ?_
 by_cases h1724 : x1722 = true
 ·replace hr := ipos h1724 hr
  refine at_off rfl rfl h1724 rfl (at_off rfl rfl h1724 rfl (at_lt (lt_pick true rfl h1724 rfl) rfl (s_mv rfl (at_off rfl rfl rfl rfl (at_off rfl rfl rfl rfl (at_lt (lt_pick true rfl rfl rfl) rfl (s_mv rfl (at_off rfl rfl rfl rfl (at_off rfl rfl rfl rfl ?_)))))))))
  refine at_lt (lt_pick true rfl rfl rfl) rfl (s_mv rfl (at_off rfl rfl rfl rfl (at_off rfl rfl rfl rfl (at_lt (lt_pick true rfl rfl rfl) rfl (s_mv rfl (at_off rfl rfl rfl rfl (at_off rfl rfl rfl rfl (at_lt (lt_pick true rfl rfl rfl) rfl (s_as rfl ?_)))))))))
  refine s_nt (at_true rfl rfl (s_sr (s_as rfl (s_as rfl (s_nt (at_ret ?_))))))
  have hq := oinj hr
  clear hr
  subst hq
  refine at_in_ret (at_then_ret (at_int .i64 1 (by simp only [lo, hi]; omega) ?_))
  exact at_return (.tuple #[.int .i64 1, .int .i64 1]) [0, 0] hS Tryz.results173 (.cons (.tmp rfl) (.cons (.tmp rfl) .nil)) rfl rfl ⟨rfl, rfl⟩
 replace hr := ineg h1724 hr
 refine at_on rfl rfl (bf h1724) (s_mv rfl ?_)
 replace hr := obind hr
 obtain ⟨x1725, h1726, hr⟩ := hr
 refine at_int .i64 97 (by simp only [lo, hi]; omega) (at_int .i64 122 (by simp only [lo, hi]; omega) (at_on rfl rfl (bf h1724) (at_hv rfl (hv_call0 [6, 1, 0] (f186_spec h1726) rfl rfl rfl rfl ?_))))
 rintro _ _ ⟨rfl, rfl⟩
 refine at_lt (lt_pick false rfl (bf h1724) rfl) rfl (s_mv rfl ?_)
 by_cases h1727 : x1725 = true
 ·replace hr := ipos h1727 hr
  refine at_off rfl rfl h1727 rfl (at_off rfl rfl h1727 rfl (at_lt (lt_pick true rfl h1727 rfl) rfl (s_mv rfl (at_off rfl rfl rfl rfl (at_off rfl rfl rfl rfl (at_lt (lt_pick true rfl rfl rfl) rfl (s_mv rfl (at_off rfl rfl rfl rfl (at_off rfl rfl rfl rfl ?_)))))))))
  refine at_lt (lt_pick true rfl rfl rfl) rfl (s_mv rfl (at_off rfl rfl rfl rfl (at_off rfl rfl rfl rfl (at_lt (lt_pick true rfl rfl rfl) rfl (s_as rfl (s_nt (at_true rfl rfl (s_sr (s_as rfl ?_)))))))))
  refine s_as rfl (s_nt (at_ret ?_))
  have hq := oinj hr
  clear hr
  subst hq
  refine at_in_ret (at_then_ret (at_int .i64 1 (by simp only [lo, hi]; omega) ?_))
  exact at_return (.tuple #[.int .i64 1, .int .i64 1]) [0, 0] hS Tryz.results173 (.cons (.tmp rfl) (.cons (.tmp rfl) .nil)) rfl rfl ⟨rfl, rfl⟩
 replace hr := ineg h1727 hr
 refine at_on rfl rfl (bf h1727) (s_mv rfl (at_on rfl rfl (bf h1727) (at_lt (lt_eql rfl rfl) rfl (at_lt (lt_pick false rfl (bf h1727) rfl) rfl (s_mv rfl ?_)))))
 by_cases h1728 : x1710 = 383
 ·replace hr := ipos h1728 hr
  refine at_off rfl rfl (decide_eq_true (by first | exact h1728 | omega)) rfl ?_
  refine at_off rfl rfl (decide_eq_true (by first | exact h1728 | omega)) rfl ?_
  refine at_lt (lt_pick true rfl (decide_eq_true (by first | exact h1728 | omega)) rfl) rfl ?_
  refine s_mv rfl (at_off rfl rfl rfl rfl (at_off rfl rfl rfl rfl (at_lt (lt_pick true rfl rfl rfl) rfl (s_mv rfl (at_off rfl rfl rfl rfl (at_off rfl rfl rfl rfl (at_lt (lt_pick true rfl rfl rfl) rfl (s_as rfl (s_nt ?_)))))))))
  refine at_true rfl rfl (s_sr (s_as rfl (s_as rfl (s_nt (at_ret ?_)))))
  have hq := oinj hr
  clear hr
  subst hq
  refine at_in_ret (at_then_ret (at_int .i64 1 (by simp only [lo, hi]; omega) ?_))
  exact at_return (.tuple #[.int .i64 1, .int .i64 1]) [0, 0] hS Tryz.results173 (.cons (.tmp rfl) (.cons (.tmp rfl) .nil)) rfl rfl ⟨rfl, rfl⟩
 replace hr := ineg h1728 hr
 refine at_on rfl rfl (decide_eq_false (by first | exact h1728 | omega)) ?_
 refine s_mv rfl ?_
 refine at_on rfl rfl (decide_eq_false (by first | exact h1728 | omega)) ?_
 refine at_lt (lt_eql rfl rfl) rfl ?_
 refine at_lt (lt_pick false rfl (decide_eq_false (by first | exact h1728 | omega)) rfl) rfl ?_
 refine s_mv rfl ?_
 by_cases h1729 : x1710 = 64257
 ·replace hr := ipos h1729 hr
  refine at_off rfl rfl (decide_eq_true (by first | exact h1729 | omega)) rfl ?_
  refine at_off rfl rfl (decide_eq_true (by first | exact h1729 | omega)) rfl ?_
  refine at_lt (lt_pick true rfl (decide_eq_true (by first | exact h1729 | omega)) rfl) rfl ?_
  refine s_mv rfl (at_off rfl rfl rfl rfl (at_off rfl rfl rfl rfl (at_lt (lt_pick true rfl rfl rfl) rfl (s_as rfl (s_nt (at_true rfl rfl (s_sr (s_as rfl (s_as rfl ?_)))))))))
  refine s_nt (at_ret ?_)
  have hq := oinj hr
  clear hr
  subst hq
  refine at_in_ret (at_then_ret (at_int .i64 1 (by simp only [lo, hi]; omega) ?_))
  exact at_return (.tuple #[.int .i64 1, .int .i64 1]) [0, 0] hS Tryz.results173 (.cons (.tmp rfl) (.cons (.tmp rfl) .nil)) rfl rfl ⟨rfl, rfl⟩
 replace hr := ineg h1729 hr
 refine at_on rfl rfl (decide_eq_false (by first | exact h1729 | omega)) ?_
 refine s_mv rfl ?_
 refine at_on rfl rfl (decide_eq_false (by first | exact h1729 | omega)) ?_
 refine at_lt (lt_eql rfl rfl) rfl ?_
 refine at_lt (lt_pick false rfl (decide_eq_false (by first | exact h1729 | omega)) rfl) rfl ?_
 refine s_mv rfl ?_
 by_cases h1730 : x1710 = 64258
 ·replace hr := ipos h1730 hr
  refine at_off rfl rfl (decide_eq_true (by first | exact h1730 | omega)) rfl ?_
  refine at_off rfl rfl (decide_eq_true (by first | exact h1730 | omega)) rfl ?_
  refine at_lt (lt_pick true rfl (decide_eq_true (by first | exact h1730 | omega)) rfl) rfl ?_
  refine s_as rfl (s_nt (at_true rfl rfl (s_sr (s_as rfl (s_as rfl (s_nt (at_ret ?_)))))))
  have hq := oinj hr
  clear hr
  subst hq
  refine at_in_ret (at_then_ret (at_int .i64 1 (by simp only [lo, hi]; omega) ?_))
  exact at_return (.tuple #[.int .i64 1, .int .i64 1]) [0, 0] hS Tryz.results173 (.cons (.tmp rfl) (.cons (.tmp rfl) .nil)) rfl rfl ⟨rfl, rfl⟩
 replace hr := ineg h1730 hr
 refine at_on rfl rfl (decide_eq_false (by first | exact h1730 | omega)) ?_
 refine s_mv rfl ?_
 replace hr := obind hr
 obtain ⟨x1731, h1732, hr⟩ := hr
 refine at_str ([195, 128, 195, 136, 195, 140, 195, 146, 195, 153, 195, 160, 195, 168, 195, 172, 195, 178, 195, 185, 195, 129, 195, 137, 195, 141, 195, 147, 195, 154, 195, 157, 195, 161, 195, 169, 195, 173, 195, 179, 195, 186, 195, 189, 196, 134, 196, 135, 196, 185, 196, 186, 197, 131, 197, 132, 197, 148, 197, 149, 197, 154, 197, 155, 197, 185, 197, 186, 195, 130, 195, 138, 195, 142, 195, 148, 195, 155, 195, 162, 195, 170, 195, 174, 195, 180, 195, 187, 196, 136, 196, 137, 196, 156, 196, 157, 196, 164, 196, 165, 196, 180, 196, 181, 197, 156, 197, 157, 197, 180, 197, 181, 197, 182, 197, 183, 195, 131, 195, 145, 195, 149, 195, 163, 195, 177, 195, 181, 196, 168, 196, 169, 197, 168, 197, 169, 196, 128, 196, 129, 196, 146, 196, 147, 196, 170, 196, 171, 197, 140, 197, 141, 197, 170, 197, 171, 196, 130, 196, 131, 196, 148, 196, 149, 196, 158, 196, 159, 196, 172, 196, 173, 197, 142, 197, 143, 197, 172, 197, 173, 196, 138, 196, 139, 196, 150, 196, 151, 196, 160, 196, 161, 196, 176, 197, 187, 197, 188, 195, 132, 195, 139, 195, 143, 195, 150, 195, 156, 195, 164, 195, 171, 195, 175, 195, 182, 195, 188, 195, 191, 197, 184, 195, 133, 195, 165, 197, 174, 197, 175, 197, 144, 197, 145, 197, 176, 197, 177, 196, 140, 196, 141, 196, 142, 196, 143, 196, 154, 196, 155, 197, 135, 197, 136, 197, 152, 197, 153, 197, 160, 197, 161, 197, 164, 197, 165, 197, 189, 197, 190, 196, 189, 196, 190, 195, 135, 195, 167, 196, 162, 196, 163, 196, 182, 196, 183, 196, 187, 196, 188, 197, 133, 197, 134, 197, 150, 197, 151, 197, 158, 197, 159, 197, 162, 197, 163, 196, 132, 196, 133, 196, 152, 196, 153, 196, 174, 196, 175, 197, 178, 197, 179, 195, 134, 195, 166, 195, 152, 195, 184, 195, 144, 195, 176, 195, 158, 195, 190, 195, 159, 196, 144, 196, 145, 196, 166, 196, 167, 196, 177, 197, 129, 197, 130, 197, 146, 197, 147, 197, 138, 197, 139, 197, 166, 197, 167] : Str) (by decide) ?_
 refine at_on rfl rfl (decide_eq_false (by first | exact h1730 | omega)) ?_
 refine at_hv rfl (hv_call0 [0, 7] (f187_spec h1732) rfl rfl rfl rfl ?_)
 rintro _ _ ⟨rfl, rfl⟩
 refine at_lt (lt_pick false rfl (decide_eq_false (by first | exact h1730 | omega)) rfl) rfl ?_
 refine s_as rfl (s_nt ?_)
 by_cases h1733 : x1731 = true
 ·replace hr := ipos h1733 hr
  refine at_true rfl h1733 (s_sr (s_as rfl (s_as rfl (s_nt (at_ret ?_)))))
  have hq := oinj hr
  clear hr
  subst hq
  refine at_in_ret (at_then_ret (at_int .i64 1 (by simp only [lo, hi]; omega) ?_))
  exact at_return (.tuple #[.int .i64 1, .int .i64 1]) [0, 0] hS Tryz.results173 (.cons (.tmp rfl) (.cons (.tmp rfl) .nil)) rfl rfl ⟨rfl, rfl⟩
 replace hr := ineg h1733 hr
 refine at_false rfl (bf h1733) (s_sr (s_mv rfl ?_))
 replace hr := obind hr
 obtain ⟨x1734, h1735, hr⟩ := hr
 refine at_int .i64 768 (by simp only [lo, hi]; omega) (at_int .i64 772 (by simp only [lo, hi]; omega) (at_hv rfl (hv_call0 [9, 1, 0] (f186_spec h1735) rfl rfl rfl rfl ?_)))
 rintro _ _ ⟨rfl, rfl⟩
 refine s_mv rfl ?_
 by_cases h1736 : x1734 = true
 ·replace hr := ipos h1736 hr
  refine at_off rfl rfl h1736 rfl (at_off rfl rfl h1736 rfl (at_lt (lt_pick true rfl h1736 rfl) rfl (s_mv rfl (at_off rfl rfl rfl rfl (at_off rfl rfl rfl rfl (at_lt (lt_pick true rfl rfl rfl) rfl (s_mv rfl (at_off rfl rfl rfl rfl (at_off rfl rfl rfl rfl ?_)))))))))
  refine at_lt (lt_pick true rfl rfl rfl) rfl (s_mv rfl (at_off rfl rfl rfl rfl (at_off rfl rfl rfl rfl (at_lt (lt_pick true rfl rfl rfl) rfl (s_mv rfl (at_off rfl rfl rfl rfl (at_off rfl rfl rfl rfl (at_lt (lt_pick true rfl rfl rfl) rfl (s_as rfl ?_)))))))))
  refine s_nt (at_true rfl rfl (s_sr (s_as rfl (s_as rfl (s_nt (at_ret ?_))))))
  have hq := oinj hr
  clear hr
  subst hq
  refine at_in_ret (at_then_ret (at_int .i64 0 (by simp only [lo, hi]; omega) (at_int .i64 2 (by simp only [lo, hi]; omega) ?_)))
  exact at_return (.tuple #[.int .i64 0, .int .i64 2]) [1, 0] hS Tryz.results173 (.cons (.tmp rfl) (.cons (.tmp rfl) .nil)) rfl rfl ⟨rfl, rfl⟩
 replace hr := ineg h1736 hr
 refine at_on rfl rfl (bf h1736) (s_mv rfl ?_)
 replace hr := obind hr
 obtain ⟨x1737, h1738, hr⟩ := hr
 refine at_int .i64 774 (by simp only [lo, hi]; omega) (at_int .i64 776 (by simp only [lo, hi]; omega) (at_on rfl rfl (bf h1736) (at_hv rfl (hv_call0 [11, 1, 0] (f186_spec h1738) rfl rfl rfl rfl ?_))))
 rintro _ _ ⟨rfl, rfl⟩
 refine at_lt (lt_pick false rfl (bf h1736) rfl) rfl (s_mv rfl ?_)
 by_cases h1739 : x1737 = true
 ·replace hr := ipos h1739 hr
  refine at_off rfl rfl h1739 rfl (at_off rfl rfl h1739 rfl (at_lt (lt_pick true rfl h1739 rfl) rfl (s_mv rfl (at_off rfl rfl rfl rfl (at_off rfl rfl rfl rfl (at_lt (lt_pick true rfl rfl rfl) rfl (s_mv rfl (at_off rfl rfl rfl rfl (at_off rfl rfl rfl rfl ?_)))))))))
  refine at_lt (lt_pick true rfl rfl rfl) rfl (s_mv rfl (at_off rfl rfl rfl rfl (at_off rfl rfl rfl rfl (at_lt (lt_pick true rfl rfl rfl) rfl (s_as rfl (s_nt (at_true rfl rfl (s_sr (s_as rfl ?_)))))))))
  refine s_as rfl (s_nt (at_ret ?_))
  have hq := oinj hr
  clear hr
  subst hq
  refine at_in_ret (at_then_ret (at_int .i64 0 (by simp only [lo, hi]; omega) (at_int .i64 2 (by simp only [lo, hi]; omega) ?_)))
  exact at_return (.tuple #[.int .i64 0, .int .i64 2]) [1, 0] hS Tryz.results173 (.cons (.tmp rfl) (.cons (.tmp rfl) .nil)) rfl rfl ⟨rfl, rfl⟩
 replace hr := ineg h1739 hr
 refine at_on rfl rfl (bf h1739) (s_mv rfl ?_)
 replace hr := obind hr
 obtain ⟨x1740, h1741, hr⟩ := hr
 refine at_int .i64 778 (by simp only [lo, hi]; omega) (at_int .i64 780 (by simp only [lo, hi]; omega) (at_on rfl rfl (bf h1739) (at_hv rfl (hv_call0 [13, 1, 0] (f186_spec h1741) rfl rfl rfl rfl ?_))))
 rintro _ _ ⟨rfl, rfl⟩
 refine at_lt (lt_pick false rfl (bf h1739) rfl) rfl (s_mv rfl ?_)
 by_cases h1742 : x1740 = true
 ·replace hr := ipos h1742 hr
  refine at_off rfl rfl h1742 rfl (at_off rfl rfl h1742 rfl (at_lt (lt_pick true rfl h1742 rfl) rfl (s_mv rfl (at_off rfl rfl rfl rfl (at_off rfl rfl rfl rfl (at_lt (lt_pick true rfl rfl rfl) rfl (s_mv rfl (at_off rfl rfl rfl rfl (at_off rfl rfl rfl rfl ?_)))))))))
  refine at_lt (lt_pick true rfl rfl rfl) rfl (s_as rfl (s_nt (at_true rfl rfl (s_sr (s_as rfl (s_as rfl (s_nt (at_ret ?_))))))))
  have hq := oinj hr
  clear hr
  subst hq
  refine at_in_ret (at_then_ret (at_int .i64 0 (by simp only [lo, hi]; omega) (at_int .i64 2 (by simp only [lo, hi]; omega) ?_)))
  exact at_return (.tuple #[.int .i64 0, .int .i64 2]) [1, 0] hS Tryz.results173 (.cons (.tmp rfl) (.cons (.tmp rfl) .nil)) rfl rfl ⟨rfl, rfl⟩
 replace hr := ineg h1742 hr
 refine at_on rfl rfl (bf h1742) (s_mv rfl (at_on rfl rfl (bf h1742) (at_lt (lt_eql rfl rfl) rfl (at_lt (lt_pick false rfl (bf h1742) rfl) rfl (s_mv rfl ?_)))))
 by_cases h1743 : x1710 = 803
 ·replace hr := ipos h1743 hr
  refine at_off rfl rfl (decide_eq_true (by first | exact h1743 | omega)) rfl ?_
  refine at_off rfl rfl (decide_eq_true (by first | exact h1743 | omega)) rfl ?_
  refine at_lt (lt_pick true rfl (decide_eq_true (by first | exact h1743 | omega)) rfl) rfl ?_
  refine s_mv rfl (at_off rfl rfl rfl rfl (at_off rfl rfl rfl rfl (at_lt (lt_pick true rfl rfl rfl) rfl (s_as rfl (s_nt (at_true rfl rfl (s_sr (s_as rfl (s_as rfl ?_)))))))))
  refine s_nt (at_ret ?_)
  have hq := oinj hr
  clear hr
  subst hq
  refine at_in_ret (at_then_ret (at_int .i64 0 (by simp only [lo, hi]; omega) (at_int .i64 2 (by simp only [lo, hi]; omega) ?_)))
  exact at_return (.tuple #[.int .i64 0, .int .i64 2]) [1, 0] hS Tryz.results173 (.cons (.tmp rfl) (.cons (.tmp rfl) .nil)) rfl rfl ⟨rfl, rfl⟩
 replace hr := ineg h1743 hr
 refine at_on rfl rfl (decide_eq_false (by first | exact h1743 | omega)) ?_
 refine s_mv rfl ?_
 refine at_on rfl rfl (decide_eq_false (by first | exact h1743 | omega)) ?_
 refine at_lt (lt_eql rfl rfl) rfl ?_
 refine at_lt (lt_pick false rfl (decide_eq_false (by first | exact h1743 | omega)) rfl) rfl ?_
 refine s_mv rfl ?_
 by_cases h1744 : x1710 = 807
 ·replace hr := ipos h1744 hr
  refine at_off rfl rfl (decide_eq_true (by first | exact h1744 | omega)) rfl ?_
  refine at_off rfl rfl (decide_eq_true (by first | exact h1744 | omega)) rfl ?_
  refine at_lt (lt_pick true rfl (decide_eq_true (by first | exact h1744 | omega)) rfl) rfl ?_
  refine s_as rfl (s_nt (at_true rfl rfl (s_sr (s_as rfl (s_as rfl (s_nt (at_ret ?_)))))))
  have hq := oinj hr
  clear hr
  subst hq
  refine at_in_ret (at_then_ret (at_int .i64 0 (by simp only [lo, hi]; omega) (at_int .i64 2 (by simp only [lo, hi]; omega) ?_)))
  exact at_return (.tuple #[.int .i64 0, .int .i64 2]) [1, 0] hS Tryz.results173 (.cons (.tmp rfl) (.cons (.tmp rfl) .nil)) rfl rfl ⟨rfl, rfl⟩
 replace hr := ineg h1744 hr
 refine at_on rfl rfl (decide_eq_false (by first | exact h1744 | omega)) ?_
 refine s_mv rfl ?_
 refine at_on rfl rfl (decide_eq_false (by first | exact h1744 | omega)) ?_
 refine at_lt (lt_eql rfl rfl) rfl ?_
 refine at_lt (lt_pick false rfl (decide_eq_false (by first | exact h1744 | omega)) rfl) rfl ?_
 refine s_as rfl (s_nt ?_)
 by_cases h1745 : x1710 = 808
 ·replace hr := ipos h1745 hr
  refine at_true rfl (decide_eq_true (by first | exact h1745 | omega)) ?_
  refine s_sr (s_as rfl (s_as rfl (s_nt (at_ret ?_))))
  have hq := oinj hr
  clear hr
  subst hq
  refine at_in_ret (at_then_ret (at_int .i64 0 (by simp only [lo, hi]; omega) (at_int .i64 2 (by simp only [lo, hi]; omega) ?_)))
  exact at_return (.tuple #[.int .i64 0, .int .i64 2]) [1, 0] hS Tryz.results173 (.cons (.tmp rfl) (.cons (.tmp rfl) .nil)) rfl rfl ⟨rfl, rfl⟩
 replace hr := ineg h1745 hr
 refine at_false rfl (decide_eq_false (by first | exact h1745 | omega)) ?_
 refine s_sr (s_mv rfl ?_)
 replace hr := obind hr
 obtain ⟨x1746, h1747, hr⟩ := hr
 refine at_int .i64 913 (by simp only [lo, hi]; omega) (at_int .i64 929 (by simp only [lo, hi]; omega) (at_hv rfl (hv_call0 [15, 1, 0] (f186_spec h1747) rfl rfl rfl rfl ?_)))
 rintro _ _ ⟨rfl, rfl⟩
 refine s_mv rfl ?_
 by_cases h1748 : x1746 = true
 ·replace hr := ipos h1748 hr
  refine at_off rfl rfl h1748 rfl (at_off rfl rfl h1748 rfl (at_lt (lt_pick true rfl h1748 rfl) rfl (s_mv rfl (at_off rfl rfl rfl rfl (at_off rfl rfl rfl rfl (at_lt (lt_pick true rfl rfl rfl) rfl (s_mv rfl (at_off rfl rfl rfl rfl (at_off rfl rfl rfl rfl ?_)))))))))
  refine at_lt (lt_pick true rfl rfl rfl) rfl (s_as rfl (s_nt (at_true rfl rfl (s_sr (s_as rfl (s_as rfl (s_nt (at_ret ?_))))))))
  have hq := oinj hr
  clear hr
  subst hq
  refine at_in_ret (at_then_ret (at_int .i64 2 (by simp only [lo, hi]; omega) (at_int .i64 1 (by simp only [lo, hi]; omega) ?_)))
  exact at_return (.tuple #[.int .i64 2, .int .i64 1]) [1, 0] hS Tryz.results173 (.cons (.tmp rfl) (.cons (.tmp rfl) .nil)) rfl rfl ⟨rfl, rfl⟩
 replace hr := ineg h1748 hr
 refine at_on rfl rfl (bf h1748) (s_mv rfl ?_)
 replace hr := obind hr
 obtain ⟨x1749, h1750, hr⟩ := hr
 refine at_int .i64 931 (by simp only [lo, hi]; omega) (at_int .i64 937 (by simp only [lo, hi]; omega) (at_on rfl rfl (bf h1748) (at_hv rfl (hv_call0 [17, 1, 0] (f186_spec h1750) rfl rfl rfl rfl ?_))))
 rintro _ _ ⟨rfl, rfl⟩
 refine at_lt (lt_pick false rfl (bf h1748) rfl) rfl (s_mv rfl ?_)
 by_cases h1751 : x1749 = true
 ·replace hr := ipos h1751 hr
  refine at_off rfl rfl h1751 rfl (at_off rfl rfl h1751 rfl (at_lt (lt_pick true rfl h1751 rfl) rfl (s_mv rfl (at_off rfl rfl rfl rfl (at_off rfl rfl rfl rfl (at_lt (lt_pick true rfl rfl rfl) rfl (s_as rfl (s_nt (at_true rfl rfl ?_)))))))))
  refine s_sr (s_as rfl (s_as rfl (s_nt (at_ret ?_))))
  have hq := oinj hr
  clear hr
  subst hq
  refine at_in_ret (at_then_ret (at_int .i64 2 (by simp only [lo, hi]; omega) (at_int .i64 1 (by simp only [lo, hi]; omega) ?_)))
  exact at_return (.tuple #[.int .i64 2, .int .i64 1]) [1, 0] hS Tryz.results173 (.cons (.tmp rfl) (.cons (.tmp rfl) .nil)) rfl rfl ⟨rfl, rfl⟩
 replace hr := ineg h1751 hr
 refine at_on rfl rfl (bf h1751) (s_mv rfl ?_)
 replace hr := obind hr
 obtain ⟨x1752, h1753, hr⟩ := hr
 refine at_int .i64 945 (by simp only [lo, hi]; omega) (at_int .i64 969 (by simp only [lo, hi]; omega) (at_on rfl rfl (bf h1751) (at_hv rfl (hv_call0 [19, 1, 0] (f186_spec h1753) rfl rfl rfl rfl ?_))))
 rintro _ _ ⟨rfl, rfl⟩
 refine at_lt (lt_pick false rfl (bf h1751) rfl) rfl (s_mv rfl ?_)
 by_cases h1754 : x1752 = true
 ·replace hr := ipos h1754 hr
  refine at_off rfl rfl h1754 rfl (at_off rfl rfl h1754 rfl (at_lt (lt_pick true rfl h1754 rfl) rfl (s_as rfl (s_nt (at_true rfl rfl (s_sr (s_as rfl (s_as rfl (s_nt ?_)))))))))
  refine at_ret ?_
  have hq := oinj hr
  clear hr
  subst hq
  refine at_in_ret (at_then_ret (at_int .i64 2 (by simp only [lo, hi]; omega) (at_int .i64 1 (by simp only [lo, hi]; omega) ?_)))
  exact at_return (.tuple #[.int .i64 2, .int .i64 1]) [1, 0] hS Tryz.results173 (.cons (.tmp rfl) (.cons (.tmp rfl) .nil)) rfl rfl ⟨rfl, rfl⟩
 replace hr := ineg h1754 hr
 refine at_on rfl rfl (bf h1754) (s_mv rfl ?_)
 replace hr := obind hr
 obtain ⟨x1755, h1756, hr⟩ := hr
 refine at_str ([206, 134, 206, 136, 206, 137, 206, 138, 206, 140, 206, 142, 206, 143, 206, 172, 206, 173, 206, 174, 206, 175, 207, 140, 207, 141, 207, 142, 206, 170, 206, 171, 207, 138, 207, 139] : Str) (by decide) ?_
 refine at_on rfl rfl (bf h1754) (at_hv rfl (hv_call0 [0, 20] (f187_spec h1756) rfl rfl rfl rfl ?_))
 rintro _ _ ⟨rfl, rfl⟩
 refine at_lt (lt_pick false rfl (bf h1754) rfl) rfl (s_as rfl (s_nt ?_))
 by_cases h1757 : x1755 = true
 ·replace hr := ipos h1757 hr
  refine at_true rfl h1757 (s_sr (s_as rfl (s_as rfl (s_nt (at_ret ?_)))))
  have hq := oinj hr
  clear hr
  subst hq
  refine at_in_ret (at_then_ret (at_int .i64 2 (by simp only [lo, hi]; omega) (at_int .i64 1 (by simp only [lo, hi]; omega) ?_)))
  exact at_return (.tuple #[.int .i64 2, .int .i64 1]) [1, 0] hS Tryz.results173 (.cons (.tmp rfl) (.cons (.tmp rfl) .nil)) rfl rfl ⟨rfl, rfl⟩
 replace hr := ineg h1757 hr
 refine at_false rfl (bf h1757) (s_sr (s_mv rfl ?_))
 replace hr := obind hr
 obtain ⟨x1758, h1759, hr⟩ := hr
 refine at_int .i64 1040 (by simp only [lo, hi]; omega) (at_int .i64 1103 (by simp only [lo, hi]; omega) (at_hv rfl (hv_call0 [22, 1, 0] (f186_spec h1759) rfl rfl rfl rfl ?_)))
 rintro _ _ ⟨rfl, rfl⟩
 refine s_mv rfl ?_
 by_cases h1760 : x1758 = true
 ·replace hr := ipos h1760 hr
  refine at_off rfl rfl h1760 rfl (at_off rfl rfl h1760 rfl (at_lt (lt_pick true rfl h1760 rfl) rfl (s_as rfl (s_nt (at_true rfl rfl (s_sr (s_as rfl (s_as rfl (s_nt ?_)))))))))
  refine at_ret ?_
  have hq := oinj hr
  clear hr
  subst hq
  refine at_in_ret (at_then_ret (at_int .i64 3 (by simp only [lo, hi]; omega) (at_int .i64 1 (by simp only [lo, hi]; omega) ?_)))
  exact at_return (.tuple #[.int .i64 3, .int .i64 1]) [1, 0] hS Tryz.results173 (.cons (.tmp rfl) (.cons (.tmp rfl) .nil)) rfl rfl ⟨rfl, rfl⟩
 replace hr := ineg h1760 hr
 refine at_on rfl rfl (bf h1760) (s_mv rfl ?_)
 replace hr := obind hr
 obtain ⟨x1761, h1762, hr⟩ := hr
 refine at_str ([208, 129, 209, 145, 208, 135, 209, 151, 208, 132, 209, 148, 210, 144, 210, 145, 208, 142, 209, 158, 208, 134, 209, 150] : Str) (by decide) ?_
 refine at_on rfl rfl (bf h1760) (at_hv rfl (hv_call0 [0, 23] (f187_spec h1762) rfl rfl rfl rfl ?_))
 rintro _ _ ⟨rfl, rfl⟩
 refine at_lt (lt_pick false rfl (bf h1760) rfl) rfl (s_as rfl (s_nt ?_))
 by_cases h1763 : x1761 = true
 ·replace hr := ipos h1763 hr
  refine at_true rfl h1763 (s_sr (s_as rfl (s_as rfl (s_nt (at_ret ?_)))))
  have hq := oinj hr
  clear hr
  subst hq
  refine at_in_ret (at_then_ret (at_int .i64 3 (by simp only [lo, hi]; omega) (at_int .i64 1 (by simp only [lo, hi]; omega) ?_)))
  exact at_return (.tuple #[.int .i64 3, .int .i64 1]) [1, 0] hS Tryz.results173 (.cons (.tmp rfl) (.cons (.tmp rfl) .nil)) rfl rfl ⟨rfl, rfl⟩
 replace hr := ineg h1763 hr
 refine at_false rfl (bf h1763) (s_sr (s_mv rfl ?_))
 replace hr := obind hr
 obtain ⟨x1764, h1765, hr⟩ := hr
 refine at_int .i64 33 (by simp only [lo, hi]; omega) (at_int .i64 126 (by simp only [lo, hi]; omega) (at_hv rfl (hv_call0 [25, 1, 0] (f186_spec h1765) rfl rfl rfl rfl ?_)))
 rintro _ _ ⟨rfl, rfl⟩
 refine s_as rfl (s_nt ?_)
 by_cases h1766 : x1764 = true
 ·replace hr := ipos h1766 hr
  refine at_true rfl h1766 (s_sr (s_as rfl (s_as rfl (s_nt (at_ret ?_)))))
  have hq := oinj hr
  clear hr
  subst hq
  refine at_in_ret (at_then_ret (at_int .i64 0 (by simp only [lo, hi]; omega) (at_int .i64 5 (by simp only [lo, hi]; omega) ?_)))
  exact at_return (.tuple #[.int .i64 0, .int .i64 5]) [1, 0] hS Tryz.results173 (.cons (.tmp rfl) (.cons (.tmp rfl) .nil)) rfl rfl ⟨rfl, rfl⟩
 replace hr := ineg h1766 hr
 refine at_false rfl (bf h1766) (at_skip (at_in (s_tsr (s_as rfl (s_as rfl (s_nt (at_ret ?_)))))))
 have hq := oinj hr
 clear hr
 subst hq
 refine at_int .i64 0 (by simp only [lo, hi]; omega) ?_
 exact at_return (.tuple #[.int .i64 0, .int .i64 0]) [0, 0] hS Tryz.results173 (.cons (.tmp rfl) (.cons (.tmp rfl) .nil)) rfl rfl ⟨rfl, rfl⟩
def m153 (a0 : Int) : Option Bool :=
  (m173 a0).bind fun x1768 =>
  some (!decide (x1768.2 = 0))
def post153 (r : Bool) (v : Value) (fs : List Fact) : Prop := v = .bool r ∧ fs = []
theorem en153 : Enters Tryz.prog 153 := ⟨_, Tryz.func153, by kernel_rfl, rfl⟩
theorem f153_spec {a0 : Int} {r : Bool} (hr : m153 a0 = some r) : Spec Tryz.prog 153 [.int .i64 a0] [((Ty.int .i64).fact a0 [.int .i64 a0])] (post153 r) := by
 refine spec_start (N := 12) Tryz.func153 (by kernel_rfl) rfl rfl rfl ?_
 intro g hS
 unfold m153 at hr
 refine at_inv 0 rfl (fun l1767 => ?_)
 replace l1767 : (-9223372036854775808) ≤ a0 ∧ a0 ≤ 9223372036854775807 := l1767
 refine s_sr (s_as rfl (s_ntsr (s_mv rfl ?_)))
 replace hr := obind hr
 obtain ⟨x1768, h1769, hr⟩ := hr
 refine at_hv rfl (hv_call0 [0] (f173_spec h1769) rfl rfl rfl rfl ?_)
 rintro _ _ ⟨rfl, rfl⟩
 refine at_inv 0 rfl (fun l1770 => ?_)
 replace l1770 : (-9223372036854775808) ≤ x1768.1 ∧ x1768.1 ≤ 9223372036854775807 := l1770
 refine at_inv 1 rfl (fun l1771 => ?_)
 replace l1771 : (-9223372036854775808) ≤ x1768.2 ∧ x1768.2 ≤ 9223372036854775807 := l1771
 refine s_mv rfl (at_lt (lt_extract rfl rfl) rfl (at_lt (lt_extract rfl rfl) rfl (s_as rfl (s_as rfl (s_ntsr (s_mv rfl (at_lt (lt_neq rfl rfl) rfl (s_as rfl (s_nt ?_)))))))))
 refine at_ret ?_
 have hq := oinj hr
 clear hr
 subst hq
 exact at_return (.bool (!decide (x1768.2 = 0))) [] hS Tryz.results153 (.cons (.tmp rfl) .nil) rfl rfl ⟨rfl, rfl⟩
def m116_l1 (a0 : Str) : Nat → (List Int) → Int → Option (Fl ((List Int) × Bool) (List Int))
  | 0, _, _ => none
  | k + 1, x1772, x1773 =>
    if x1773 < (a0.length : Int) then
     (m152 a0 x1773).bind fun x1787 =>
     if x1787.2 = 0 then
      some (Fl.ret (([] : (List Int)), false))
     else
      (m153 x1787.1).bind fun x1792 =>
      if x1792 = true then
       if x1772.length + 1 ≤ 17592186044416 then
        m116_l1 a0 k (x1772 ++ [x1787.1]) (IntKind.i64.wrap (x1773 + x1787.2))
       else none
      else
       some (Fl.ret (([] : (List Int)), false))
    else
     some (Fl.go x1772)
def m116 (a0 : Str) : Option ((List Int) × Bool) :=
  (m116_l1 a0 (a0.length + 1) ([] : (List Int)) 0).bind fun r => match r with
  | .ret x => some x
  | .go x1777 =>
   some (x1777, true)
def post116 (r : ((List Int) × Bool)) (v : Value) (fs : List Fact) : Prop := ∃ s1800 : Value, v = .tuple #[s1800, .bool r.2] ∧ fs = [((Ty.slice (Ty.int .i64)).fact r.1 [s1800])]
theorem en116 : Enters Tryz.prog 116 := ⟨_, Tryz.func116, by kernel_rfl, rfl⟩
theorem f116_spec {a0 : Str} {r : ((List Int) × Bool)} (hr : m116 a0 = some r) : Spec Tryz.prog 116 [str a0] [(Ty.str.fact a0 [str a0])] (post116 r) := by
 refine spec_start (N := 33) Tryz.func116 (by kernel_rfl) rfl rfl rfl ?_
 intro g hS
 unfold m116 at hr
 refine s_sr (s_as rfl (s_as rfl (s_ntsr (s_as rfl (s_nt (at_seq (s_sr (s_as rfl (s_nt ?_)))))))))
 refine at_rownew none 3 1 (at_rownil (Ty.int .i64) ?_)
 refine at_mkpure (q := (([] : (List Int)).length * (Ty.int .i64).bytes ≤ 140737488355328)) (by simp only [List.nil_append, List.cons_append, List.length_cons, List.length_nil, Ty.int_bytes, Ty.u8_bytes, Ty.str_bytes, Ty.slice_bytes, Ty.bool_bytes, nb] <;> omega) ?_
 refine at_int .i64 0 (by simp only [lo, hi]; omega) ?_
 replace hr := obind hr
 obtain ⟨r1781, hl1782, hk1783⟩ := hr
 refine at_cutP (V := ((List Int)) × (Value × Nat × (List Value))) (fun v => r1781 = Fl.go v.1) (fun v => (⟨[(4, v.2.1)], [], [⟨v.2.1, 3, 1, v.2.2.1, v.2.2.2⟩], [((Ty.int .i64).row v.1 v.2.2.2), (pureF (v.1.length * (Ty.int .i64).bytes ≤ 140737488355328))]⟩ : St)) ?_ ?_
 ·refine at_block ?_
  refine at_loopW (σ := ((List Int) × Int)) (V := Value × Nat × (List Value)) (r := r1781) (fun n s => m116_l1 a0 n s.1 s.2) (fun s e => (⟨[(0, str a0), (4, e.1), (5, .int .i64 s.2)], [], [⟨e.1, 3, 1, e.2.1, e.2.2⟩], [((Ty.int .i64).row s.1 e.2.2), (pureF (s.1.length * (Ty.int .i64).bytes ≤ 140737488355328)), ((Ty.int .i64).fact s.2 [.int .i64 s.2]), (Ty.str.fact a0 [str a0])]⟩ : St)) (fun _ => rfl) _ (([] : (List Int)), 0) ((.slice none 0 0), 0, []) hl1782 ⟨⟨rfl, ⟨rfl, ⟨rfl, trivial⟩⟩⟩, ⟨[], rfl⟩, ⟨[true], rfl⟩, ⟨[2, 1, 0, 3], rfl⟩⟩ ?_
  clear hl1782
  intro n s hr e
  obtain ⟨x1772, x1773⟩ := s
  obtain ⟨v1774, n1775, i1776⟩ := e
  change m116_l1 a0 (n + 1) x1772 x1773 = some r1781 at hr
  change At _ _ (⟨[(0, str a0), (4, v1774), (5, .int .i64 x1773)], [], [⟨v1774, 3, 1, n1775, i1776⟩], [((Ty.int .i64).row x1772 i1776), (pureF (x1772.length * (Ty.int .i64).bytes ≤ 140737488355328)), ((Ty.int .i64).fact x1773 [.int .i64 x1773]), (Ty.str.fact a0 [str a0])]⟩ : St) _
  rw [m116_l1] at hr
  refine at_inv 2 rfl (fun l1784 => ?_)
  replace l1784 : (-9223372036854775808) ≤ x1773 ∧ x1773 ≤ 9223372036854775807 := l1784
  refine at_seq (s_sr (s_mv rfl (s_mv rfl ?_)))
  refine at_inv 3 rfl (fun l1785 => ?_)
  replace l1785 : a0.length ≤ 9223372036854775807 := l1785
  refine at_lt (lt_slen rfl und9) rfl (at_lt (lt_lss rfl rfl) rfl (s_nt ?_))
  by_cases h1786 : x1773 < (a0.length : Int)
  ·replace hr := ipos h1786 hr
   refine at_true rfl (decide_eq_true (by first | exact h1786 | omega)) ?_
   refine at_skip (at_then (at_block (s_sr (s_mv rfl (s_mv rfl ?_)))))
   replace hr := obind hr
   obtain ⟨x1787, h1788, hr⟩ := hr
   refine at_hv rfl (hv_call0 [3, 2] (f152_spec h1788) rfl rfl rfl rfl ?_)
   rintro _ _ ⟨rfl, rfl⟩
   refine at_inv 0 rfl (fun l1789 => ?_)
   replace l1789 : (-9223372036854775808) ≤ x1787.1 ∧ x1787.1 ≤ 9223372036854775807 := l1789
   refine at_inv 1 rfl (fun l1790 => ?_)
   replace l1790 : (-9223372036854775808) ≤ x1787.2 ∧ x1787.2 ≤ 9223372036854775807 := l1790
   refine s_mv rfl (at_lt (lt_extract rfl rfl) rfl (at_lt (lt_extract rfl rfl) rfl (s_as rfl (s_as rfl (s_nt (at_seq (s_sr (s_mv rfl (at_lt (lt_eql rfl rfl) rfl ?_)))))))))
   refine s_mv rfl ?_
   by_cases h1791 : x1787.2 = 0
   ·replace hr := ipos h1791 hr
    refine at_off rfl rfl (decide_eq_true (by first | exact h1791 | omega)) rfl ?_
    refine at_off rfl rfl (decide_eq_true (by first | exact h1791 | omega)) rfl ?_
    refine at_off rfl rfl (decide_eq_true (by first | exact h1791 | omega)) rfl ?_
    refine at_lt (lt_pick true rfl (decide_eq_true (by first | exact h1791 | omega)) rfl) rfl ?_
    refine s_nt (at_true rfl rfl (s_sr (s_as rfl (s_as rfl (s_nt (at_ret ?_))))))
    have hq := oinj hr
    clear hr
    subst hq
    have hq := oinj hk1783
    clear hk1783
    subst hq
    refine at_then_ret (at_in_ret (at_then_ret (at_in_ret (at_then_ret (at_then_ret (at_fnil (Ty.int .i64) none ?_))))))
    exact at_return (.tuple #[(.slice none 0 0), .bool false]) [0] hS Tryz.results116 (.cons (.tmp rfl) (.cons (.tmp rfl) .nil)) rfl rfl ⟨((.slice none 0 0)), rfl, rfl⟩
   replace hr := ineg h1791 hr
   refine at_on rfl rfl (decide_eq_false (by first | exact h1791 | omega)) ?_
   refine s_mv rfl ?_
   replace hr := obind hr
   obtain ⟨x1792, h1793, hr⟩ := hr
   refine at_on rfl rfl (decide_eq_false (by first | exact h1791 | omega)) ?_
   refine at_hv rfl (hv_call0 [0] (f153_spec h1793) rfl rfl rfl rfl ?_)
   rintro _ _ ⟨rfl, rfl⟩
   refine at_on rfl rfl (decide_eq_false (by first | exact h1791 | omega)) ?_
   refine at_lt (lt_not rfl) rfl ?_
   refine at_lt (lt_pick false rfl (decide_eq_false (by first | exact h1791 | omega)) rfl) rfl ?_
   refine s_nt ?_
   by_cases h1794 : x1792 = true
   ·replace hr := ipos h1794 hr
    refine at_false rfl (nt h1794) (at_skip (s_tsr (s_mv rfl (s_mv rfl (at_hv rfl ?_)))))
    refine hv_bslice (cs := [.int .i64 x1787.1]) rfl und140 ti3 rfl rfl rfl rfl rfl (fun s1795 => ?_)
    replace hr := imust hr
    obtain ⟨h1796, hr⟩ := hr
    refine at_rown 1 2 rfl rfl rfl (fun hn1798 => ?_)
    refine at_hv rfl ?_
    refine hv_append 1 0 rfl rfl rfl rfl und140 ti3 rfl rfl rfl (by omega) (by omega) rfl (fun s1797 => ?_)
    refine at_rowsnoc 2 0 rfl rfl (s_as rfl (at_nil (s_tr (s_mv rfl (s_mv rfl (at_lt (lt_addw rfl rfl) rfl (s_as rfl (at_nil (at_in ?_)))))))))
    refine at_mkpure (q := ((x1772 ++ [x1787.1]).length * (Ty.int .i64).bytes ≤ 140737488355328)) (by simp only [List.length_append, List.length_cons, List.length_nil, Ty.int_bytes, Ty.u8_bytes, Ty.str_bytes, Ty.slice_bytes, Ty.bool_bytes, nb] <;> omega) ?_
    refine at_int .i64 (IntKind.i64.wrap (x1773 + x1787.2)) (wrap_bd .i64 _) ?_
    exact at_again (σ := ((List Int) × Int)) (V := Value × Nat × (List Value)) (lp := fun n s => m116_l1 a0 n s.1 s.2) (S := fun s e => (⟨[(0, str a0), (4, e.1), (5, .int .i64 s.2)], [], [⟨e.1, 3, 1, e.2.1, e.2.2⟩], [((Ty.int .i64).row s.1 e.2.2), (pureF (s.1.length * (Ty.int .i64).bytes ≤ 140737488355328)), ((Ty.int .i64).fact s.2 [.int .i64 s.2]), (Ty.str.fact a0 [str a0])]⟩ : St)) (x1772 ++ [x1787.1], IntKind.i64.wrap (x1773 + x1787.2)) (s1797, n1775 + 1, i1776 ++ [.int .i64 x1787.1]) hr ⟨⟨rfl, ⟨rfl, ⟨rfl, trivial⟩⟩⟩, ⟨[], rfl⟩, ⟨[false, true], rfl⟩, ⟨[2, 1, 0, 8], rfl⟩⟩
   replace hr := ineg h1794 hr
   refine at_true rfl (nf (bf h1794)) (s_sr (s_as rfl (s_as rfl (s_nt (at_ret ?_)))))
   have hq := oinj hr
   clear hr
   subst hq
   have hq := oinj hk1783
   clear hk1783
   subst hq
   refine at_then_ret (at_in_ret (at_then_ret (at_in_ret (at_then_ret (at_then_ret (at_fnil (Ty.int .i64) none ?_))))))
   exact at_return (.tuple #[(.slice none 0 0), .bool false]) [0] hS Tryz.results116 (.cons (.tmp rfl) (.cons (.tmp rfl) .nil)) rfl rfl ⟨((.slice none 0 0)), rfl, rfl⟩
  replace hr := ineg h1786 hr
  refine at_false rfl (decide_eq_false (by first | exact h1786 | omega)) ?_
  refine at_exit (at_then_exit (at_then_exit (at_in_exit ?_)))
  have hq := oinj hr
  clear hr
  subst hq
  exact at_leafP (x1772, (v1774, n1775, i1776)) rfl ⟨⟨rfl, trivial⟩, ⟨[], rfl⟩, ⟨[true], rfl⟩, ⟨[0, 1], rfl⟩⟩
 rintro ⟨x1777, ⟨v1778, n1779, i1780⟩⟩ hp
 replace hr := hk1783
 subst hp
 clear hl1782
 change At _ _ (⟨[(4, v1778)], [], [⟨v1778, 3, 1, n1779, i1780⟩], [((Ty.int .i64).row x1777 i1780), (pureF (x1777.length * (Ty.int .i64).bytes ≤ 140737488355328))]⟩ : St) _
 refine s_tsr (s_mv rfl (s_as rfl (s_as rfl (s_nt (at_ret ?_)))))
 have hq := oinj hr
 clear hr
 subst hq
 refine at_pure 1 rfl (fun hb1799 => ?_)
 refine at_release 0 0 rfl rfl rfl hb1799 ?_
 exact at_return (.tuple #[v1778, .bool true]) [0] hS Tryz.results116 (.cons (.tmp rfl) (.cons (.tmp rfl) .nil)) rfl rfl ⟨v1778, rfl, rfl⟩
def m90 (a0 : Str) : Option Bool :=
  if a0.length < 1 then
   some false
  else
   if 400 < a0.length then
    some false
   else
    (a0[0]?).bind fun c1804 =>
    if c1804.toNat = 32 then
     some false
    else
     (at? a0 ((a0.length : Int) - 1)).bind fun c1807 =>
     if c1807.toNat = 32 then
      some false
     else
      (m116 a0).bind fun x1810 =>
      some x1810.2
def post90 (r : Bool) (v : Value) (fs : List Fact) : Prop := v = .bool r ∧ fs = []
theorem en90 : Enters Tryz.prog 90 := ⟨_, Tryz.func90, by kernel_rfl, rfl⟩
theorem f90_spec {a0 : Str} {r : Bool} (hr : m90 a0 = some r) : Spec Tryz.prog 90 [str a0] [(Ty.str.fact a0 [str a0])] (post90 r) := by
 refine spec_start (N := 32) Tryz.func90 (by kernel_rfl) rfl rfl rfl ?_
 intro g hS
 unfold m90 at hr
 refine s_sr (s_as rfl (s_nt (at_seq (s_sr (s_mv rfl ?_)))))
 refine at_inv 0 rfl (fun l1801 => ?_)
 replace l1801 : a0.length ≤ 9223372036854775807 := l1801
 refine at_lt (lt_slen rfl und9) rfl (at_lt (lt_lss rfl rfl) rfl (s_mv rfl ?_))
 by_cases h1802 : a0.length < 1
 ·replace hr := ipos h1802 hr
  refine at_off rfl rfl (decide_eq_true (by omega)) rfl ?_
  refine at_off rfl rfl (decide_eq_true (by omega)) rfl ?_
  refine at_off rfl rfl (decide_eq_true (by omega)) rfl ?_
  refine at_lt (lt_pick true rfl (decide_eq_true (by omega)) rfl) rfl ?_
  refine s_mv rfl (at_off rfl rfl rfl rfl (at_off rfl rfl rfl rfl (at_off rfl rfl rfl rfl (at_lt (lt_pick true rfl rfl rfl) rfl (s_mv rfl (at_off rfl rfl rfl rfl (at_off rfl rfl rfl rfl (at_off rfl rfl rfl rfl (at_off rfl rfl rfl rfl ?_)))))))))
  refine at_off rfl rfl rfl rfl (at_off rfl rfl rfl rfl (at_lt (lt_pick true rfl rfl rfl) rfl (s_nt (at_true rfl rfl (s_sr (s_as rfl (s_nt (at_ret ?_))))))))
  have hq := oinj hr
  clear hr
  subst hq
  refine at_then_ret ?_
  exact at_return (.bool false) [] hS Tryz.results90 (.cons (.tmp rfl) .nil) rfl rfl ⟨rfl, rfl⟩
 replace hr := ineg h1802 hr
 refine at_on rfl rfl (decide_eq_false (by omega)) ?_
 refine s_mv rfl ?_
 refine at_on rfl rfl (decide_eq_false (by omega)) ?_
 refine at_lt (lt_slen rfl und9) rfl ?_
 refine at_on rfl rfl (decide_eq_false (by omega)) ?_
 refine at_lt (lt_gtr rfl rfl) rfl ?_
 refine at_lt (lt_pick false rfl (decide_eq_false (by omega)) rfl) rfl ?_
 refine s_mv rfl ?_
 by_cases h1803 : 400 < a0.length
 ·replace hr := ipos h1803 hr
  refine at_off rfl rfl (decide_eq_true (by omega)) rfl ?_
  refine at_off rfl rfl (decide_eq_true (by omega)) rfl ?_
  refine at_off rfl rfl (decide_eq_true (by omega)) rfl ?_
  refine at_lt (lt_pick true rfl (decide_eq_true (by omega)) rfl) rfl ?_
  refine s_mv rfl (at_off rfl rfl rfl rfl (at_off rfl rfl rfl rfl (at_off rfl rfl rfl rfl (at_off rfl rfl rfl rfl (at_off rfl rfl rfl rfl (at_off rfl rfl rfl rfl (at_lt (lt_pick true rfl rfl rfl) rfl (s_nt (at_true rfl rfl ?_)))))))))
  refine s_sr (s_as rfl (s_nt (at_ret ?_)))
  have hq := oinj hr
  clear hr
  subst hq
  refine at_then_ret ?_
  exact at_return (.bool false) [] hS Tryz.results90 (.cons (.tmp rfl) .nil) rfl rfl ⟨rfl, rfl⟩
 replace hr := ineg h1803 hr
 refine at_on rfl rfl (decide_eq_false (by omega)) ?_
 refine s_mv rfl ?_
 replace hr := obind hr
 obtain ⟨c1804, h1805, hr⟩ := hr
 have := (List.getElem?_eq_some_iff.1 h1805).1
 have := c1804.toNat_lt
 refine at_on rfl rfl (decide_eq_false (by omega)) ?_
 refine at_lt (lt_sidx rfl rfl und9 (by omega) h1805) rfl ?_
 refine at_on rfl rfl (decide_eq_false (by omega)) ?_
 refine at_lt (lt_eql rfl rfl) rfl ?_
 refine at_lt (lt_pick false rfl (decide_eq_false (by omega)) rfl) rfl ?_
 refine s_mv rfl ?_
 by_cases h1806 : c1804.toNat = 32
 ·replace hr := ipos h1806 hr
  refine at_off rfl rfl (decide_eq_true (by omega)) rfl ?_
  refine at_off rfl rfl (decide_eq_true (by omega)) rfl ?_
  refine at_off rfl rfl (decide_eq_true (by omega)) rfl ?_
  refine at_off rfl rfl (decide_eq_true (by omega)) rfl ?_
  refine at_off rfl rfl (decide_eq_true (by omega)) rfl ?_
  refine at_off rfl rfl (decide_eq_true (by omega)) rfl ?_
  refine at_lt (lt_pick true rfl (decide_eq_true (by omega)) rfl) rfl ?_
  refine s_nt (at_true rfl rfl (s_sr (s_as rfl (s_nt (at_ret ?_)))))
  have hq := oinj hr
  clear hr
  subst hq
  refine at_then_ret ?_
  exact at_return (.bool false) [] hS Tryz.results90 (.cons (.tmp rfl) .nil) rfl rfl ⟨rfl, rfl⟩
 replace hr := ineg h1806 hr
 refine at_on rfl rfl (decide_eq_false (by omega)) ?_
 refine s_mv rfl ?_
 refine at_on rfl rfl (decide_eq_false (by omega)) ?_
 refine s_mv rfl ?_
 refine at_on rfl rfl (decide_eq_false (by omega)) ?_
 refine at_lt (lt_slen rfl und9) rfl ?_
 refine at_on rfl rfl (decide_eq_false (by omega)) ?_
 refine at_lt (lt_sub rfl rfl (by simp only [lo, hi]; omega)) rfl ?_
 replace hr := obind hr
 obtain ⟨c1807, h1808, hr⟩ := hr
 have := at?_lt h1808
 have := c1807.toNat_lt
 refine at_on rfl rfl (decide_eq_false (by omega)) ?_
 refine at_lt (lt_sidx rfl rfl und9 (at?_lt h1808).1 (at?_get h1808)) rfl ?_
 refine at_on rfl rfl (decide_eq_false (by omega)) ?_
 refine at_lt (lt_eql rfl rfl) rfl ?_
 refine at_lt (lt_pick false rfl (decide_eq_false (by omega)) rfl) rfl ?_
 refine s_nt ?_
 by_cases h1809 : c1807.toNat = 32
 ·replace hr := ipos h1809 hr
  refine at_true rfl (decide_eq_true (by omega)) ?_
  refine s_sr (s_as rfl (s_nt (at_ret ?_)))
  have hq := oinj hr
  clear hr
  subst hq
  refine at_then_ret ?_
  exact at_return (.bool false) [] hS Tryz.results90 (.cons (.tmp rfl) .nil) rfl rfl ⟨rfl, rfl⟩
 replace hr := ineg h1809 hr
 refine at_false rfl (decide_eq_false (by omega)) ?_
 refine at_skip (s_tsr (s_mv rfl ?_))
 replace hr := obind hr
 obtain ⟨x1810, h1811, hr⟩ := hr
 refine at_hv rfl (hv_call0 [0] (f116_spec h1811) rfl rfl rfl rfl ?_)
 rintro _ _ ⟨s1812, rfl, rfl⟩
 refine s_mv rfl (at_lt (lt_extract rfl rfl) rfl (at_lt (lt_extract rfl rfl) rfl (s_as rfl (s_as rfl (s_ntsr (s_mv rfl (s_as rfl (s_nt (at_ret ?_)))))))))
 have hq := oinj hr
 clear hr
 subst hq
 exact at_return (.bool x1810.2) [] hS Tryz.results90 (.cons (.tmp rfl) .nil) rfl rfl ⟨rfl, rfl⟩
def m56_l1 (a0 : D_api_Field) : Nat → Nat → Option (Fl Bool Unit)
  | 0, _ => none
  | k + 1, x1822 =>
    if x1822 < 2 then
     Option.bind (α := Bool) (
      if x1822 = 0 then
       if a0.Ind_0.toNat = 32 then
        some false
       else
        (m89 a0.Ind_0).bind fun x1831 =>
        some (!x1831)
      else
       if x1822 = 1 then
        if a0.Ind_1.toNat = 32 then
         some false
        else
         (m89 a0.Ind_1).bind fun x1835 =>
         some (!x1835)
       else
        none
     ) fun x1827 =>
     if x1827 = true then
      some (Fl.ret false)
     else
      if x1822 + 1 ≤ 9223372036854775807 then
       m56_l1 a0 k (x1822 + 1)
      else none
    else
     some (Fl.go ())
def m56_l2 (a0 : D_api_Field) : Nat → Nat → Option (Fl Bool Unit)
  | 0, _ => none
  | k + 1, x1839 =>
    if x1839 < a0.Subs.length then
     (a0.Subs[x1839]?).bind fun x1844 =>
     (m89 x1844.Code).bind fun x1848 =>
     if x1848 = true then
      (a0.Subs[x1839]?).bind fun x1851 =>
      (m90 x1851.Value).bind fun x1855 =>
      if x1855 = true then
       m56_l2 a0 k (x1839 + 1)
      else
       some (Fl.ret false)
     else
      some (Fl.ret false)
    else
     some (Fl.go ())
def m56 (a0 : D_api_Field) : Option Bool :=
  (m87 a0.Tag).bind fun x1815 =>
  if x1815 = true then
   if a0.Subs.length < 1 then
    some false
   else
    if 20 < a0.Subs.length then
     some false
    else
     (m56_l1 a0 (2 + 1) 0).bind fun r => match r with
     | .ret x => some x
     | .go _ =>
      (m56_l2 a0 (a0.Subs.length + 1) 0).bind fun r => match r with
      | .ret x => some x
      | .go _ =>
       some true
  else
   some false
def post56 (r : Bool) (v : Value) (fs : List Fact) : Prop := v = .bool r ∧ fs = []
theorem en56 : Enters Tryz.prog 56 := ⟨_, Tryz.func56, by kernel_rfl, rfl⟩
theorem f56_spec {a0 : D_api_Field} {s1813 : Value} {r : Bool} (hr : m56 a0 = some r) : Spec Tryz.prog 56 [.agg #[str a0.Tag, .int .u8 (a0.Ind_0.toNat : Int), .int .u8 (a0.Ind_1.toNat : Int), s1813]] [(ty69.fact a0 [str a0.Tag, .int .u8 (a0.Ind_0.toNat : Int), .int .u8 (a0.Ind_1.toNat : Int), s1813])] (post56 r) := by
 refine spec_start (N := 63) Tryz.func56 (by kernel_rfl) rfl rfl rfl ?_
 intro g hS
 unfold m56 at hr
 refine at_open (A := Unit) 0 rfl (fun _ => True) (fun _ => [(Ty.str.fact a0.Tag [str a0.Tag]), ((Ty.slice ty66).fact a0.Subs [s1813])]) (fun F w h => ⟨(), trivial, ex69 h⟩) (fun _ _ => ?_)
 refine s_sr (at_hv rfl ?_)
 refine hv_box (cs := [str a0.Tag, .int .u8 (a0.Ind_0.toNat : Int), .int .u8 (a0.Ind_1.toNat : Int), s1813]) rfl rfl rfl (fun b1814 => ?_)
 refine s_as rfl (s_nt (at_seq (s_sr (at_lt (lt_fieldAddr 0 rfl fld69_0 rfl) rfl (at_lt (lt_load_box 0 rfl ti9 rfl rfl rfl rfl rfl) rfl ?_)))))
 replace hr := obind hr
 obtain ⟨x1815, h1816, hr⟩ := hr
 refine at_hv rfl (hv_call0 [0] (f87_spec h1816) rfl rfl rfl rfl ?_)
 rintro _ _ ⟨rfl, rfl⟩
 refine at_lt (lt_not rfl) rfl (s_mv rfl ?_)
 by_cases h1817 : x1815 = true
 ·replace hr := ipos h1817 hr
  refine at_on rfl rfl (nt h1817) (at_lt (lt_fieldAddr 3 rfl fld69_2 rfl) rfl (at_on rfl rfl (nt h1817) (at_lt (lt_load_box 0 rfl ti67 rfl rfl rfl rfl rfl) rfl ?_)))
  refine at_inv 1 rfl (fun i1818 => ?_)
  have l1819 := slice_len i1818
  refine at_on rfl rfl (nt h1817) (at_lt (lt_flen 1 rfl rfl und67) rfl (at_on rfl rfl (nt h1817) (at_lt (lt_lss rfl rfl) rfl (at_lt (lt_pick false rfl (nt h1817) rfl) rfl (s_mv rfl ?_)))))
  by_cases h1820 : a0.Subs.length < 1
  ·replace hr := ipos h1820 hr
   refine at_off rfl rfl (decide_eq_true (by omega)) rfl ?_
   refine at_off rfl rfl (decide_eq_true (by omega)) rfl ?_
   refine at_off rfl rfl (decide_eq_true (by omega)) rfl ?_
   refine at_off rfl rfl (decide_eq_true (by omega)) rfl ?_
   refine at_lt (lt_pick true rfl (decide_eq_true (by omega)) rfl) rfl ?_
   refine s_nt (at_true rfl rfl (s_sr (s_as rfl (s_nt (at_ret ?_)))))
   have hq := oinj hr
   clear hr
   subst hq
   refine at_then_ret ?_
   exact at_return (.bool false) [] hS Tryz.results56 (.cons (.tmp rfl) .nil) rfl rfl ⟨rfl, rfl⟩
  replace hr := ineg h1820 hr
  refine at_on rfl rfl (decide_eq_false (by omega)) ?_
  refine at_lt (lt_fieldAddr 3 rfl fld69_2 rfl) rfl ?_
  refine at_on rfl rfl (decide_eq_false (by omega)) ?_
  refine at_lt (lt_load_box 0 rfl ti67 rfl rfl rfl rfl rfl) rfl ?_
  refine at_on rfl rfl (decide_eq_false (by omega)) ?_
  refine at_lt (lt_flen 1 rfl rfl und67) rfl ?_
  refine at_on rfl rfl (decide_eq_false (by omega)) ?_
  refine at_lt (lt_gtr rfl rfl) rfl ?_
  refine at_lt (lt_pick false rfl (decide_eq_false (by omega)) rfl) rfl ?_
  refine s_nt ?_
  by_cases h1821 : 20 < a0.Subs.length
  ·replace hr := ipos h1821 hr
   refine at_true rfl (decide_eq_true (by omega)) ?_
   refine s_sr (s_as rfl (s_nt (at_ret ?_)))
   have hq := oinj hr
   clear hr
   subst hq
   refine at_then_ret ?_
   exact at_return (.bool false) [] hS Tryz.results56 (.cons (.tmp rfl) .nil) rfl rfl ⟨rfl, rfl⟩
  replace hr := ineg h1821 hr
  refine at_false rfl (decide_eq_false (by omega)) ?_
  refine at_skip (at_then (at_seq (s_sr (s_as rfl (s_nt (at_int .i64 0 (by simp only [lo, hi]; omega) ?_))))))
  replace hr := obind hr
  obtain ⟨r1823, hl1824, hk1825⟩ := hr
  refine at_cutP (V := (Unit) × (Unit)) (fun v => r1823 = Fl.go v.1) (fun v => (⟨[(1, .pointer (some (Addr.add ⟨b1814, 0, none⟩ 0)))], [⟨b1814, [str a0.Tag, .int .u8 (a0.Ind_0.toNat : Int), .int .u8 (a0.Ind_1.toNat : Int), s1813], 69⟩], [], [(Ty.str.fact a0.Tag [str a0.Tag]), ((Ty.slice ty66).fact a0.Subs [s1813])]⟩ : St)) ?_ ?_
  ·refine at_block ?_
   refine at_loopW (σ := Nat) (V := Unit) (r := r1823) (fun n s => m56_l1 a0 n s) (fun s e => (⟨[(1, .pointer (some (Addr.add ⟨b1814, 0, none⟩ 0))), (3, .int .i64 (s : Int))], [⟨b1814, [str a0.Tag, .int .u8 (a0.Ind_0.toNat : Int), .int .u8 (a0.Ind_1.toNat : Int), s1813], 69⟩], [], [((Ty.int .i64).fact (s : Int) [.int .i64 (s : Int)]), (Ty.str.fact a0.Tag [str a0.Tag]), ((Ty.slice ty66).fact a0.Subs [s1813])]⟩ : St)) (fun _ => rfl) _ 0 () hl1824 ⟨⟨rfl, ⟨rfl, trivial⟩⟩, ⟨[true], rfl⟩, ⟨[], rfl⟩, ⟨[0, 1, 2], rfl⟩⟩ ?_
   clear hl1824
   intro n x1822 hr e
   skip
   skip
   change m56_l1 a0 (n + 1) x1822 = some r1823 at hr
   change At _ _ (⟨[(1, .pointer (some (Addr.add ⟨b1814, 0, none⟩ 0))), (3, .int .i64 (x1822 : Int))], [⟨b1814, [str a0.Tag, .int .u8 (a0.Ind_0.toNat : Int), .int .u8 (a0.Ind_1.toNat : Int), s1813], 69⟩], [], [((Ty.int .i64).fact (x1822 : Int) [.int .i64 (x1822 : Int)]), (Ty.str.fact a0.Tag [str a0.Tag]), ((Ty.slice ty66).fact a0.Subs [s1813])]⟩ : St) _
   rw [m56_l1] at hr
   refine at_seq (s_sr (s_mv rfl (at_lt (lt_lss rfl rfl) rfl (s_nt ?_))))
   by_cases h1826 : x1822 < 2
   ·replace hr := ipos h1826 hr
    refine at_true rfl (decide_eq_true (by omega)) ?_
    refine at_skip (at_then (at_seq (at_block (at_seq ?_))))
    replace hr := obind hr
    obtain ⟨x1827, hc1828, hr⟩ := hr
    refine at_cut (V := Unit) (fun e => (⟨[(1, .pointer (some (Addr.add ⟨b1814, 0, none⟩ 0))), (3, .int .i64 (x1822 : Int)), (37, .bool x1827)], [⟨b1814, [str a0.Tag, .int .u8 (a0.Ind_0.toNat : Int), .int .u8 (a0.Ind_1.toNat : Int), s1813], 69⟩], [], [((Ty.int .i64).fact (x1822 : Int) [.int .i64 (x1822 : Int)]), (Ty.str.fact a0.Tag [str a0.Tag]), ((Ty.slice ty66).fact a0.Subs [s1813])]⟩ : St)) ?_ ?_
    ·clear hr
     have hr := hc1828
     clear hc1828
     refine at_region (s_mv rfl (at_lt (lt_fieldAddr 1 rfl fld69_1 rfl) rfl ?_))
     by_cases h1829 : x1822 = 0
     ·replace hr := ipos h1829 hr
      refine at_lt (lt_aidx 0 rfl rfl (by omega) rfl und64 ti5 rfl) rfl ?_
      refine at_lt (lt_load_box 0 rfl ti5 rfl rfl rfl rfl rfl) rfl (at_lt (lt_neq rfl rfl) rfl (s_mv rfl ?_))
      by_cases h1830 : a0.Ind_0.toNat = 32
      ·replace hr := ipos h1830 hr
       refine at_off rfl rfl (nt (decide_eq_true (by omega))) rfl ?_
       refine at_off rfl rfl (nt (decide_eq_true (by omega))) rfl ?_
       refine at_off rfl rfl (nt (decide_eq_true (by omega))) rfl ?_
       refine at_off rfl rfl (nt (decide_eq_true (by omega))) rfl ?_
       refine at_off rfl rfl (nt (decide_eq_true (by omega))) rfl ?_
       refine at_off rfl rfl (nt (decide_eq_true (by omega))) rfl ?_
       refine at_lt (lt_pick false rfl (nt (decide_eq_true (by omega))) rfl) rfl ?_
       refine at_nil ?_
       have hq := oinj hr
       clear hr
       subst hq
       exact at_leaf () ⟨⟨rfl, ⟨rfl, ⟨rfl, trivial⟩⟩⟩, ⟨[true], rfl⟩, ⟨[], rfl⟩, ⟨[0, 1, 2], rfl⟩⟩
      replace hr := ineg h1830 hr
      refine at_on rfl rfl (nf (decide_eq_false (by omega))) ?_
      refine s_mv rfl ?_
      refine at_on rfl rfl (nf (decide_eq_false (by omega))) ?_
      refine at_lt (lt_fieldAddr 1 rfl fld69_1 rfl) rfl ?_
      refine at_on rfl rfl (nf (decide_eq_false (by omega))) ?_
      refine at_lt (lt_aidx 0 rfl rfl (by omega) rfl und64 ti5 rfl) rfl ?_
      refine at_on rfl rfl (nf (decide_eq_false (by omega))) ?_
      refine at_lt (lt_load_box 0 rfl ti5 rfl rfl rfl rfl rfl) rfl ?_
      replace hr := obind hr
      obtain ⟨x1831, h1832, hr⟩ := hr
      refine at_on rfl rfl (nf (decide_eq_false (by omega))) ?_
      refine at_hv rfl (hv_call0 [] (f89_spec h1832) rfl rfl rfl rfl ?_)
      rintro _ _ ⟨rfl, rfl⟩
      refine at_on rfl rfl (nf (decide_eq_false (by omega))) ?_
      refine at_lt (lt_not rfl) rfl ?_
      refine at_lt (lt_pick true rfl (nf (decide_eq_false (by omega))) rfl) rfl ?_
      refine at_nil ?_
      have hq := oinj hr
      clear hr
      subst hq
      exact at_leaf () ⟨⟨rfl, ⟨rfl, ⟨rfl, trivial⟩⟩⟩, ⟨[true], rfl⟩, ⟨[], rfl⟩, ⟨[0, 1, 2], rfl⟩⟩
     replace hr := ineg h1829 hr
     by_cases h1833 : x1822 = 1
     ·replace hr := ipos h1833 hr
      refine at_lt (lt_aidx 1 rfl rfl (by omega) rfl und64 ti5 rfl) rfl ?_
      refine at_lt (lt_load_box 0 rfl ti5 rfl rfl rfl rfl rfl) rfl (at_lt (lt_neq rfl rfl) rfl (s_mv rfl ?_))
      by_cases h1834 : a0.Ind_1.toNat = 32
      ·replace hr := ipos h1834 hr
       refine at_off rfl rfl (nt (decide_eq_true (by omega))) rfl ?_
       refine at_off rfl rfl (nt (decide_eq_true (by omega))) rfl ?_
       refine at_off rfl rfl (nt (decide_eq_true (by omega))) rfl ?_
       refine at_off rfl rfl (nt (decide_eq_true (by omega))) rfl ?_
       refine at_off rfl rfl (nt (decide_eq_true (by omega))) rfl ?_
       refine at_off rfl rfl (nt (decide_eq_true (by omega))) rfl ?_
       refine at_lt (lt_pick false rfl (nt (decide_eq_true (by omega))) rfl) rfl ?_
       refine at_nil ?_
       have hq := oinj hr
       clear hr
       subst hq
       exact at_leaf () ⟨⟨rfl, ⟨rfl, ⟨rfl, trivial⟩⟩⟩, ⟨[true], rfl⟩, ⟨[], rfl⟩, ⟨[0, 1, 2], rfl⟩⟩
      replace hr := ineg h1834 hr
      refine at_on rfl rfl (nf (decide_eq_false (by omega))) ?_
      refine s_mv rfl ?_
      refine at_on rfl rfl (nf (decide_eq_false (by omega))) ?_
      refine at_lt (lt_fieldAddr 1 rfl fld69_1 rfl) rfl ?_
      refine at_on rfl rfl (nf (decide_eq_false (by omega))) ?_
      refine at_lt (lt_aidx 1 rfl rfl (by omega) rfl und64 ti5 rfl) rfl ?_
      refine at_on rfl rfl (nf (decide_eq_false (by omega))) ?_
      refine at_lt (lt_load_box 0 rfl ti5 rfl rfl rfl rfl rfl) rfl ?_
      replace hr := obind hr
      obtain ⟨x1835, h1836, hr⟩ := hr
      refine at_on rfl rfl (nf (decide_eq_false (by omega))) ?_
      refine at_hv rfl (hv_call0 [] (f89_spec h1836) rfl rfl rfl rfl ?_)
      rintro _ _ ⟨rfl, rfl⟩
      refine at_on rfl rfl (nf (decide_eq_false (by omega))) ?_
      refine at_lt (lt_not rfl) rfl ?_
      refine at_lt (lt_pick true rfl (nf (decide_eq_false (by omega))) rfl) rfl ?_
      refine at_nil ?_
      have hq := oinj hr
      clear hr
      subst hq
      exact at_leaf () ⟨⟨rfl, ⟨rfl, ⟨rfl, trivial⟩⟩⟩, ⟨[true], rfl⟩, ⟨[], rfl⟩, ⟨[0, 1, 2], rfl⟩⟩
     replace hr := ineg h1833 hr
     cases hr
    clear hc1828
    intro _
    change At _ _ (⟨[(1, .pointer (some (Addr.add ⟨b1814, 0, none⟩ 0))), (3, .int .i64 (x1822 : Int)), (37, .bool x1827)], [⟨b1814, [str a0.Tag, .int .u8 (a0.Ind_0.toNat : Int), .int .u8 (a0.Ind_1.toNat : Int), s1813], 69⟩], [], [((Ty.int .i64).fact (x1822 : Int) [.int .i64 (x1822 : Int)]), (Ty.str.fact a0.Tag [str a0.Tag]), ((Ty.slice ty66).fact a0.Subs [s1813])]⟩ : St) _
    refine at_then ?_
    by_cases h1837 : x1827 = true
    ·replace hr := ipos h1837 hr
     refine at_true rfl h1837 (s_sr (s_as rfl (s_nt (at_ret ?_))))
     have hq := oinj hr
     clear hr
     subst hq
     have hq := oinj hk1825
     clear hk1825
     subst hq
     refine at_in_ret (at_then_ret (at_then_ret (at_in_ret (at_then_ret (at_then_ret ?_)))))
     exact at_return (.bool false) [] hS Tryz.results56 (.cons (.tmp rfl) .nil) rfl rfl ⟨rfl, rfl⟩
    replace hr := ineg h1837 hr
    refine at_false rfl (bf h1837) (at_skip (at_in (s_tr (s_mv rfl ?_))))
    replace hr := imust hr
    obtain ⟨h1838, hr⟩ := hr
    refine at_lt (lt_add rfl rfl (by simp only [lo, hi]; omega)) rfl (s_as rfl (at_nil (at_int .i64 (x1822 + 1 : Int) (by simp only [lo, hi]; omega) ?_)))
    exact at_again (σ := Nat) (V := Unit) (lp := fun n s => m56_l1 a0 n s) (S := fun s e => (⟨[(1, .pointer (some (Addr.add ⟨b1814, 0, none⟩ 0))), (3, .int .i64 (s : Int))], [⟨b1814, [str a0.Tag, .int .u8 (a0.Ind_0.toNat : Int), .int .u8 (a0.Ind_1.toNat : Int), s1813], 69⟩], [], [((Ty.int .i64).fact (s : Int) [.int .i64 (s : Int)]), (Ty.str.fact a0.Tag [str a0.Tag]), ((Ty.slice ty66).fact a0.Subs [s1813])]⟩ : St)) (x1822 + 1) () hr ⟨⟨rfl, ⟨rfl, trivial⟩⟩, ⟨[true], rfl⟩, ⟨[], rfl⟩, ⟨[0, 2, 3], rfl⟩⟩
   replace hr := ineg h1826 hr
   refine at_false rfl (decide_eq_false (by omega)) ?_
   refine at_exit (at_then_exit (at_then_exit (at_in_exit ?_)))
   have hq := oinj hr
   clear hr
   subst hq
   exact at_leafP ((), ()) rfl ⟨⟨rfl, trivial⟩, ⟨[true], rfl⟩, ⟨[], rfl⟩, ⟨[1, 2], rfl⟩⟩
  rintro ⟨_, _⟩ hp
  replace hr := hk1825
  subst hp
  clear hl1824
  change At _ _ (⟨[(1, .pointer (some (Addr.add ⟨b1814, 0, none⟩ 0)))], [⟨b1814, [str a0.Tag, .int .u8 (a0.Ind_0.toNat : Int), .int .u8 (a0.Ind_1.toNat : Int), s1813], 69⟩], [], [(Ty.str.fact a0.Tag [str a0.Tag]), ((Ty.slice ty66).fact a0.Subs [s1813])]⟩ : St) _
  refine at_then (at_seq (s_sr (s_as rfl (s_nt (at_int .i64 0 (by simp only [lo, hi]; omega) ?_)))))
  replace hr := obind hr
  obtain ⟨r1840, hl1841, hk1842⟩ := hr
  refine at_cutP (V := (Unit) × (Unit)) (fun v => r1840 = Fl.go v.1) (fun v => (⟨[], [], [], []⟩ : St)) ?_ ?_
  ·refine at_block ?_
   refine at_loopW (σ := Nat) (V := Unit) (r := r1840) (fun n s => m56_l2 a0 n s) (fun s e => (⟨[(1, .pointer (some (Addr.add ⟨b1814, 0, none⟩ 0))), (4, .int .i64 (s : Int))], [⟨b1814, [str a0.Tag, .int .u8 (a0.Ind_0.toNat : Int), .int .u8 (a0.Ind_1.toNat : Int), s1813], 69⟩], [], [((Ty.int .i64).fact (s : Int) [.int .i64 (s : Int)]), (Ty.str.fact a0.Tag [str a0.Tag]), ((Ty.slice ty66).fact a0.Subs [s1813])]⟩ : St)) (fun _ => rfl) _ 0 () hl1841 ⟨⟨rfl, ⟨rfl, trivial⟩⟩, ⟨[true], rfl⟩, ⟨[], rfl⟩, ⟨[0, 1, 2], rfl⟩⟩ ?_
   clear hl1841
   intro n x1839 hr e
   skip
   skip
   change m56_l2 a0 (n + 1) x1839 = some r1840 at hr
   change At _ _ (⟨[(1, .pointer (some (Addr.add ⟨b1814, 0, none⟩ 0))), (4, .int .i64 (x1839 : Int))], [⟨b1814, [str a0.Tag, .int .u8 (a0.Ind_0.toNat : Int), .int .u8 (a0.Ind_1.toNat : Int), s1813], 69⟩], [], [((Ty.int .i64).fact (x1839 : Int) [.int .i64 (x1839 : Int)]), (Ty.str.fact a0.Tag [str a0.Tag]), ((Ty.slice ty66).fact a0.Subs [s1813])]⟩ : St) _
   rw [m56_l2] at hr
   refine at_seq (s_sr (s_mv rfl (at_lt (lt_fieldAddr 3 rfl fld69_2 rfl) rfl (at_lt (lt_load_box 0 rfl ti67 rfl rfl rfl rfl rfl) rfl (at_lt (lt_flen 2 rfl rfl und67) rfl (at_lt (lt_lss rfl rfl) rfl (s_nt ?_)))))))
   by_cases h1843 : x1839 < a0.Subs.length
   ·replace hr := ipos h1843 hr
    refine at_true rfl (decide_eq_true (by omega)) ?_
    refine at_skip (at_then (at_seq (at_block (s_sr (at_lt (lt_fieldAddr 3 rfl fld69_2 rfl) rfl (at_lt (lt_load_box 0 rfl ti67 rfl rfl rfl rfl rfl) rfl (s_mv rfl ?_)))))))
    replace hr := obind hr
    obtain ⟨x1844, h1845, hr⟩ := hr
    have := (List.getElem?_eq_some_iff.1 h1845).1
    refine at_elem 2 rfl (nat_at' h1845) (fun p1846 ec pa1847 => ?_)
    refine at_open (A := Unit) 0 rfl _ _ (fun F w h => op66 h) ?_
    rintro _ rfl
    refine at_lt (lt_idx rfl rfl pa1847 und67 ti66) rfl (at_lt (lt_fieldAddr 0 rfl fld66_0 rfl) rfl (at_lt (lt_load_peek 2 rfl ti5 rfl rfl rfl rfl rfl) rfl ?_))
    replace hr := obind hr
    obtain ⟨x1848, h1849, hr⟩ := hr
    refine at_hv rfl (hv_call0 [] (f89_spec h1849) rfl rfl rfl rfl ?_)
    rintro _ _ ⟨rfl, rfl⟩
    refine at_lt (lt_not rfl) rfl (s_mv rfl ?_)
    by_cases h1850 : x1848 = true
    ·replace hr := ipos h1850 hr
     refine at_on rfl rfl (nt h1850) (at_lt (lt_fieldAddr 3 rfl fld69_2 rfl) rfl (at_on rfl rfl (nt h1850) (at_lt (lt_load_box 0 rfl ti67 rfl rfl rfl rfl rfl) rfl (at_on rfl rfl (nt h1850) (s_mv rfl ?_)))))
     replace hr := obind hr
     obtain ⟨x1851, h1852, hr⟩ := hr
     have := (List.getElem?_eq_some_iff.1 h1852).1
     refine at_elem 5 rfl (nat_at' h1852) (fun p1853 ec pa1854 => ?_)
     refine at_open (A := Unit) 0 rfl _ _ (fun F w h => op66 h) ?_
     rintro _ rfl
     refine at_on rfl rfl (nt h1850) (at_lt (lt_idx rfl rfl pa1854 und67 ti66) rfl (at_on rfl rfl (nt h1850) (at_lt (lt_fieldAddr 1 rfl fld66_1 rfl) rfl (at_on rfl rfl (nt h1850) (at_lt (lt_load_peek 2 rfl ti9 rfl rfl rfl rfl rfl) rfl ?_)))))
     replace hr := obind hr
     obtain ⟨x1855, h1856, hr⟩ := hr
     refine at_on rfl rfl (nt h1850) (at_hv rfl (hv_call0 [0] (f90_spec h1856) rfl rfl rfl rfl ?_))
     rintro _ _ ⟨rfl, rfl⟩
     refine at_on rfl rfl (nt h1850) (at_lt (lt_not rfl) rfl (at_lt (lt_pick false rfl (nt h1850) rfl) rfl (s_nt ?_)))
     by_cases h1857 : x1855 = true
     ·replace hr := ipos h1857 hr
      refine at_false rfl (nt h1857) (at_skip (at_in (s_tr (s_mv rfl (at_lt (lt_add rfl rfl (by simp only [lo, hi]; omega)) rfl (s_as rfl (at_nil (at_int .i64 (x1839 + 1 : Int) (by simp only [lo, hi]; omega) ?_))))))))
      exact at_again (σ := Nat) (V := Unit) (lp := fun n s => m56_l2 a0 n s) (S := fun s e => (⟨[(1, .pointer (some (Addr.add ⟨b1814, 0, none⟩ 0))), (4, .int .i64 (s : Int))], [⟨b1814, [str a0.Tag, .int .u8 (a0.Ind_0.toNat : Int), .int .u8 (a0.Ind_1.toNat : Int), s1813], 69⟩], [], [((Ty.int .i64).fact (s : Int) [.int .i64 (s : Int)]), (Ty.str.fact a0.Tag [str a0.Tag]), ((Ty.slice ty66).fact a0.Subs [s1813])]⟩ : St)) (x1839 + 1) () hr ⟨⟨rfl, ⟨rfl, trivial⟩⟩, ⟨[true], rfl⟩, ⟨[], rfl⟩, ⟨[0, 8, 9], rfl⟩⟩
     replace hr := ineg h1857 hr
     refine at_true rfl (nf (bf h1857)) (s_sr (s_as rfl (s_nt (at_ret ?_))))
     have hq := oinj hr
     clear hr
     subst hq
     have hq := oinj hk1842
     clear hk1842
     subst hq
     refine at_in_ret (at_then_ret (at_then_ret (at_in_ret (at_then_ret (at_then_ret ?_)))))
     exact at_return (.bool false) [] hS Tryz.results56 (.cons (.tmp rfl) .nil) rfl rfl ⟨rfl, rfl⟩
    replace hr := ineg h1850 hr
    refine at_off rfl rfl (nf (bf h1850)) rfl (at_off rfl rfl (nf (bf h1850)) rfl (at_off rfl rfl (nf (bf h1850)) rfl (at_off rfl rfl (nf (bf h1850)) rfl (at_off rfl rfl (nf (bf h1850)) rfl (at_off rfl rfl (nf (bf h1850)) rfl (at_off rfl rfl (nf (bf h1850)) rfl (at_off rfl rfl (nf (bf h1850)) rfl (at_lt (lt_pick true rfl (nf (bf h1850)) rfl) rfl (s_nt ?_)))))))))
    refine at_true rfl rfl (s_sr (s_as rfl (s_nt (at_ret ?_))))
    have hq := oinj hr
    clear hr
    subst hq
    have hq := oinj hk1842
    clear hk1842
    subst hq
    refine at_in_ret (at_then_ret (at_then_ret (at_in_ret (at_then_ret (at_then_ret ?_)))))
    exact at_return (.bool false) [] hS Tryz.results56 (.cons (.tmp rfl) .nil) rfl rfl ⟨rfl, rfl⟩
   replace hr := ineg h1843 hr
   refine at_false rfl (decide_eq_false (by omega)) ?_
   refine at_exit (at_then_exit (at_then_exit (at_in_exit ?_)))
   have hq := oinj hr
   clear hr
   subst hq
   exact at_leafP ((), ()) rfl ⟨trivial, ⟨[false], rfl⟩, ⟨[], rfl⟩, ⟨[], rfl⟩⟩
  rintro ⟨_, _⟩ hp
  replace hr := hk1842
  subst hp
  clear hl1841
  change At _ _ (⟨[], [], [], []⟩ : St) _
  refine s_tsr (s_as rfl (s_nt (at_ret ?_)))
  have hq := oinj hr
  clear hr
  subst hq
  exact at_return (.bool true) [] hS Tryz.results56 (.cons (.tmp rfl) .nil) rfl rfl ⟨rfl, rfl⟩
 replace hr := ineg h1817 hr
 refine at_off rfl rfl (nf (bf h1817)) rfl (at_off rfl rfl (nf (bf h1817)) rfl (at_off rfl rfl (nf (bf h1817)) rfl (at_off rfl rfl (nf (bf h1817)) rfl (at_lt (lt_pick true rfl (nf (bf h1817)) rfl) rfl (s_mv rfl (at_off rfl rfl rfl rfl (at_off rfl rfl rfl rfl (at_off rfl rfl rfl rfl (at_off rfl rfl rfl rfl ?_)))))))))
 refine at_lt (lt_pick true rfl rfl rfl) rfl (s_nt (at_true rfl rfl (s_sr (s_as rfl (s_nt (at_ret ?_))))))
 have hq := oinj hr
 clear hr
 subst hq
 refine at_then_ret ?_
 exact at_return (.bool false) [] hS Tryz.results56 (.cons (.tmp rfl) .nil) rfl rfl ⟨rfl, rfl⟩
def m25_l1 (a0 : D_api_Record) : Nat → Nat → Option (Fl Bool Unit)
  | 0, _ => none
  | k + 1, x1867 =>
    if x1867 < a0.Fields.length then
     (a0.Fields[x1867]?).bind fun x1872 =>
     (m56 x1872).bind fun x1877 =>
     if x1877 = true then
      m25_l1 a0 k (x1867 + 1)
     else
      some (Fl.ret false)
    else
     some (Fl.go ())
def m25 (a0 : D_api_Record) : Option Bool :=
  if a0.ID < 1 then
   some false
  else
   if (1000000000 : Int) < a0.ID then
    some false
   else
    if a0.Fields.length < 1 then
     some false
    else
     if 60 < a0.Fields.length then
      some false
     else
      (m25_l1 a0 (a0.Fields.length + 1) 0).bind fun r => match r with
      | .ret x => some x
      | .go _ =>
       some true
def post25 (r : Bool) (v : Value) (fs : List Fact) : Prop := v = .bool r ∧ fs = []
theorem en25 : Enters Tryz.prog 25 := ⟨_, Tryz.func25, by kernel_rfl, rfl⟩
theorem f25_spec {a0 : D_api_Record} {s1858 : Value} {r : Bool} (hr : m25 a0 = some r) : Spec Tryz.prog 25 [.agg #[.int .i64 a0.ID, s1858]] [(ty25.fact a0 [.int .i64 a0.ID, s1858])] (post25 r) := by
 refine spec_start (N := 38) Tryz.func25 (by kernel_rfl) rfl rfl rfl ?_
 intro g hS
 unfold m25 at hr
 refine at_open (A := Unit) 0 rfl (fun _ => True) (fun _ => [((Ty.int .i64).fact a0.ID [.int .i64 a0.ID]), ((Ty.slice ty69).fact a0.Fields [s1858])]) (fun F w h => ⟨(), trivial, ex25 h⟩) (fun _ _ => ?_)
 refine at_inv 0 rfl (fun l1859 => ?_)
 replace l1859 : (-9223372036854775808) ≤ a0.ID ∧ a0.ID ≤ 9223372036854775807 := l1859
 refine s_sr (at_hv rfl ?_)
 refine hv_box (cs := [.int .i64 a0.ID, s1858]) rfl rfl rfl (fun b1860 => ?_)
 refine s_as rfl (s_nt (at_seq (s_sr (at_lt (lt_fieldAddr 0 rfl fld25_0 rfl) rfl (at_lt (lt_load_box 0 rfl ti3 rfl rfl rfl rfl rfl) rfl (at_lt (lt_lss rfl rfl) rfl (s_mv rfl ?_)))))))
 by_cases h1861 : a0.ID < 1
 ·replace hr := ipos h1861 hr
  refine at_off rfl rfl (decide_eq_true (by first | exact h1861 | omega)) rfl ?_
  refine at_off rfl rfl (decide_eq_true (by first | exact h1861 | omega)) rfl ?_
  refine at_off rfl rfl (decide_eq_true (by first | exact h1861 | omega)) rfl ?_
  refine at_lt (lt_pick true rfl (decide_eq_true (by first | exact h1861 | omega)) rfl) rfl ?_
  refine s_mv rfl (at_off rfl rfl rfl rfl (at_off rfl rfl rfl rfl (at_off rfl rfl rfl rfl (at_off rfl rfl rfl rfl (at_lt (lt_pick true rfl rfl rfl) rfl (s_mv rfl (at_off rfl rfl rfl rfl (at_off rfl rfl rfl rfl (at_off rfl rfl rfl rfl ?_)))))))))
  refine at_off rfl rfl rfl rfl (at_lt (lt_pick true rfl rfl rfl) rfl (s_nt (at_true rfl rfl (s_sr (s_as rfl (s_nt (at_ret ?_)))))))
  have hq := oinj hr
  clear hr
  subst hq
  refine at_then_ret ?_
  exact at_return (.bool false) [] hS Tryz.results25 (.cons (.tmp rfl) .nil) rfl rfl ⟨rfl, rfl⟩
 replace hr := ineg h1861 hr
 refine at_on rfl rfl (decide_eq_false (by first | exact h1861 | omega)) ?_
 refine at_lt (lt_fieldAddr 0 rfl fld25_0 rfl) rfl ?_
 refine at_on rfl rfl (decide_eq_false (by first | exact h1861 | omega)) ?_
 refine at_lt (lt_load_box 0 rfl ti3 rfl rfl rfl rfl rfl) rfl ?_
 refine at_on rfl rfl (decide_eq_false (by first | exact h1861 | omega)) ?_
 refine at_lt (lt_gtr rfl rfl) rfl ?_
 refine at_lt (lt_pick false rfl (decide_eq_false (by first | exact h1861 | omega)) rfl) rfl ?_
 refine s_mv rfl ?_
 by_cases h1862 : (1000000000 : Int) < a0.ID
 ·replace hr := ipos h1862 hr
  refine at_off rfl rfl (decide_eq_true (by first | exact h1862 | omega)) rfl ?_
  refine at_off rfl rfl (decide_eq_true (by first | exact h1862 | omega)) rfl ?_
  refine at_off rfl rfl (decide_eq_true (by first | exact h1862 | omega)) rfl ?_
  refine at_off rfl rfl (decide_eq_true (by first | exact h1862 | omega)) rfl ?_
  refine at_lt (lt_pick true rfl (decide_eq_true (by first | exact h1862 | omega)) rfl) rfl ?_
  refine s_mv rfl (at_off rfl rfl rfl rfl (at_off rfl rfl rfl rfl (at_off rfl rfl rfl rfl (at_off rfl rfl rfl rfl (at_lt (lt_pick true rfl rfl rfl) rfl (s_nt (at_true rfl rfl (s_sr (s_as rfl ?_)))))))))
  refine s_nt (at_ret ?_)
  have hq := oinj hr
  clear hr
  subst hq
  refine at_then_ret ?_
  exact at_return (.bool false) [] hS Tryz.results25 (.cons (.tmp rfl) .nil) rfl rfl ⟨rfl, rfl⟩
 replace hr := ineg h1862 hr
 refine at_on rfl rfl (decide_eq_false (by first | exact h1862 | omega)) ?_
 refine at_lt (lt_fieldAddr 1 rfl fld25_1 rfl) rfl ?_
 refine at_on rfl rfl (decide_eq_false (by first | exact h1862 | omega)) ?_
 refine at_lt (lt_load_box 0 rfl ti23 rfl rfl rfl rfl rfl) rfl ?_
 refine at_inv 1 rfl (fun i1863 => ?_)
 have l1864 := slice_len i1863
 refine at_on rfl rfl (decide_eq_false (by first | exact h1862 | omega)) ?_
 refine at_lt (lt_flen 1 rfl rfl und23) rfl ?_
 refine at_on rfl rfl (decide_eq_false (by first | exact h1862 | omega)) ?_
 refine at_lt (lt_lss rfl rfl) rfl ?_
 refine at_lt (lt_pick false rfl (decide_eq_false (by first | exact h1862 | omega)) rfl) rfl ?_
 refine s_mv rfl ?_
 by_cases h1865 : a0.Fields.length < 1
 ·replace hr := ipos h1865 hr
  refine at_off rfl rfl (decide_eq_true (by omega)) rfl ?_
  refine at_off rfl rfl (decide_eq_true (by omega)) rfl ?_
  refine at_off rfl rfl (decide_eq_true (by omega)) rfl ?_
  refine at_off rfl rfl (decide_eq_true (by omega)) rfl ?_
  refine at_lt (lt_pick true rfl (decide_eq_true (by omega)) rfl) rfl ?_
  refine s_nt (at_true rfl rfl (s_sr (s_as rfl (s_nt (at_ret ?_)))))
  have hq := oinj hr
  clear hr
  subst hq
  refine at_then_ret ?_
  exact at_return (.bool false) [] hS Tryz.results25 (.cons (.tmp rfl) .nil) rfl rfl ⟨rfl, rfl⟩
 replace hr := ineg h1865 hr
 refine at_on rfl rfl (decide_eq_false (by omega)) ?_
 refine at_lt (lt_fieldAddr 1 rfl fld25_1 rfl) rfl ?_
 refine at_on rfl rfl (decide_eq_false (by omega)) ?_
 refine at_lt (lt_load_box 0 rfl ti23 rfl rfl rfl rfl rfl) rfl ?_
 refine at_on rfl rfl (decide_eq_false (by omega)) ?_
 refine at_lt (lt_flen 1 rfl rfl und23) rfl ?_
 refine at_on rfl rfl (decide_eq_false (by omega)) ?_
 refine at_lt (lt_gtr rfl rfl) rfl ?_
 refine at_lt (lt_pick false rfl (decide_eq_false (by omega)) rfl) rfl ?_
 refine s_nt ?_
 by_cases h1866 : 60 < a0.Fields.length
 ·replace hr := ipos h1866 hr
  refine at_true rfl (decide_eq_true (by omega)) ?_
  refine s_sr (s_as rfl (s_nt (at_ret ?_)))
  have hq := oinj hr
  clear hr
  subst hq
  refine at_then_ret ?_
  exact at_return (.bool false) [] hS Tryz.results25 (.cons (.tmp rfl) .nil) rfl rfl ⟨rfl, rfl⟩
 replace hr := ineg h1866 hr
 refine at_false rfl (decide_eq_false (by omega)) ?_
 refine at_skip (at_then (at_seq (s_sr (s_as rfl (s_nt (at_int .i64 0 (by simp only [lo, hi]; omega) ?_))))))
 replace hr := obind hr
 obtain ⟨r1868, hl1869, hk1870⟩ := hr
 refine at_cutP (V := (Unit) × (Unit)) (fun v => r1868 = Fl.go v.1) (fun v => (⟨[], [], [], []⟩ : St)) ?_ ?_
 ·refine at_block ?_
  refine at_loopW (σ := Nat) (V := Unit) (r := r1868) (fun n s => m25_l1 a0 n s) (fun s e => (⟨[(1, .pointer (some (Addr.add ⟨b1860, 0, none⟩ 0))), (3, .int .i64 (s : Int))], [⟨b1860, [.int .i64 a0.ID, s1858], 25⟩], [], [((Ty.int .i64).fact (s : Int) [.int .i64 (s : Int)]), ((Ty.int .i64).fact a0.ID [.int .i64 a0.ID]), ((Ty.slice ty69).fact a0.Fields [s1858])]⟩ : St)) (fun _ => rfl) _ 0 () hl1869 ⟨⟨rfl, ⟨rfl, trivial⟩⟩, ⟨[true], rfl⟩, ⟨[], rfl⟩, ⟨[0, 1, 2], rfl⟩⟩ ?_
  clear hl1869
  intro n x1867 hr e
  skip
  skip
  change m25_l1 a0 (n + 1) x1867 = some r1868 at hr
  change At _ _ (⟨[(1, .pointer (some (Addr.add ⟨b1860, 0, none⟩ 0))), (3, .int .i64 (x1867 : Int))], [⟨b1860, [.int .i64 a0.ID, s1858], 25⟩], [], [((Ty.int .i64).fact (x1867 : Int) [.int .i64 (x1867 : Int)]), ((Ty.int .i64).fact a0.ID [.int .i64 a0.ID]), ((Ty.slice ty69).fact a0.Fields [s1858])]⟩ : St) _
  rw [m25_l1] at hr
  refine at_seq (s_sr (s_mv rfl (at_lt (lt_fieldAddr 1 rfl fld25_1 rfl) rfl (at_lt (lt_load_box 0 rfl ti23 rfl rfl rfl rfl rfl) rfl (at_lt (lt_flen 2 rfl rfl und23) rfl (at_lt (lt_lss rfl rfl) rfl (s_nt ?_)))))))
  by_cases h1871 : x1867 < a0.Fields.length
  ·replace hr := ipos h1871 hr
   refine at_true rfl (decide_eq_true (by omega)) ?_
   refine at_skip (at_then (at_seq (at_block (s_sr (at_lt (lt_fieldAddr 1 rfl fld25_1 rfl) rfl (at_lt (lt_load_box 0 rfl ti23 rfl rfl rfl rfl rfl) rfl (s_mv rfl ?_)))))))
   replace hr := obind hr
   obtain ⟨x1872, h1873, hr⟩ := hr
   have := (List.getElem?_eq_some_iff.1 h1873).1
   refine at_elem 2 rfl (nat_at' h1873) (fun p1875 ec pa1876 => ?_)
   refine at_open (A := Value) 0 rfl _ _ (fun F w h => op69 h) ?_
   rintro s1874 rfl
   refine at_lt (lt_idx rfl rfl pa1876 und23 ti69) rfl (at_lt (lt_load_peek 3 rfl ti69 rfl rfl rfl rfl rfl) rfl ?_)
   replace hr := obind hr
   obtain ⟨x1877, h1878, hr⟩ := hr
   refine at_hv rfl (hv_call0 [2] (f56_spec h1878) rfl rfl rfl rfl ?_)
   rintro _ _ ⟨rfl, rfl⟩
   refine at_lt (lt_not rfl) rfl (s_nt ?_)
   by_cases h1879 : x1877 = true
   ·replace hr := ipos h1879 hr
    refine at_false rfl (nt h1879) (at_skip (at_in (s_tr (s_mv rfl (at_lt (lt_add rfl rfl (by simp only [lo, hi]; omega)) rfl (s_as rfl (at_nil (at_int .i64 (x1867 + 1 : Int) (by simp only [lo, hi]; omega) ?_))))))))
    exact at_again (σ := Nat) (V := Unit) (lp := fun n s => m25_l1 a0 n s) (S := fun s e => (⟨[(1, .pointer (some (Addr.add ⟨b1860, 0, none⟩ 0))), (3, .int .i64 (s : Int))], [⟨b1860, [.int .i64 a0.ID, s1858], 25⟩], [], [((Ty.int .i64).fact (s : Int) [.int .i64 (s : Int)]), ((Ty.int .i64).fact a0.ID [.int .i64 a0.ID]), ((Ty.slice ty69).fact a0.Fields [s1858])]⟩ : St)) (x1867 + 1) () hr ⟨⟨rfl, ⟨rfl, trivial⟩⟩, ⟨[true], rfl⟩, ⟨[], rfl⟩, ⟨[0, 6, 7], rfl⟩⟩
   replace hr := ineg h1879 hr
   refine at_true rfl (nf (bf h1879)) (s_sr (s_as rfl (s_nt (at_ret ?_))))
   have hq := oinj hr
   clear hr
   subst hq
   have hq := oinj hk1870
   clear hk1870
   subst hq
   refine at_in_ret (at_then_ret (at_then_ret (at_in_ret (at_then_ret (at_then_ret ?_)))))
   exact at_return (.bool false) [] hS Tryz.results25 (.cons (.tmp rfl) .nil) rfl rfl ⟨rfl, rfl⟩
  replace hr := ineg h1871 hr
  refine at_false rfl (decide_eq_false (by omega)) ?_
  refine at_exit (at_then_exit (at_then_exit (at_in_exit ?_)))
  have hq := oinj hr
  clear hr
  subst hq
  exact at_leafP ((), ()) rfl ⟨trivial, ⟨[false], rfl⟩, ⟨[], rfl⟩, ⟨[], rfl⟩⟩
 rintro ⟨_, _⟩ hp
 replace hr := hk1870
 subst hp
 clear hl1869
 change At _ _ (⟨[], [], [], []⟩ : St) _
 refine s_tsr (s_as rfl (s_nt (at_ret ?_)))
 have hq := oinj hr
 clear hr
 subst hq
 exact at_return (.bool true) [] hS Tryz.results25 (.cons (.tmp rfl) .nil) rfl rfl ⟨rfl, rfl⟩
def m109 (a0 : D_api_Field) : Option D_api_Field :=
  if a0.Subs.length ≤ 5864062014805 then
   some (⟨a0.Tag, a0.Ind_0, a0.Ind_1, [] ++ a0.Subs⟩ : D_api_Field)
  else none
def post109 (r : D_api_Field) (v : Value) (fs : List Fact) : Prop := ∃ s1889 : Value, v = .agg #[str r.Tag, .int .u8 (r.Ind_0.toNat : Int), .int .u8 (r.Ind_1.toNat : Int), s1889] ∧ fs = [(ty69.fact r [str r.Tag, .int .u8 (r.Ind_0.toNat : Int), .int .u8 (r.Ind_1.toNat : Int), s1889])]
theorem en109 : Enters Tryz.prog 109 := ⟨_, Tryz.func109, by kernel_rfl, rfl⟩
theorem f109_spec {a0 : D_api_Field} {s1880 : Value} {r : D_api_Field} (hr : m109 a0 = some r) : Spec Tryz.prog 109 [.agg #[str a0.Tag, .int .u8 (a0.Ind_0.toNat : Int), .int .u8 (a0.Ind_1.toNat : Int), s1880]] [(ty69.fact a0 [str a0.Tag, .int .u8 (a0.Ind_0.toNat : Int), .int .u8 (a0.Ind_1.toNat : Int), s1880])] (post109 r) := by
 refine spec_start (N := 9) Tryz.func109 (by kernel_rfl) rfl rfl rfl ?_
 intro g hS
 unfold m109 at hr
 refine at_open (A := Unit) 0 rfl (fun _ => True) (fun _ => [(Ty.str.fact a0.Tag [str a0.Tag]), ((Ty.slice ty66).fact a0.Subs [s1880])]) (fun F w h => ⟨(), trivial, ex69 h⟩) (fun _ _ => ?_)
 refine s_sr (at_hv rfl ?_)
 refine hv_box (cs := [str a0.Tag, .int .u8 (a0.Ind_0.toNat : Int), .int .u8 (a0.Ind_1.toNat : Int), s1880]) rfl rfl rfl (fun b1881 => ?_)
 refine at_hv rfl ?_
 refine hv_alloc (cs := [str ([] : Str), .int .u8 0, .int .u8 0, (.slice none 0 0)]) ti69 rfl rfl (fun b1882 => ?_)
 refine s_ntsr (at_hv rfl ?_)
 refine hv_bslice (cs := []) rfl und67 ti66 rfl rfl rfl rfl rfl (fun s1883 => ?_)
 refine at_lt (lt_fieldAddr 3 rfl fld69_2 rfl) rfl (at_lt (lt_load_box 1 rfl ti67 rfl rfl rfl rfl rfl) rfl ?_)
 replace hr := imust hr
 obtain ⟨h1884, hr⟩ := hr
 refine at_rownil ty66 ?_
 refine at_rown 0 0 rfl rfl rfl (fun hn1887 => ?_)
 refine at_hv rfl ?_
 refine hv_append_f 0 2 rfl rfl rfl rfl und67 ti66 rfl rfl (by omega) (by omega) rfl (fun s1885 u1886 => ?_)
 refine at_rowcat 1 0 rfl rfl (at_lt (lt_fieldAddr 3 rfl fld69_2 rfl) rfl ?_)
 refine at_rowv 0 rfl (fun ho1888 => ?_)
 replace ho1888 := row_one (by obtain ⟨a, c, h⟩ := ho1888; exact ⟨a, _, c, h⟩)
 refine at_hv rfl (hv_store1 1 (cs' := [str a0.Tag, .int .u8 (a0.Ind_0.toNat : Int), .int .u8 (a0.Ind_1.toNat : Int), s1885]) rfl rfl ti67 rfl rfl rfl rfl ho1888 (s_ntsr (at_lt (lt_load_box 1 rfl ti69 rfl rfl rfl rfl rfl) rfl (at_hv rfl (hv_store_box 0 (cs' := [str a0.Tag, .int .u8 (a0.Ind_0.toNat : Int), .int .u8 (a0.Ind_1.toNat : Int), s1885]) rfl rfl ti69 rfl rfl rfl rfl (allc rfl (allc rfl (allc rfl (allc ho1888 rfl)))) (s_nt (at_ret ?_)))))))
 have hq := oinj hr
 clear hr
 subst hq
 refine at_release 0 0 rfl rfl rfl (by simp only [List.length_append, List.length_cons, List.length_nil, ty66_bytes] <;> omega) ?_
 refine at_derive [4, 0] (ty69.fact (⟨a0.Tag, a0.Ind_0, a0.Ind_1, [] ++ a0.Subs⟩ : D_api_Field) [str a0.Tag, .int .u8 (a0.Ind_0.toNat : Int), .int .u8 (a0.Ind_1.toNat : Int), s1885]) rfl (fun F w h => mk69 (x := (⟨a0.Tag, a0.Ind_0, a0.Ind_1, [] ++ a0.Subs⟩ : D_api_Field)) h) ?_
 exact at_return (.agg #[str a0.Tag, .int .u8 (a0.Ind_0.toNat : Int), .int .u8 (a0.Ind_1.toNat : Int), s1885]) [0] hS Tryz.results109 (.cons (.cell 0 rfl ti69 rfl rfl rfl rfl) .nil) rfl rfl ⟨s1885, rfl, rfl⟩
def m74_l1 (a0 : D_api_Record) : Nat → Nat → (List D_api_Field) → Option (List D_api_Field)
  | 0, _, _ => none
  | k + 1, x1895, x1896 =>
    if x1895 < a0.Fields.length then
     (a0.Fields[x1895]?).bind fun x1909 =>
     (m109 x1909).bind fun x1914 =>
     if x1896.length + 1 ≤ 2932031007402 then
      m74_l1 a0 k (x1895 + 1) (x1896 ++ [x1914])
     else none
    else
     some x1896
def m74 (a0 : D_api_Record) : Option D_api_Record :=
  (m74_l1 a0 (a0.Fields.length + 1) 0 ([] : (List D_api_Field))).bind fun x1900 =>
  some (⟨a0.ID, x1900⟩ : D_api_Record)
def post74 (r : D_api_Record) (v : Value) (fs : List Fact) : Prop := ∃ s1930 : Value, v = .agg #[.int .i64 r.ID, s1930] ∧ fs = [(ty25.fact r [.int .i64 r.ID, s1930])]
theorem en74 : Enters Tryz.prog 74 := ⟨_, Tryz.func74, by kernel_rfl, rfl⟩
theorem f74_spec {a0 : D_api_Record} {s1890 : Value} {r : D_api_Record} (hr : m74 a0 = some r) : Spec Tryz.prog 74 [.agg #[.int .i64 a0.ID, s1890]] [(ty25.fact a0 [.int .i64 a0.ID, s1890])] (post74 r) := by
 refine spec_start (N := 27) Tryz.func74 (by kernel_rfl) rfl rfl rfl ?_
 intro g hS
 unfold m74 at hr
 refine at_open (A := Unit) 0 rfl (fun _ => True) (fun _ => [((Ty.int .i64).fact a0.ID [.int .i64 a0.ID]), ((Ty.slice ty69).fact a0.Fields [s1890])]) (fun F w h => ⟨(), trivial, ex25 h⟩) (fun _ _ => ?_)
 refine at_inv 0 rfl (fun l1891 => ?_)
 replace l1891 : (-9223372036854775808) ≤ a0.ID ∧ a0.ID ≤ 9223372036854775807 := l1891
 refine s_sr (at_hv rfl ?_)
 refine hv_box (cs := [.int .i64 a0.ID, s1890]) rfl rfl rfl (fun b1892 => ?_)
 refine at_hv rfl ?_
 refine hv_alloc (cs := [.int .i64 0, (.slice none 0 0)]) ti25 rfl rfl (fun b1893 => ?_)
 refine s_ntsr (at_lt (lt_fieldAddr 0 rfl fld25_0 rfl) rfl (at_lt (lt_load_box 1 rfl ti3 rfl rfl rfl rfl rfl) rfl (at_lt (lt_build (cs := [.int .i64 a0.ID, (.slice none 0 0)]) rfl ti25 pl25 rfl) rfl (at_hv rfl ?_))))
 refine hv_alloc (cs := [.int .i64 0, (.slice none 0 0)]) ti25 rfl rfl (fun b1894 => ?_)
 refine at_hv rfl (hv_store_box 0 (cs' := [.int .i64 a0.ID, (.slice none 0 0)]) rfl rfl ti25 rfl rfl rfl rfl rfl (s_nt (at_seq (s_sr (s_as rfl (s_nt (at_int .i64 0 (by simp only [lo, hi]; omega) (at_rownew none 69 4 (at_rownil ty69 ?_)))))))))
 refine at_mkpure (q := (([] : (List D_api_Field)).length * ty69.bytes ≤ 140737488355328)) (by simp only [List.nil_append, List.cons_append, List.length_cons, List.length_nil, ty69_bytes] <;> omega) ?_
 replace hr := obind hr
 obtain ⟨x1900, hl1904, hr⟩ := hr
 refine at_cut (V := Value × Nat × (List Value)) (fun e => (⟨[(2, .pointer (some (Addr.add ⟨b1893, 0, none⟩ 0))), (3, .pointer (some (Addr.add ⟨b1894, 0, none⟩ 0)))], [⟨b1894, [.int .i64 a0.ID, e.1], 25⟩, ⟨b1893, [.int .i64 0, (.slice none 0 0)], 25⟩], [⟨e.1, 69, 4, e.2.1, e.2.2⟩], [(ty69.row x1900 e.2.2), (pureF (x1900.length * ty69.bytes ≤ 140737488355328)), ((Ty.int .i64).fact a0.ID [.int .i64 a0.ID])]⟩ : St)) ?_ ?_
 ·refine at_block ?_
  refine at_loopW (σ := (Nat × (List D_api_Field))) (V := Value × Nat × (List Value)) (r := x1900) (fun n s => m74_l1 a0 n s.1 s.2) (fun s e => (⟨[(1, .pointer (some (Addr.add ⟨b1892, 0, none⟩ 0))), (2, .pointer (some (Addr.add ⟨b1893, 0, none⟩ 0))), (3, .pointer (some (Addr.add ⟨b1894, 0, none⟩ 0))), (4, .int .i64 (s.1 : Int))], [⟨b1894, [.int .i64 a0.ID, e.1], 25⟩, ⟨b1893, [.int .i64 0, (.slice none 0 0)], 25⟩, ⟨b1892, [.int .i64 a0.ID, s1890], 25⟩], [⟨e.1, 69, 4, e.2.1, e.2.2⟩], [((Ty.int .i64).fact (s.1 : Int) [.int .i64 (s.1 : Int)]), (ty69.row s.2 e.2.2), (pureF (s.2.length * ty69.bytes ≤ 140737488355328)), ((Ty.int .i64).fact a0.ID [.int .i64 a0.ID]), ((Ty.slice ty69).fact a0.Fields [s1890])]⟩ : St)) (fun _ => rfl) _ (0, ([] : (List D_api_Field))) ((.slice none 0 0), 0, []) hl1904 ⟨⟨rfl, ⟨rfl, ⟨rfl, ⟨rfl, trivial⟩⟩⟩⟩, ⟨[true, true, true], rfl⟩, ⟨[true], rfl⟩, ⟨[2, 1, 0, 3, 4], rfl⟩⟩ ?_
  clear hr hl1904
  intro n s hr e
  obtain ⟨x1895, x1896⟩ := s
  obtain ⟨v1897, n1898, i1899⟩ := e
  change m74_l1 a0 (n + 1) x1895 x1896 = some x1900 at hr
  change At _ _ (⟨[(1, .pointer (some (Addr.add ⟨b1892, 0, none⟩ 0))), (2, .pointer (some (Addr.add ⟨b1893, 0, none⟩ 0))), (3, .pointer (some (Addr.add ⟨b1894, 0, none⟩ 0))), (4, .int .i64 (x1895 : Int))], [⟨b1894, [.int .i64 a0.ID, v1897], 25⟩, ⟨b1893, [.int .i64 0, (.slice none 0 0)], 25⟩, ⟨b1892, [.int .i64 a0.ID, s1890], 25⟩], [⟨v1897, 69, 4, n1898, i1899⟩], [((Ty.int .i64).fact (x1895 : Int) [.int .i64 (x1895 : Int)]), (ty69.row x1896 i1899), (pureF (x1896.length * ty69.bytes ≤ 140737488355328)), ((Ty.int .i64).fact a0.ID [.int .i64 a0.ID]), ((Ty.slice ty69).fact a0.Fields [s1890])]⟩ : St) _
  rw [m74_l1] at hr
  refine at_seq (s_sr (s_mv rfl (at_lt (lt_fieldAddr 1 rfl fld25_1 rfl) rfl (at_lt (lt_load_box 2 rfl ti23 rfl rfl rfl rfl rfl) rfl ?_))))
  refine at_inv 4 rfl (fun i1906 => ?_)
  have l1907 := slice_len i1906
  refine at_lt (lt_flen 4 rfl rfl und23) rfl (at_lt (lt_lss rfl rfl) rfl (s_nt ?_))
  by_cases h1908 : x1895 < a0.Fields.length
  ·replace hr := ipos h1908 hr
   refine at_true rfl (decide_eq_true (by omega)) ?_
   refine at_skip (at_then (at_seq (at_block ?_)))
   replace hr := obind hr
   obtain ⟨x1909, h1910, hr⟩ := hr
   have := (List.getElem?_eq_some_iff.1 h1910).1
   refine at_elem 4 rfl (nat_at' h1910) (fun p1912 ec pa1913 => ?_)
   refine at_open (A := Value) 0 rfl _ _ (fun F w h => op69 h) ?_
   rintro s1911 rfl
   replace hr := obind hr
   obtain ⟨x1914, h1915, hr⟩ := hr
   replace hr := imust hr
   obtain ⟨h1918, hr⟩ := hr
   refine aa_start 11 (by kernel_rfl) ?_
   refine aa_p 0 rfl (lt_fieldAddr 1 rfl fld25_1 rfl) (aa_l 1 rfl (lt_load_box 0 rfl ti23 rfl rfl rfl rfl rfl) (aa_p 2 rfl (lt_fieldAddr 1 rfl fld25_1 rfl) (aa_l 3 rfl (lt_load_box 2 rfl ti23 rfl rfl rfl rfl rfl) (aa_p 4 rfl (lt_move rfl) (aa_p 5 rfl (lt_idx rfl rfl pa1913 und23 ti69) (aa_l 6 rfl (lt_load_peek 3 rfl ti69 rfl rfl rfl rfl rfl) (aa_one 7 (aa_op rfl rfl (hv_call0 [2] (f109_spec h1915) rfl rfl rfl rfl ?_)))))))))
   rintro _ _ ⟨s1916, rfl, rfl⟩
   refine at_open (A := Unit) 0 rfl (fun _ => True) (fun _ => [(Ty.str.fact x1914.Tag [str x1914.Tag]), ((Ty.slice ty66).fact x1914.Subs [s1916])]) (fun F w h => ⟨(), trivial, ex69 h⟩) (fun _ _ => ?_)
   refine aa_all (rs := [8]) (by kernel_rfl) rfl (ts_in 0 3 rfl rfl) (List.forall_mem_singleton.2 ?_)
   refine aa_op rfl rfl ?_
   refine hv_bslice (cs := [str x1914.Tag, .int .u8 (x1914.Ind_0.toNat : Int), .int .u8 (x1914.Ind_1.toNat : Int), s1916]) rfl und23 ti69 rfl rfl rfl rfl rfl (fun s1923 => ?_)
   refine aa_all (rs := [9]) (by kernel_rfl) rfl (ts_in 0 3 rfl rfl) (List.forall_mem_singleton.2 ?_)
   refine at_rown 1 8 rfl rfl rfl (fun hn1925 => ?_)
   refine at_one 1 rfl (fun ho1926 => ?_)
   refine aa_op rfl rfl ?_
   refine hv_append 1 0 rfl rfl rfl rfl und23 ti69 rfl rfl (allc rfl (allc rfl (allc rfl (allc ho1926 rfl)))) (by omega) (by omega) rfl (fun s1924 => ?_)
   refine at_rowsnoc 8 2 rfl rfl ?_
   refine aa_pure 10 rfl (by kernel_rfl) rfl rfl (lt_fieldAddr 1 rfl fld25_1 rfl) rfl (ts_in 0 4 rfl rfl) ?_
   refine aa_all (rs := [11]) (by kernel_rfl) rfl (ts_in 0 4 rfl rfl) (List.forall_mem_singleton.2 ?_)
   refine at_rowv 1 rfl (fun ho1927 => ?_)
   replace ho1927 := row_one (by obtain ⟨a, c, h⟩ := ho1927; exact ⟨a, _, c, h⟩)
   refine aa_op rfl rfl (hv_store1 0 (cs' := [.int .i64 a0.ID, s1924]) rfl rfl ti23 rfl rfl rfl rfl ho1927 ?_)
   refine aa_done (by kernel_rfl) (ts_out rfl) ?_
   refine at_in (s_tr (s_mv rfl (at_lt (lt_add rfl rfl (by simp only [lo, hi]; omega)) rfl (s_as rfl (at_nil (at_int .i64 (x1895 + 1 : Int) (by simp only [lo, hi]; omega) ?_))))))
   refine at_mkpure (q := ((x1896 ++ [x1914]).length * ty69.bytes ≤ 140737488355328)) (by simp only [List.length_append, List.length_cons, List.length_nil, ty69_bytes] <;> omega) ?_
   exact at_again (σ := (Nat × (List D_api_Field))) (V := Value × Nat × (List Value)) (lp := fun n s => m74_l1 a0 n s.1 s.2) (S := fun s e => (⟨[(1, .pointer (some (Addr.add ⟨b1892, 0, none⟩ 0))), (2, .pointer (some (Addr.add ⟨b1893, 0, none⟩ 0))), (3, .pointer (some (Addr.add ⟨b1894, 0, none⟩ 0))), (4, .int .i64 (s.1 : Int))], [⟨b1894, [.int .i64 a0.ID, e.1], 25⟩, ⟨b1893, [.int .i64 0, (.slice none 0 0)], 25⟩, ⟨b1892, [.int .i64 a0.ID, s1890], 25⟩], [⟨e.1, 69, 4, e.2.1, e.2.2⟩], [((Ty.int .i64).fact (s.1 : Int) [.int .i64 (s.1 : Int)]), (ty69.row s.2 e.2.2), (pureF (s.2.length * ty69.bytes ≤ 140737488355328)), ((Ty.int .i64).fact a0.ID [.int .i64 a0.ID]), ((Ty.slice ty69).fact a0.Fields [s1890])]⟩ : St)) (x1895 + 1, x1896 ++ [x1914]) (s1924, n1898 + 1, i1899 ++ [str x1914.Tag, .int .u8 (x1914.Ind_0.toNat : Int), .int .u8 (x1914.Ind_1.toNat : Int), s1916]) hr ⟨⟨rfl, ⟨rfl, ⟨rfl, ⟨rfl, trivial⟩⟩⟩⟩, ⟨[true, true, true], rfl⟩, ⟨[false, true], rfl⟩, ⟨[1, 2, 0, 13, 14], rfl⟩⟩
  replace hr := ineg h1908 hr
  refine at_false rfl (decide_eq_false (by omega)) ?_
  refine at_exit (at_then_exit (at_then_exit (at_in_exit ?_)))
  have hq := oinj hr
  clear hr
  subst hq
  exact at_leaf (v1897, n1898, i1899) ⟨⟨rfl, ⟨rfl, trivial⟩⟩, ⟨[true, true, false], rfl⟩, ⟨[true], rfl⟩, ⟨[1, 2, 3], rfl⟩⟩
 clear hl1904
 intro e
 obtain ⟨v1901, n1902, i1903⟩ := e
 change At _ _ (⟨[(2, .pointer (some (Addr.add ⟨b1893, 0, none⟩ 0))), (3, .pointer (some (Addr.add ⟨b1894, 0, none⟩ 0)))], [⟨b1894, [.int .i64 a0.ID, v1901], 25⟩, ⟨b1893, [.int .i64 0, (.slice none 0 0)], 25⟩], [⟨v1901, 69, 4, n1902, i1903⟩], [(ty69.row x1900 i1903), (pureF (x1900.length * ty69.bytes ≤ 140737488355328)), ((Ty.int .i64).fact a0.ID [.int .i64 a0.ID])]⟩ : St) _
 refine s_tsr (at_lt (lt_load_box 0 rfl ti25 rfl rfl rfl rfl rfl) rfl ?_)
 refine at_rowv 0 rfl (fun ho1928 => ?_)
 replace ho1928 := row_one (by obtain ⟨a, c, h⟩ := ho1928; exact ⟨a, _, c, h⟩)
 refine at_hv rfl (hv_store_box 1 (cs' := [.int .i64 a0.ID, v1901]) rfl rfl ti25 rfl rfl rfl rfl (allc rfl (allc ho1928 rfl)) (s_nt (at_ret ?_)))
 have hq := oinj hr
 clear hr
 subst hq
 refine at_pure 1 rfl (fun hb1929 => ?_)
 refine at_release 0 0 rfl rfl rfl hb1929 ?_
 refine at_derive [3, 0] (ty25.fact (⟨a0.ID, x1900⟩ : D_api_Record) [.int .i64 a0.ID, v1901]) rfl (fun F w h => mk25 (x := (⟨a0.ID, x1900⟩ : D_api_Record)) h) ?_
 exact at_return (.agg #[.int .i64 a0.ID, v1901]) [0] hS Tryz.results74 (.cons (.cell 1 rfl ti25 rfl rfl rfl rfl) .nil) rfl rfl ⟨v1901, rfl, rfl⟩
def m75_l1 (a0 : (List D_api_Field)) (a1 : D_api_Field) : Nat → Nat → Option Nat
  | 0, _ => none
  | k + 1, x1934 =>
    if x1934 < a0.length then
     (a0[x1934]?).bind fun x1941 =>
     if (Op.bytesLess a1.Tag x1941.Tag) = true then
      some x1934
     else
      m75_l1 a0 a1 k (x1934 + 1)
    else
     some x1934
def m75 (a0 : (List D_api_Field)) (a1 : D_api_Field) : Option (List D_api_Field) :=
  (m75_l1 a0 a1 (a0.length + 1) 0).bind fun x1935 =>
  if x1935 ≤ a0.length then
   if (a0.take x1935).length ≤ 2932031007402 then
    if ([] ++ (a0.take x1935)).length + 1 ≤ 2932031007402 then
     if ([] ++ (a0.take x1935) ++ [(⟨a1.Tag, a1.Ind_0, a1.Ind_1, a1.Subs⟩ : D_api_Field)]).length + (a0.drop x1935).length ≤ 2932031007402 then
      some ([] ++ (a0.take x1935) ++ [(⟨a1.Tag, a1.Ind_0, a1.Ind_1, a1.Subs⟩ : D_api_Field)] ++ (a0.drop x1935))
     else none
    else none
   else none
  else none
def post75 (r : (List D_api_Field)) (v : Value) (fs : List Fact) : Prop := ∃ s1973 : Value, v = s1973 ∧ fs = [((Ty.slice ty69).fact r [s1973])]
theorem en75 : Enters Tryz.prog 75 := ⟨_, Tryz.func75, by kernel_rfl, rfl⟩
theorem f75_spec {a0 : (List D_api_Field)} {a1 : D_api_Field} {w1931 : Value} {s1932 : Value} {r : (List D_api_Field)} (hr : m75 a0 a1 = some r) : Spec Tryz.prog 75 [w1931, .agg #[str a1.Tag, .int .u8 (a1.Ind_0.toNat : Int), .int .u8 (a1.Ind_1.toNat : Int), s1932]] [((Ty.slice ty69).fact a0 [w1931]), (ty69.fact a1 [str a1.Tag, .int .u8 (a1.Ind_0.toNat : Int), .int .u8 (a1.Ind_1.toNat : Int), s1932])] (post75 r) := by
 refine spec_start (N := 36) Tryz.func75 (by kernel_rfl) rfl rfl rfl ?_
 intro g hS
 unfold m75 at hr
 refine at_open (A := Unit) 1 rfl (fun _ => True) (fun _ => [(Ty.str.fact a1.Tag [str a1.Tag]), ((Ty.slice ty66).fact a1.Subs [s1932])]) (fun F w h => ⟨(), trivial, ex69 h⟩) (fun _ _ => ?_)
 refine s_sr (at_hv rfl ?_)
 refine hv_box (cs := [str a1.Tag, .int .u8 (a1.Ind_0.toNat : Int), .int .u8 (a1.Ind_1.toNat : Int), s1932]) rfl rfl rfl (fun b1933 => ?_)
 refine s_as rfl (s_ntsr (s_as rfl (s_nt (at_seq (at_int .i64 0 (by simp only [lo, hi]; omega) ?_)))))
 replace hr := obind hr
 obtain ⟨x1935, hl1936, hr⟩ := hr
 refine at_cut (V := Unit) (fun e => (⟨[(0, w1931), (3, .pointer (some (Addr.add ⟨b1933, 0, none⟩ 0))), (5, .int .i64 (x1935 : Int))], [⟨b1933, [str a1.Tag, .int .u8 (a1.Ind_0.toNat : Int), .int .u8 (a1.Ind_1.toNat : Int), s1932], 69⟩], [], [((Ty.int .i64).fact (x1935 : Int) [.int .i64 (x1935 : Int)]), ((Ty.slice ty69).fact a0 [w1931]), (Ty.str.fact a1.Tag [str a1.Tag]), ((Ty.slice ty66).fact a1.Subs [s1932])]⟩ : St)) ?_ ?_
 ·refine at_block ?_
  refine at_loopW (σ := Nat) (V := Unit) (r := x1935) (fun n s => m75_l1 a0 a1 n s) (fun s e => (⟨[(0, w1931), (3, .pointer (some (Addr.add ⟨b1933, 0, none⟩ 0))), (5, .int .i64 (s : Int))], [⟨b1933, [str a1.Tag, .int .u8 (a1.Ind_0.toNat : Int), .int .u8 (a1.Ind_1.toNat : Int), s1932], 69⟩], [], [((Ty.int .i64).fact (s : Int) [.int .i64 (s : Int)]), ((Ty.slice ty69).fact a0 [w1931]), (Ty.str.fact a1.Tag [str a1.Tag]), ((Ty.slice ty66).fact a1.Subs [s1932])]⟩ : St)) (fun _ => rfl) _ 0 () hl1936 ⟨⟨rfl, ⟨rfl, ⟨rfl, trivial⟩⟩⟩, ⟨[true], rfl⟩, ⟨[], rfl⟩, ⟨[0, 3, 1, 2], rfl⟩⟩ ?_
  clear hr hl1936
  intro n x1934 hr e
  skip
  skip
  change m75_l1 a0 a1 (n + 1) x1934 = some x1935 at hr
  change At _ _ (⟨[(0, w1931), (3, .pointer (some (Addr.add ⟨b1933, 0, none⟩ 0))), (5, .int .i64 (x1934 : Int))], [⟨b1933, [str a1.Tag, .int .u8 (a1.Ind_0.toNat : Int), .int .u8 (a1.Ind_1.toNat : Int), s1932], 69⟩], [], [((Ty.int .i64).fact (x1934 : Int) [.int .i64 (x1934 : Int)]), ((Ty.slice ty69).fact a0 [w1931]), (Ty.str.fact a1.Tag [str a1.Tag]), ((Ty.slice ty66).fact a1.Subs [s1932])]⟩ : St) _
  rw [m75_l1] at hr
  refine at_seq (at_seq ?_)
  refine at_inv 1 rfl (fun i1938 => ?_)
  have l1939 := slice_len i1938
  by_cases h1940 : x1934 < a0.length
  ·replace hr := ipos h1940 hr
   replace hr := obind hr
   obtain ⟨x1941, h1942, hr⟩ := hr
   have := (List.getElem?_eq_some_iff.1 h1942).1
   refine at_elem 1 rfl (nat_at' h1942) (fun p1944 ec pa1945 => ?_)
   refine at_open (A := Value) 0 rfl _ _ (fun F w h => op69 h) ?_
   rintro s1943 rfl
   refine aa_start 14 (by kernel_rfl) ?_
   refine aa_p 0 rfl (lt_move rfl) (aa_p 1 rfl (lt_move rfl) (aa_l 2 rfl (lt_flen 5 rfl rfl und23) (aa_p 3 rfl (lt_lss rfl rfl) (aa_p 4 rfl (lt_move rfl) ?_))))
   refine aa_pg 5 rfl ⟨11, rfl, .inl ⟨_, rfl, gdq (v := true) (decide_eq_true (by omega)) rfl⟩⟩ (lt_move rfl) ?_
   refine aa_pg 6 rfl ⟨11, rfl, .inl ⟨_, rfl, gdq (v := true) (decide_eq_true (by omega)) rfl⟩⟩ (lt_move rfl) ?_
   refine aa_pg 7 rfl ⟨11, rfl, .inl ⟨_, rfl, gdq (v := true) (decide_eq_true (by omega)) rfl⟩⟩ (lt_idx rfl rfl pa1945 und23 ti69) ?_
   refine aa_pg 8 rfl ⟨11, rfl, .inl ⟨_, rfl, gdq (v := true) (decide_eq_true (by omega)) rfl⟩⟩ (lt_fieldAddr 0 rfl fld69_0 rfl) ?_
   refine aa_lg 9 rfl ⟨11, rfl, .inl ⟨_, rfl, gdq (v := true) (decide_eq_true (by omega)) rfl⟩⟩ (lt_load_peek 3 rfl ti9 rfl rfl rfl rfl rfl) ?_
   refine aa_pg 10 rfl ⟨11, rfl, .inl ⟨_, rfl, gdq (v := true) (decide_eq_true (by omega)) rfl⟩⟩ (lt_fieldAddr 0 rfl fld69_0 rfl) ?_
   refine aa_lg 11 rfl ⟨11, rfl, .inl ⟨_, rfl, gdq (v := true) (decide_eq_true (by omega)) rfl⟩⟩ (lt_load_box 0 rfl ti9 rfl rfl rfl rfl rfl) ?_
   refine aa_pg 12 rfl ⟨11, rfl, .inl ⟨_, rfl, gdq (v := true) (decide_eq_true (by omega)) rfl⟩⟩ (lt_sleq rfl rfl) ?_
   refine aa_p 13 rfl (lt_pick true rfl (decide_eq_true (by omega)) rfl) ?_
   refine aa_done (by kernel_rfl) (ts_in 0 0 rfl rfl) ?_
   refine at_then ?_
   by_cases h1946 : (Op.bytesLess a1.Tag x1941.Tag) = true
   ·replace hr := ipos h1946 hr
    refine at_false rfl (nt h1946) (at_exit (at_then_exit (at_then_exit (at_in_exit ?_))))
    have hq := oinj hr
    clear hr
    subst hq
    exact at_leaf () ⟨⟨rfl, ⟨rfl, ⟨rfl, trivial⟩⟩⟩, ⟨[true], rfl⟩, ⟨[], rfl⟩, ⟨[4, 5, 6, 7], rfl⟩⟩
   replace hr := ineg h1946 hr
   refine at_true rfl (nf (bf h1946)) (at_skip (at_then (at_block (at_region (s_mv rfl (at_lt (lt_add rfl rfl (by simp only [lo, hi]; omega)) rfl (s_as rfl (at_nil (at_in ?_)))))))))
   refine at_int .i64 (x1934 + 1 : Int) (by simp only [lo, hi]; omega) ?_
   exact at_again (σ := Nat) (V := Unit) (lp := fun n s => m75_l1 a0 a1 n s) (S := fun s e => (⟨[(0, w1931), (3, .pointer (some (Addr.add ⟨b1933, 0, none⟩ 0))), (5, .int .i64 (s : Int))], [⟨b1933, [str a1.Tag, .int .u8 (a1.Ind_0.toNat : Int), .int .u8 (a1.Ind_1.toNat : Int), s1932], 69⟩], [], [((Ty.int .i64).fact (s : Int) [.int .i64 (s : Int)]), ((Ty.slice ty69).fact a0 [w1931]), (Ty.str.fact a1.Tag [str a1.Tag]), ((Ty.slice ty66).fact a1.Subs [s1932])]⟩ : St)) (x1934 + 1) () hr ⟨⟨rfl, ⟨rfl, ⟨rfl, trivial⟩⟩⟩, ⟨[true], rfl⟩, ⟨[], rfl⟩, ⟨[0, 6, 7, 8], rfl⟩⟩
  replace hr := ineg h1940 hr
  refine aa_start 14 (by kernel_rfl) ?_
  refine aa_p 0 rfl (lt_move rfl) (aa_p 1 rfl (lt_move rfl) (aa_l 2 rfl (lt_flen 1 rfl rfl und23) (aa_p 3 rfl (lt_lss rfl rfl) (aa_p 4 rfl (lt_move rfl) ?_))))
  refine aa_o 5 rfl ⟨11, rfl, .inl ⟨_, rfl, gdq (v := false) (decide_eq_false (by omega)) rfl⟩⟩ ?_
  refine aa_o 6 rfl ⟨11, rfl, .inl ⟨_, rfl, gdq (v := false) (decide_eq_false (by omega)) rfl⟩⟩ ?_
  refine aa_o 7 rfl ⟨11, rfl, .inl ⟨_, rfl, gdq (v := false) (decide_eq_false (by omega)) rfl⟩⟩ ?_
  refine aa_o 8 rfl ⟨11, rfl, .inl ⟨_, rfl, gdq (v := false) (decide_eq_false (by omega)) rfl⟩⟩ ?_
  refine aa_o 9 rfl ⟨11, rfl, .inl ⟨_, rfl, gdq (v := false) (decide_eq_false (by omega)) rfl⟩⟩ ?_
  refine aa_o 10 rfl ⟨11, rfl, .inl ⟨_, rfl, gdq (v := false) (decide_eq_false (by omega)) rfl⟩⟩ ?_
  refine aa_o 11 rfl ⟨11, rfl, .inl ⟨_, rfl, gdq (v := false) (decide_eq_false (by omega)) rfl⟩⟩ ?_
  refine aa_o 12 rfl ⟨11, rfl, .inl ⟨_, rfl, gdq (v := false) (decide_eq_false (by omega)) rfl⟩⟩ ?_
  refine aa_p 13 rfl (lt_pick false rfl (decide_eq_false (by omega)) rfl) ?_
  refine aa_done (by kernel_rfl) (ts_in 0 0 rfl rfl) ?_
  refine at_then (at_false rfl rfl (at_exit (at_then_exit (at_then_exit (at_in_exit ?_)))))
  have hq := oinj hr
  clear hr
  subst hq
  exact at_leaf () ⟨⟨rfl, ⟨rfl, ⟨rfl, trivial⟩⟩⟩, ⟨[true], rfl⟩, ⟨[], rfl⟩, ⟨[0, 1, 2, 3], rfl⟩⟩
 clear hl1936
 intro e
 change At _ _ (⟨[(0, w1931), (3, .pointer (some (Addr.add ⟨b1933, 0, none⟩ 0))), (5, .int .i64 (x1935 : Int))], [⟨b1933, [str a1.Tag, .int .u8 (a1.Ind_0.toNat : Int), .int .u8 (a1.Ind_1.toNat : Int), s1932], 69⟩], [], [((Ty.int .i64).fact (x1935 : Int) [.int .i64 (x1935 : Int)]), ((Ty.slice ty69).fact a0 [w1931]), (Ty.str.fact a1.Tag [str a1.Tag]), ((Ty.slice ty66).fact a1.Subs [s1932])]⟩ : St) _
 refine s_tsr (at_hv rfl ?_)
 refine hv_bslice (cs := []) rfl und23 ti69 rfl rfl rfl rfl rfl (fun s1947 => ?_)
 refine s_mv rfl (s_mv rfl ?_)
 replace hr := imust hr
 obtain ⟨h1948, hr⟩ := hr
 refine at_cutf_h 1 x1935 rfl (by omega) (fun s1949 hc1950 => ?_)
 refine at_lt (lt_cut_h x1935 rfl rfl (by omega) und23 ti69 hc1950) rfl ?_
 replace hr := imust hr
 obtain ⟨h1951, hr⟩ := hr
 refine at_rownil ty69 ?_
 refine at_rown 0 0 rfl rfl rfl (fun hn1954 => ?_)
 refine at_hv rfl ?_
 refine hv_append_f 0 1 rfl rfl rfl rfl und23 ti69 rfl rfl (by omega) (by omega) rfl (fun s1952 u1953 => ?_)
 refine at_rowcat 1 0 rfl rfl (s_as rfl (s_nt (at_seq ?_)))
 replace hr := imust hr
 obtain ⟨h1956, hr⟩ := hr
 refine at_cutf_l 5 x1935 rfl (by omega) (fun s1960 hc1961 => ?_)
 replace hr := imust hr
 obtain ⟨h1962, hr⟩ := hr
 refine aa_start 9 (by kernel_rfl) ?_
 refine aa_p 0 rfl (lt_move rfl) (aa_l 1 rfl (lt_load_box 0 rfl ti69 rfl rfl rfl rfl rfl) (aa_p 4 rfl (lt_move rfl) (aa_p 5 rfl (lt_move rfl) ?_)))
 refine aa_p 6 rfl (lt_cut_l x1935 rfl rfl (by omega) und23 ti69 (by omega) hc1961) ?_
 refine aa_one 2 (aa_op rfl rfl ?_)
 refine hv_bslice (cs := [str a1.Tag, .int .u8 (a1.Ind_0.toNat : Int), .int .u8 (a1.Ind_1.toNat : Int), s1932]) rfl und23 ti69 rfl rfl rfl rfl rfl (fun s1966 => ?_)
 refine aa_one 3 ?_
 refine at_derive [7, 8] (ty69.fact (⟨a1.Tag, a1.Ind_0, a1.Ind_1, a1.Subs⟩ : D_api_Field) [str a1.Tag, .int .u8 (a1.Ind_0.toNat : Int), .int .u8 (a1.Ind_1.toNat : Int), s1932]) rfl (fun F w h => mk69 (x := (⟨a1.Tag, a1.Ind_0, a1.Ind_1, a1.Subs⟩ : D_api_Field)) h) ?_
 refine at_rown 1 2 rfl rfl rfl (fun hn1968 => ?_)
 refine at_one 9 rfl (fun ho1969 => ?_)
 refine aa_op rfl rfl ?_
 refine hv_append 1 0 rfl rfl rfl rfl und23 ti69 rfl rfl (allc rfl (allc rfl (allc rfl (allc ho1969 rfl)))) (by omega) (by omega) rfl (fun s1967 => ?_)
 refine at_rowsnoc 2 0 rfl rfl ?_
 refine aa_all (rs := [7]) (by kernel_rfl) rfl (ts_in 0 2 rfl rfl) (List.forall_mem_singleton.2 ?_)
 refine at_rown 1 0 rfl rfl rfl (fun hn1972 => ?_)
 refine aa_op rfl rfl ?_
 refine hv_append_f 1 2 rfl rfl rfl rfl und23 ti69 rfl rfl (by omega) (by omega) rfl (fun s1970 u1971 => ?_)
 refine at_rowcat 1 0 rfl rfl ?_
 refine aa_pure 8 rfl (by kernel_rfl) rfl rfl (lt_assign rfl) rfl (ts_in 0 4 rfl rfl) ?_
 refine aa_done (by kernel_rfl) (ts_in 0 4 rfl rfl) ?_
 refine at_then (at_ret ?_)
 have hq := oinj hr
 clear hr
 subst hq
 refine at_release 1 0 rfl rfl rfl (by simp only [List.length_append, List.length_cons, List.length_nil, ty69_bytes] <;> omega) ?_
 exact at_return (s1970) [0] hS Tryz.results75 (.cons (.tmp rfl) .nil) rfl rfl ⟨s1970, rfl, rfl⟩
end Go.WK.S
