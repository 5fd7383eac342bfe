/- What functions of this program compute: a model of each, and the proof that it is kept. -/
import Derived.Test.YtidmlhihfanglaaGreatDoorComposeF03
import Derived.KernelRfl
set_option linter.unusedSimpArgs false
set_option linter.unusedVariables false
namespace Go.WK.S
open Go Go.Proofs Go.WK Go.RowKit
set_option linter.unusedVariables false
set_option maxRecDepth 100000
set_option maxHeartbeats 4000000
/-! 84 bookplate/bookplateref12.SameField -/
def m84_l1 (a0 : D_api_Field) (a1 : D_api_Field) : Nat → Nat → Option (Fl Bool Unit)
  | 0, _ => none
  | k + 1, x1593 =>
    if x1593 < a0.Subs.length then
     (a0.Subs[x1593]?).bind fun x1598 =>
     (a1.Subs[x1593]?).bind fun x1602 =>
     if (decide (((x1598.Code.toNat : Int) : Int) = (x1602.Code.toNat : Int)) && decide (x1598.Value = x1602.Value)) = true then
      m84_l1 a0 a1 k (x1593 + 1)
     else
      some (Fl.ret false)
    else
     some (Fl.go ())
def m84 (a0 : D_api_Field) (a1 : D_api_Field) : Option Bool :=
  if a0.Tag = a1.Tag then
   if (decide (((a0.Ind_0.toNat : Int) : Int) = (a1.Ind_0.toNat : Int)) && decide (((a0.Ind_1.toNat : Int) : Int) = (a1.Ind_1.toNat : Int))) = true then
    if a0.Subs.length = a1.Subs.length then
     (m84_l1 a0 a1 (a0.Subs.length + 1) 0).bind fun r => match r with
     | .ret x => some x
     | .go _ =>
      some true
    else
     some false
   else
    some false
  else
   some false
def post84 (r : Bool) (v : Value) (fs : List Fact) : Prop := v = .bool r ∧ fs = []
theorem en84 : Enters Tryz.prog 84 := ⟨_, Tryz.func84, by kernel_rfl, rfl⟩
theorem f84_spec {a0 : D_api_Field} {a1 : D_api_Field} {s1582 : Value} {s1583 : Value} {r : Bool} (hr : m84 a0 a1 = some r) : Spec Tryz.prog 84 [.agg #[str a0.Tag, .int .u8 (a0.Ind_0.toNat : Int), .int .u8 (a0.Ind_1.toNat : Int), s1582], .agg #[str a1.Tag, .int .u8 (a1.Ind_0.toNat : Int), .int .u8 (a1.Ind_1.toNat : Int), s1583]] [(ty69.fact a0 [str a0.Tag, .int .u8 (a0.Ind_0.toNat : Int), .int .u8 (a0.Ind_1.toNat : Int), s1582]), (ty69.fact a1 [str a1.Tag, .int .u8 (a1.Ind_0.toNat : Int), .int .u8 (a1.Ind_1.toNat : Int), s1583])] (post84 r) := by
 refine spec_start (N := 45) Tryz.func84 (by kernel_rfl) rfl rfl rfl ?_
 intro g hS
 unfold m84 at hr
 refine at_open (A := Unit) 0 rfl (fun _ => True) (fun _ => [(Ty.str.fact a0.Tag [str a0.Tag]), ((Ty.slice ty66).fact a0.Subs [s1582])]) (fun F w h => ⟨(), trivial, ex69 h⟩) (fun _ _ => ?_)
 refine at_open (A := Unit) 3 rfl (fun _ => True) (fun _ => [(Ty.str.fact a1.Tag [str a1.Tag]), ((Ty.slice ty66).fact a1.Subs [s1583])]) (fun F w h => ⟨(), trivial, ex69 h⟩) (fun _ _ => ?_)
 refine s_sr ?_
 refine at_hv rfl ?_
 refine hv_box (cs := [str a0.Tag, .int .u8 (a0.Ind_0.toNat : Int), .int .u8 (a0.Ind_1.toNat : Int), s1582]) rfl rfl rfl (fun b1584 => ?_)
 refine at_hv rfl ?_
 refine hv_box (cs := [str a1.Tag, .int .u8 (a1.Ind_0.toNat : Int), .int .u8 (a1.Ind_1.toNat : Int), s1583]) rfl rfl rfl (fun b1585 => ?_)
 refine s_as rfl ?_
 refine s_nt ?_
 refine at_seq ?_
 refine s_sr ?_
 refine at_lt (lt_fieldAddr 0 rfl fld69_0 rfl) rfl ?_
 refine at_lt (lt_load_box 1 rfl ti9 rfl rfl rfl rfl rfl) rfl ?_
 refine at_lt (lt_fieldAddr 0 rfl fld69_0 rfl) rfl ?_
 refine at_lt (lt_load_box 0 rfl ti9 rfl rfl rfl rfl rfl) rfl ?_
 refine at_lt (lt_sneq rfl rfl) rfl ?_
 refine s_mv rfl ?_
 by_cases h1586 : a0.Tag = a1.Tag
 ·replace hr := ipos h1586 hr
  refine at_on rfl rfl (nt (decide_eq_true h1586)) ?_
  refine at_lt (lt_fieldAddr 1 rfl fld69_1 rfl) rfl ?_
  refine at_on rfl rfl (nt (decide_eq_true h1586)) ?_
  refine at_lt (lt_load_box 1 rfl ti64 rfl rfl rfl rfl rfl) rfl ?_
  refine at_on rfl rfl (nt (decide_eq_true h1586)) ?_
  refine at_lt (lt_fieldAddr 1 rfl fld69_1 rfl) rfl ?_
  refine at_on rfl rfl (nt (decide_eq_true h1586)) ?_
  refine at_lt (lt_load_box 0 rfl ti64 rfl rfl rfl rfl rfl) rfl ?_
  refine at_on rfl rfl (nt (decide_eq_true h1586)) ?_
  refine at_lt (lt_stne rfl rfl eg64 eqt64) rfl ?_
  refine at_lt (lt_pick false rfl (nt (decide_eq_true h1586)) rfl) rfl ?_
  refine s_mv rfl ?_
  by_cases h1587 : (decide (((a0.Ind_0.toNat : Int) : Int) = (a1.Ind_0.toNat : Int)) && decide (((a0.Ind_1.toNat : Int) : Int) = (a1.Ind_1.toNat : Int))) = true
  ·replace hr := ipos h1587 hr
   refine at_on rfl rfl (nt h1587) ?_
   refine at_lt (lt_fieldAddr 3 rfl fld69_2 rfl) rfl ?_
   refine at_on rfl rfl (nt h1587) ?_
   refine at_lt (lt_load_box 1 rfl ti67 rfl rfl rfl rfl rfl) rfl ?_
   refine at_inv 3 rfl (fun i1588 => ?_)
   have l1589 := slice_len i1588
   refine at_on rfl rfl (nt h1587) ?_
   refine at_lt (lt_flen 3 rfl rfl und67) rfl ?_
   refine at_on rfl rfl (nt h1587) ?_
   refine at_lt (lt_fieldAddr 3 rfl fld69_2 rfl) rfl ?_
   refine at_on rfl rfl (nt h1587) ?_
   refine at_lt (lt_load_box 0 rfl ti67 rfl rfl rfl rfl rfl) rfl ?_
   refine at_inv 1 rfl (fun i1590 => ?_)
   have l1591 := slice_len i1590
   refine at_on rfl rfl (nt h1587) ?_
   refine at_lt (lt_flen 1 rfl rfl und67) rfl ?_
   refine at_on rfl rfl (nt h1587) ?_
   refine at_lt (lt_neq rfl rfl) rfl ?_
   refine at_lt (lt_pick false rfl (nt h1587) rfl) rfl ?_
   refine s_nt ?_
   by_cases h1592 : a0.Subs.length = a1.Subs.length
   ·replace hr := ipos h1592 hr
    refine at_false rfl (nt (decide_eq_true (by omega))) ?_
    refine at_skip ?_
    refine at_then ?_
    refine at_seq ?_
    refine s_sr ?_
    refine s_as rfl ?_
    refine s_nt ?_
    refine at_int .i64 0 (by simp only [lo, hi]; omega) ?_
    replace hr := obind hr
    obtain ⟨r1594, hl1595, hk1596⟩ := hr
    refine at_cutP (V := (Unit) × (Unit)) (fun v => r1594 = Fl.go v.1) (fun v => (⟨[], [], [], []⟩ : St)) ?_ ?_
    ·refine at_block ?_
     refine at_loopW (σ := Nat) (V := Unit) (r := r1594) (fun n s => m84_l1 a0 a1 n s) (fun s e => (⟨[(2, .pointer (some (Addr.add ⟨b1584, 0, none⟩ 0))), (3, .pointer (some (Addr.add ⟨b1585, 0, none⟩ 0))), (5, .int .i64 (s : Int))], [⟨b1585, [str a1.Tag, .int .u8 (a1.Ind_0.toNat : Int), .int .u8 (a1.Ind_1.toNat : Int), s1583], 69⟩, ⟨b1584, [str a0.Tag, .int .u8 (a0.Ind_0.toNat : Int), .int .u8 (a0.Ind_1.toNat : Int), s1582], 69⟩], [], [((Ty.int .i64).fact (s : Int) [.int .i64 (s : Int)]), (Ty.str.fact a0.Tag [str a0.Tag]), ((Ty.slice ty66).fact a0.Subs [s1582]), (Ty.str.fact a1.Tag [str a1.Tag]), ((Ty.slice ty66).fact a1.Subs [s1583])]⟩ : St)) (fun _ => rfl) _ 0 () hl1595 ⟨⟨rfl, ⟨rfl, ⟨rfl, trivial⟩⟩⟩, ⟨[true, true], rfl⟩, ⟨[], rfl⟩, ⟨[0, 3, 4, 1, 2], rfl⟩⟩ ?_
     clear hl1595
     intro n x1593 hr e
     skip
     skip
     change m84_l1 a0 a1 (n + 1) x1593 = some r1594 at hr
     change At _ _ (⟨[(2, .pointer (some (Addr.add ⟨b1584, 0, none⟩ 0))), (3, .pointer (some (Addr.add ⟨b1585, 0, none⟩ 0))), (5, .int .i64 (x1593 : Int))], [⟨b1585, [str a1.Tag, .int .u8 (a1.Ind_0.toNat : Int), .int .u8 (a1.Ind_1.toNat : Int), s1583], 69⟩, ⟨b1584, [str a0.Tag, .int .u8 (a0.Ind_0.toNat : Int), .int .u8 (a0.Ind_1.toNat : Int), s1582], 69⟩], [], [((Ty.int .i64).fact (x1593 : Int) [.int .i64 (x1593 : Int)]), (Ty.str.fact a0.Tag [str a0.Tag]), ((Ty.slice ty66).fact a0.Subs [s1582]), (Ty.str.fact a1.Tag [str a1.Tag]), ((Ty.slice ty66).fact a1.Subs [s1583])]⟩ : St) _
     rw [m84_l1] at hr
     refine at_seq ?_
     refine s_sr ?_
     refine s_mv rfl ?_
     refine at_lt (lt_fieldAddr 3 rfl fld69_2 rfl) rfl ?_
     refine at_lt (lt_load_box 1 rfl ti67 rfl rfl rfl rfl rfl) rfl ?_
     refine at_lt (lt_flen 2 rfl rfl und67) rfl ?_
     refine at_lt (lt_lss rfl rfl) rfl ?_
     refine s_nt ?_
     by_cases h1597 : x1593 < a0.Subs.length
     ·replace hr := ipos h1597 hr
      refine at_true rfl (decide_eq_true (by omega)) ?_
      refine at_skip ?_
      refine at_then ?_
      refine at_seq ?_
      refine at_block ?_
      refine at_seq ?_
      replace hr := obind hr
      obtain ⟨x1598, h1599, hr⟩ := hr
      have := (List.getElem?_eq_some_iff.1 h1599).1
      refine at_elem 2 rfl (nat_at' h1599) (fun p1600 ec pa1601 => ?_)
      refine at_open (A := Unit) 0 rfl _ _ (fun F w h => op66 h) ?_
      rintro _ rfl
      replace hr := obind hr
      obtain ⟨x1602, h1603, hr⟩ := hr
      have := (List.getElem?_eq_some_iff.1 h1603).1
      refine at_elem 7 rfl (nat_at' h1603) (fun p1604 ec pa1605 => ?_)
      refine at_open (A := Unit) 0 rfl _ _ (fun F w h => op66 h) ?_
      rintro _ rfl
      refine aa_start 11 (by kernel_rfl) ?_
      refine aa_p 0 rfl (lt_fieldAddr 3 rfl fld69_2 rfl) ?_
      refine aa_l 1 rfl (lt_load_box 1 rfl ti67 rfl rfl rfl rfl rfl) ?_
      refine aa_p 2 rfl (lt_move rfl) ?_
      refine aa_p 3 rfl (lt_idx rfl rfl pa1601 und67 ti66) ?_
      refine aa_l 4 rfl (lt_load_peek 5 rfl ti66 rfl rfl rfl rfl rfl) ?_
      refine aa_p 5 rfl (lt_fieldAddr 3 rfl fld69_2 rfl) ?_
      refine aa_l 6 rfl (lt_load_box 0 rfl ti67 rfl rfl rfl rfl rfl) ?_
      refine aa_p 7 rfl (lt_move rfl) ?_
      refine aa_p 8 rfl (lt_idx rfl rfl pa1605 und67 ti66) ?_
      refine aa_l 9 rfl (lt_load_peek 2 rfl ti66 rfl rfl rfl rfl rfl) ?_
      refine aa_p 10 rfl (lt_stne rfl rfl eg66 eqt66) ?_
      refine aa_done (by kernel_rfl) (ts_in 0 0 rfl rfl) ?_
      refine at_then ?_
      by_cases h1606 : (decide (((x1598.Code.toNat : Int) : Int) = (x1602.Code.toNat : Int)) && decide (x1598.Value = x1602.Value)) = true
      ·replace hr := ipos h1606 hr
       refine at_false rfl (nt h1606) ?_
       refine at_skip ?_
       refine at_in ?_
       refine s_tr ?_
       refine s_mv rfl ?_
       refine at_lt (lt_add rfl rfl (by simp only [lo, hi]; omega)) rfl ?_
       refine s_as rfl ?_
       refine at_nil ?_
       refine at_int .i64 (x1593 + 1 : Int) (by simp only [lo, hi]; omega) ?_
       exact at_again (σ := Nat) (V := Unit) (lp := fun n s => m84_l1 a0 a1 n s) (S := fun s e => (⟨[(2, .pointer (some (Addr.add ⟨b1584, 0, none⟩ 0))), (3, .pointer (some (Addr.add ⟨b1585, 0, none⟩ 0))), (5, .int .i64 (s : Int))], [⟨b1585, [str a1.Tag, .int .u8 (a1.Ind_0.toNat : Int), .int .u8 (a1.Ind_1.toNat : Int), s1583], 69⟩, ⟨b1584, [str a0.Tag, .int .u8 (a0.Ind_0.toNat : Int), .int .u8 (a0.Ind_1.toNat : Int), s1582], 69⟩], [], [((Ty.int .i64).fact (s : Int) [.int .i64 (s : Int)]), (Ty.str.fact a0.Tag [str a0.Tag]), ((Ty.slice ty66).fact a0.Subs [s1582]), (Ty.str.fact a1.Tag [str a1.Tag]), ((Ty.slice ty66).fact a1.Subs [s1583])]⟩ : St)) (x1593 + 1) () hr ⟨⟨rfl, ⟨rfl, ⟨rfl, trivial⟩⟩⟩, ⟨[true, true], rfl⟩, ⟨[], rfl⟩, ⟨[0, 8, 9, 10, 11], rfl⟩⟩
      replace hr := ineg h1606 hr
      refine at_true rfl (nf (bf h1606)) ?_
      refine s_sr ?_
      refine s_as rfl ?_
      refine s_nt ?_
      refine at_ret ?_
      have hq := oinj hr
      clear hr
      subst hq
      have hq := oinj hk1596
      clear hk1596
      subst hq
      refine at_in_ret ?_
      refine at_then_ret ?_
      refine at_then_ret ?_
      refine at_in_ret ?_
      refine at_then_ret ?_
      refine at_then_ret ?_
      exact at_return (.bool false) [] hS Tryz.results84 (.cons (.tmp rfl) .nil) rfl rfl ⟨rfl, rfl⟩
     replace hr := ineg h1597 hr
     refine at_false rfl (decide_eq_false (by omega)) ?_
     refine at_exit ?_
     refine at_then_exit ?_
     refine at_then_exit ?_
     refine at_in_exit ?_
     have hq := oinj hr
     clear hr
     subst hq
     exact at_leafP ((), ()) rfl ⟨trivial, ⟨[false, false], rfl⟩, ⟨[], rfl⟩, ⟨[], rfl⟩⟩
    rintro ⟨_, _⟩ hp
    replace hr := hk1596
    subst hp
    clear hl1595
    change At _ _ (⟨[], [], [], []⟩ : St) _
    refine s_tsr ?_
    refine s_as rfl ?_
    refine s_nt ?_
    refine at_ret ?_
    have hq := oinj hr
    clear hr
    subst hq
    exact at_return (.bool true) [] hS Tryz.results84 (.cons (.tmp rfl) .nil) rfl rfl ⟨rfl, rfl⟩
   replace hr := ineg h1592 hr
   refine at_true rfl (nf (decide_eq_false (by omega))) ?_
   refine s_sr ?_
   refine s_as rfl ?_
   refine s_nt ?_
   refine at_ret ?_
   have hq := oinj hr
   clear hr
   subst hq
   refine at_then_ret ?_
   exact at_return (.bool false) [] hS Tryz.results84 (.cons (.tmp rfl) .nil) rfl rfl ⟨rfl, rfl⟩
  replace hr := ineg h1587 hr
  refine at_off rfl rfl (nf (bf h1587)) rfl ?_
  refine at_off rfl rfl (nf (bf h1587)) rfl ?_
  refine at_off rfl rfl (nf (bf h1587)) rfl ?_
  refine at_off rfl rfl (nf (bf h1587)) rfl ?_
  refine at_off rfl rfl (nf (bf h1587)) rfl ?_
  refine at_off rfl rfl (nf (bf h1587)) rfl ?_
  refine at_off rfl rfl (nf (bf h1587)) rfl ?_
  refine at_lt (lt_pick true rfl (nf (bf h1587)) rfl) rfl ?_
  refine s_nt ?_
  refine at_true rfl rfl ?_
  refine s_sr ?_
  refine s_as rfl ?_
  refine s_nt ?_
  refine at_ret ?_
  have hq := oinj hr
  clear hr
  subst hq
  refine at_then_ret ?_
  exact at_return (.bool false) [] hS Tryz.results84 (.cons (.tmp rfl) .nil) rfl rfl ⟨rfl, rfl⟩
 replace hr := ineg h1586 hr
 refine at_off rfl rfl (nf (decide_eq_false h1586)) rfl ?_
 refine at_off rfl rfl (nf (decide_eq_false h1586)) rfl ?_
 refine at_off rfl rfl (nf (decide_eq_false h1586)) rfl ?_
 refine at_off rfl rfl (nf (decide_eq_false h1586)) rfl ?_
 refine at_off rfl rfl (nf (decide_eq_false h1586)) rfl ?_
 refine at_lt (lt_pick true rfl (nf (decide_eq_false h1586)) rfl) rfl ?_
 refine s_mv rfl ?_
 refine at_off rfl rfl rfl rfl ?_
 refine at_off rfl rfl rfl rfl ?_
 refine at_off rfl rfl rfl rfl ?_
 refine at_off rfl rfl rfl rfl ?_
 refine at_off rfl rfl rfl rfl ?_
 refine at_off rfl rfl rfl rfl ?_
 refine at_off rfl rfl rfl rfl ?_
 refine at_lt (lt_pick true rfl rfl rfl) rfl ?_
 refine s_nt ?_
 refine at_true rfl rfl ?_
 refine s_sr ?_
 refine s_as rfl ?_
 refine s_nt ?_
 refine at_ret ?_
 have hq := oinj hr
 clear hr
 subst hq
 refine at_then_ret ?_
 exact at_return (.bool false) [] hS Tryz.results84 (.cons (.tmp rfl) .nil) rfl rfl ⟨rfl, rfl⟩
/-! 48 bookplate/bookplateref12.SameFields -/
def m48_l1 (a0 : (List D_api_Field)) (a1 : (List D_api_Field)) : Nat → Nat → Option (Fl Bool Unit)
  | 0, _ => none
  | k + 1, x1614 =>
    if x1614 < a0.length then
     (a0[x1614]?).bind fun x1619 =>
     (a1[x1614]?).bind fun x1624 =>
     (m84 x1619 x1624).bind fun x1629 =>
     if x1629 = true then
      m48_l1 a0 a1 k (x1614 + 1)
     else
      some (Fl.ret false)
    else
     some (Fl.go ())
def m48 (a0 : (List D_api_Field)) (a1 : (List D_api_Field)) : Option Bool :=
  if a0.length = a1.length then
   (m48_l1 a0 a1 (a0.length + 1) 0).bind fun r => match r with
   | .ret x => some x
   | .go _ =>
    some true
  else
   some false
def post48 (r : Bool) (v : Value) (fs : List Fact) : Prop := v = .bool r ∧ fs = []
theorem en48 : Enters Tryz.prog 48 := ⟨_, Tryz.func48, by kernel_rfl, rfl⟩
theorem f48_spec {a0 : (List D_api_Field)} {a1 : (List D_api_Field)} {w1607 : Value} {w1608 : Value} {r : Bool} (hr : m48 a0 a1 = some r) : Spec Tryz.prog 48 [w1607, w1608] [((Ty.slice ty69).fact a0 [w1607]), ((Ty.slice ty69).fact a1 [w1608])] (post48 r) := by
 refine spec_start (N := 27) Tryz.func48 (by kernel_rfl) rfl rfl rfl ?_
 intro g hS
 unfold m48 at hr
 refine s_sr ?_
 refine s_as rfl ?_
 refine s_nt ?_
 refine at_seq ?_
 refine s_sr ?_
 refine s_mv rfl ?_
 refine at_inv 0 rfl (fun i1609 => ?_)
 have l1610 := slice_len i1609
 refine at_lt (lt_flen 0 rfl rfl und23) rfl ?_
 refine s_mv rfl ?_
 refine at_inv 1 rfl (fun i1611 => ?_)
 have l1612 := slice_len i1611
 refine at_lt (lt_flen 1 rfl rfl und23) rfl ?_
 refine at_lt (lt_neq rfl rfl) rfl ?_
 refine s_nt ?_
 by_cases h1613 : a0.length = a1.length
 ·replace hr := ipos h1613 hr
  refine at_false rfl (nt (decide_eq_true (by omega))) ?_
  refine at_skip ?_
  refine at_then ?_
  refine at_seq ?_
  refine s_sr ?_
  refine s_as rfl ?_
  refine s_nt ?_
  refine at_int .i64 0 (by simp only [lo, hi]; omega) ?_
  replace hr := obind hr
  obtain ⟨r1615, hl1616, hk1617⟩ := hr
  refine at_cutP (V := (Unit) × (Unit)) (fun v => r1615 = Fl.go v.1) (fun v => (⟨[], [], [], []⟩ : St)) ?_ ?_
  ·refine at_block ?_
   refine at_loopW (σ := Nat) (V := Unit) (r := r1615) (fun n s => m48_l1 a0 a1 n s) (fun s e => (⟨[(0, w1607), (1, w1608), (5, .int .i64 (s : Int))], [], [], [((Ty.int .i64).fact (s : Int) [.int .i64 (s : Int)]), ((Ty.slice ty69).fact a0 [w1607]), ((Ty.slice ty69).fact a1 [w1608])]⟩ : St)) (fun _ => rfl) _ 0 () hl1616 ⟨⟨rfl, ⟨rfl, ⟨rfl, trivial⟩⟩⟩, ⟨[], rfl⟩, ⟨[], rfl⟩, ⟨[0, 1, 2], rfl⟩⟩ ?_
   clear hl1616
   intro n x1614 hr e
   skip
   skip
   change m48_l1 a0 a1 (n + 1) x1614 = some r1615 at hr
   change At _ _ (⟨[(0, w1607), (1, w1608), (5, .int .i64 (x1614 : Int))], [], [], [((Ty.int .i64).fact (x1614 : Int) [.int .i64 (x1614 : Int)]), ((Ty.slice ty69).fact a0 [w1607]), ((Ty.slice ty69).fact a1 [w1608])]⟩ : St) _
   rw [m48_l1] at hr
   refine at_seq ?_
   refine s_sr ?_
   refine s_mv rfl ?_
   refine s_mv rfl ?_
   refine at_lt (lt_flen 1 rfl rfl und23) rfl ?_
   refine at_lt (lt_lss rfl rfl) rfl ?_
   refine s_nt ?_
   by_cases h1618 : x1614 < a0.length
   ·replace hr := ipos h1618 hr
    refine at_true rfl (decide_eq_true (by omega)) ?_
    refine at_skip ?_
    refine at_then ?_
    refine at_seq ?_
    refine at_block ?_
    refine at_seq ?_
    replace hr := obind hr
    obtain ⟨x1619, h1620, hr⟩ := hr
    have := (List.getElem?_eq_some_iff.1 h1620).1
    refine at_elem 1 rfl (nat_at' h1620) (fun p1622 ec pa1623 => ?_)
    refine at_open (A := Value) 0 rfl _ _ (fun F w h => op69 h) ?_
    rintro s1621 rfl
    replace hr := obind hr
    obtain ⟨x1624, h1625, hr⟩ := hr
    have := (List.getElem?_eq_some_iff.1 h1625).1
    refine at_elem 6 rfl (nat_at' h1625) (fun p1627 ec pa1628 => ?_)
    refine at_open (A := Value) 0 rfl _ _ (fun F w h => op69 h) ?_
    rintro s1626 rfl
    replace hr := obind hr
    obtain ⟨x1629, h1630, hr⟩ := hr
    refine aa_start 10 (by kernel_rfl) ?_
    refine aa_p 0 rfl (lt_move rfl) ?_
    refine aa_p 1 rfl (lt_move rfl) ?_
    refine aa_p 2 rfl (lt_idx rfl rfl pa1623 und23 ti69) ?_
    refine aa_l 3 rfl (lt_load_peek 7 rfl ti69 rfl rfl rfl rfl rfl) ?_
    refine aa_p 4 rfl (lt_move rfl) ?_
    refine aa_p 5 rfl (lt_move rfl) ?_
    refine aa_p 6 rfl (lt_idx rfl rfl pa1628 und23 ti69) ?_
    refine aa_l 7 rfl (lt_load_peek 3 rfl ti69 rfl rfl rfl rfl rfl) ?_
    refine aa_one 8 ?_
    refine aa_op rfl rfl ?_
    refine hv_call0 [6, 2] (f84_spec h1630) rfl rfl rfl rfl ?_
    rintro _ _ ⟨rfl, rfl⟩
    refine aa_p 9 rfl (lt_not rfl) ?_
    refine aa_done (by kernel_rfl) (ts_in 0 0 rfl rfl) ?_
    refine at_then ?_
    by_cases h1631 : x1629 = true
    ·replace hr := ipos h1631 hr
     refine at_false rfl (nt h1631) ?_
     refine at_skip ?_
     refine at_in ?_
     refine s_tr ?_
     refine s_mv rfl ?_
     refine at_lt (lt_add rfl rfl (by simp only [lo, hi]; omega)) rfl ?_
     refine s_as rfl ?_
     refine at_nil ?_
     refine at_int .i64 (x1614 + 1 : Int) (by simp only [lo, hi]; omega) ?_
     exact at_again (σ := Nat) (V := Unit) (lp := fun n s => m48_l1 a0 a1 n s) (S := fun s e => (⟨[(0, w1607), (1, w1608), (5, .int .i64 (s : Int))], [], [], [((Ty.int .i64).fact (s : Int) [.int .i64 (s : Int)]), ((Ty.slice ty69).fact a0 [w1607]), ((Ty.slice ty69).fact a1 [w1608])]⟩ : St)) (x1614 + 1) () hr ⟨⟨rfl, ⟨rfl, ⟨rfl, trivial⟩⟩⟩, ⟨[], rfl⟩, ⟨[], rfl⟩, ⟨[0, 10, 11], rfl⟩⟩
    replace hr := ineg h1631 hr
    refine at_true rfl (nf (bf h1631)) ?_
    refine s_sr ?_
    refine s_as rfl ?_
    refine s_nt ?_
    refine at_ret ?_
    have hq := oinj hr
    clear hr
    subst hq
    have hq := oinj hk1617
    clear hk1617
    subst hq
    refine at_in_ret ?_
    refine at_then_ret ?_
    refine at_then_ret ?_
    refine at_in_ret ?_
    refine at_then_ret ?_
    refine at_then_ret ?_
    exact at_return (.bool false) [] hS Tryz.results48 (.cons (.tmp rfl) .nil) rfl rfl ⟨rfl, rfl⟩
   replace hr := ineg h1618 hr
   refine at_false rfl (decide_eq_false (by omega)) ?_
   refine at_exit ?_
   refine at_then_exit ?_
   refine at_then_exit ?_
   refine at_in_exit ?_
   have hq := oinj hr
   clear hr
   subst hq
   exact at_leafP ((), ()) rfl ⟨trivial, ⟨[], rfl⟩, ⟨[], rfl⟩, ⟨[], rfl⟩⟩
  rintro ⟨_, _⟩ hp
  replace hr := hk1617
  subst hp
  clear hl1616
  change At _ _ (⟨[], [], [], []⟩ : St) _
  refine s_tsr ?_
  refine s_as rfl ?_
  refine s_nt ?_
  refine at_ret ?_
  have hq := oinj hr
  clear hr
  subst hq
  exact at_return (.bool true) [] hS Tryz.results48 (.cons (.tmp rfl) .nil) rfl rfl ⟨rfl, rfl⟩
 replace hr := ineg h1613 hr
 refine at_true rfl (nf (decide_eq_false (by omega))) ?_
 refine s_sr ?_
 refine s_as rfl ?_
 refine s_nt ?_
 refine at_ret ?_
 have hq := oinj hr
 clear hr
 subst hq
 refine at_then_ret ?_
 exact at_return (.bool false) [] hS Tryz.results48 (.cons (.tmp rfl) .nil) rfl rfl ⟨rfl, rfl⟩
/-! 18 bookplate/bookplateref12.Equal -/
def m18 (a0 : D_api_Record) (a1 : D_api_Record) : Option Bool :=
  if a0.ID = a1.ID then
   (m48 a0.Fields a1.Fields).bind fun x1639 =>
   some x1639
  else
   some false
def post18 (r : Bool) (v : Value) (fs : List Fact) : Prop := v = .bool r ∧ fs = []
theorem en18 : Enters Tryz.prog 18 := ⟨_, Tryz.func18, by kernel_rfl, rfl⟩
theorem f18_spec {a0 : D_api_Record} {a1 : D_api_Record} {s1632 : Value} {s1633 : Value} {r : Bool} (hr : m18 a0 a1 = some r) : Spec Tryz.prog 18 [.agg #[.int .i64 a0.ID, s1632], .agg #[.int .i64 a1.ID, s1633]] [(ty25.fact a0 [.int .i64 a0.ID, s1632]), (ty25.fact a1 [.int .i64 a1.ID, s1633])] (post18 r) := by
 refine spec_start (N := 17) Tryz.func18 (by kernel_rfl) rfl rfl rfl ?_
 intro g hS
 unfold m18 at hr
 refine at_open (A := Unit) 0 rfl (fun _ => True) (fun _ => [((Ty.int .i64).fact a0.ID [.int .i64 a0.ID]), ((Ty.slice ty69).fact a0.Fields [s1632])]) (fun F w h => ⟨(), trivial, ex25 h⟩) (fun _ _ => ?_)
 refine at_inv 0 rfl (fun l1634 => ?_)
 replace l1634 : (-9223372036854775808) ≤ a0.ID ∧ a0.ID ≤ 9223372036854775807 := l1634
 refine at_open (A := Unit) 3 rfl (fun _ => True) (fun _ => [((Ty.int .i64).fact a1.ID [.int .i64 a1.ID]), ((Ty.slice ty69).fact a1.Fields [s1633])]) (fun F w h => ⟨(), trivial, ex25 h⟩) (fun _ _ => ?_)
 refine at_inv 0 rfl (fun l1635 => ?_)
 replace l1635 : (-9223372036854775808) ≤ a1.ID ∧ a1.ID ≤ 9223372036854775807 := l1635
 refine s_sr ?_
 refine at_hv rfl ?_
 refine hv_box (cs := [.int .i64 a0.ID, s1632]) rfl rfl rfl (fun b1636 => ?_)
 refine at_hv rfl ?_
 refine hv_box (cs := [.int .i64 a1.ID, s1633]) rfl rfl rfl (fun b1637 => ?_)
 refine s_as rfl ?_
 refine s_ntsr ?_
 refine at_lt (lt_fieldAddr 0 rfl fld25_0 rfl) rfl ?_
 refine at_lt (lt_load_box 1 rfl ti3 rfl rfl rfl rfl rfl) rfl ?_
 refine at_lt (lt_fieldAddr 0 rfl fld25_0 rfl) rfl ?_
 refine at_lt (lt_load_box 0 rfl ti3 rfl rfl rfl rfl rfl) rfl ?_
 refine at_lt (lt_eql rfl rfl) rfl ?_
 refine s_mv rfl ?_
 by_cases h1638 : a0.ID = a1.ID
 ·replace hr := ipos h1638 hr
  refine at_on rfl rfl (decide_eq_true (by first | exact h1638 | omega)) ?_
  refine at_lt (lt_fieldAddr 1 rfl fld25_1 rfl) rfl ?_
  refine at_on rfl rfl (decide_eq_true (by first | exact h1638 | omega)) ?_
  refine at_lt (lt_load_box 1 rfl ti23 rfl rfl rfl rfl rfl) rfl ?_
  refine at_on rfl rfl (decide_eq_true (by first | exact h1638 | omega)) ?_
  refine at_lt (lt_fieldAddr 1 rfl fld25_1 rfl) rfl ?_
  refine at_on rfl rfl (decide_eq_true (by first | exact h1638 | omega)) ?_
  refine at_lt (lt_load_box 0 rfl ti23 rfl rfl rfl rfl rfl) rfl ?_
  replace hr := obind hr
  obtain ⟨x1639, h1640, hr⟩ := hr
  refine at_on rfl rfl (decide_eq_true (by first | exact h1638 | omega)) ?_
  refine at_hv rfl ?_
  refine hv_call0 [3, 1] (f48_spec h1640) rfl rfl rfl rfl ?_
  rintro _ _ ⟨rfl, rfl⟩
  refine at_lt (lt_pick true rfl (decide_eq_true (by first | exact h1638 | omega)) rfl) rfl ?_
  refine s_as rfl ?_
  refine s_nt ?_
  refine at_ret ?_
  have hq := oinj hr
  clear hr
  subst hq
  exact at_return (.bool x1639) [] hS Tryz.results18 (.cons (.tmp rfl) .nil) rfl rfl ⟨rfl, rfl⟩
 replace hr := ineg h1638 hr
 refine at_off rfl rfl (decide_eq_false (by first | exact h1638 | omega)) rfl ?_
 refine at_off rfl rfl (decide_eq_false (by first | exact h1638 | omega)) rfl ?_
 refine at_off rfl rfl (decide_eq_false (by first | exact h1638 | omega)) rfl ?_
 refine at_off rfl rfl (decide_eq_false (by first | exact h1638 | omega)) rfl ?_
 refine at_off rfl rfl (decide_eq_false (by first | exact h1638 | omega)) rfl ?_
 refine at_lt (lt_pick false rfl (decide_eq_false (by first | exact h1638 | omega)) rfl) rfl ?_
 refine s_as rfl ?_
 refine s_nt ?_
 refine at_ret ?_
 have hq := oinj hr
 clear hr
 subst hq
 exact at_return (.bool false) [] hS Tryz.results18 (.cons (.tmp rfl) .nil) rfl rfl ⟨rfl, rfl⟩
/-! 115 bookplate/bookplateref12.isDigit -/
def m115 (a0 : UInt8) : Option Bool :=
  if 48 ≤ a0.toNat then
   some (decide ((a0.toNat : Int) ≤ 57))
  else
   some false
def post115 (r : Bool) (v : Value) (fs : List Fact) : Prop := v = .bool r ∧ fs = []
theorem en115 : Enters Tryz.prog 115 := ⟨_, Tryz.func115, by kernel_rfl, rfl⟩
theorem f115_spec {a0 : UInt8} {r : Bool} (hr : m115 a0 = some r) : Spec Tryz.prog 115 [.int .u8 (a0.toNat : Int)] [] (post115 r) := by
 refine spec_start (N := 9) Tryz.func115 (by kernel_rfl) rfl rfl rfl ?_
 intro g hS
 unfold m115 at hr
 refine s_sr ?_
 refine s_as rfl ?_
 refine s_ntsr ?_
 refine s_mv rfl ?_
 refine at_lt (lt_geq rfl rfl) rfl ?_
 refine s_mv rfl ?_
 by_cases h1641 : 48 ≤ a0.toNat
 ·replace hr := ipos h1641 hr
  refine at_on rfl rfl (decide_eq_true (by omega)) ?_
  refine s_mv rfl ?_
  refine at_on rfl rfl (decide_eq_true (by omega)) ?_
  refine at_lt (lt_leq rfl rfl) rfl ?_
  refine at_lt (lt_pick true rfl (decide_eq_true (by omega)) rfl) rfl ?_
  refine s_as rfl ?_
  refine s_nt ?_
  refine at_ret ?_
  have hq := oinj hr
  clear hr
  subst hq
  exact at_return (.bool (decide ((a0.toNat : Int) ≤ 57))) [] hS Tryz.results115 (.cons (.tmp rfl) .nil) rfl rfl ⟨rfl, rfl⟩
 replace hr := ineg h1641 hr
 refine at_off rfl rfl (decide_eq_false (by omega)) rfl ?_
 refine at_off rfl rfl (decide_eq_false (by omega)) rfl ?_
 refine at_lt (lt_pick false rfl (decide_eq_false (by omega)) rfl) rfl ?_
 refine s_as rfl ?_
 refine s_nt ?_
 refine at_ret ?_
 have hq := oinj hr
 clear hr
 subst hq
 exact at_return (.bool false) [] hS Tryz.results115 (.cons (.tmp rfl) .nil) rfl rfl ⟨rfl, rfl⟩
/-! 87 bookplate/bookplateref12.ValidTag -/
def m87 (a0 : Str) : Option Bool :=
  if a0.length = 3 then
   (a0[0]?).bind fun c1644 =>
   (m115 c1644).bind fun x1646 =>
   if x1646 = true then
    (a0[1]?).bind fun c1649 =>
    (m115 c1649).bind fun x1651 =>
    if x1651 = true then
     (a0[2]?).bind fun c1654 =>
     (m115 c1654).bind fun x1656 =>
     if x1656 = true then
      some (!decide (a0 = ([48, 48, 48] : Str)))
     else
      some false
    else
     some false
   else
    some false
  else
   some false
def post87 (r : Bool) (v : Value) (fs : List Fact) : Prop := v = .bool r ∧ fs = []
theorem en87 : Enters Tryz.prog 87 := ⟨_, Tryz.func87, by kernel_rfl, rfl⟩
theorem f87_spec {a0 : Str} {r : Bool} (hr : m87 a0 = some r) : Spec Tryz.prog 87 [str a0] [(Ty.str.fact a0 [str a0])] (post87 r) := by
 refine spec_start (N := 25) Tryz.func87 (by kernel_rfl) rfl rfl rfl ?_
 intro g hS
 unfold m87 at hr
 refine s_sr ?_
 refine s_as rfl ?_
 refine s_ntsr ?_
 refine s_mv rfl ?_
 refine at_inv 0 rfl (fun l1642 => ?_)
 replace l1642 : a0.length ≤ 9223372036854775807 := l1642
 refine at_lt (lt_slen rfl und9) rfl ?_
 refine at_lt (lt_eql rfl rfl) rfl ?_
 refine s_mv rfl ?_
 by_cases h1643 : a0.length = 3
 ·replace hr := ipos h1643 hr
  refine at_on rfl rfl (decide_eq_true (by omega)) ?_
  refine s_mv rfl ?_
  replace hr := obind hr
  obtain ⟨c1644, h1645, hr⟩ := hr
  have := (List.getElem?_eq_some_iff.1 h1645).1
  have := c1644.toNat_lt
  refine at_on rfl rfl (decide_eq_true (by omega)) ?_
  refine at_lt (lt_sidx rfl rfl und9 (by omega) h1645) rfl ?_
  replace hr := obind hr
  obtain ⟨x1646, h1647, hr⟩ := hr
  refine at_on rfl rfl (decide_eq_true (by omega)) ?_
  refine at_hv rfl ?_
  refine hv_call0 [] (f115_spec h1647) rfl rfl rfl rfl ?_
  rintro _ _ ⟨rfl, rfl⟩
  refine at_lt (lt_pick true rfl (decide_eq_true (by omega)) rfl) rfl ?_
  refine s_mv rfl ?_
  by_cases h1648 : x1646 = true
  ·replace hr := ipos h1648 hr
   refine at_on rfl rfl h1648 ?_
   refine s_mv rfl ?_
   replace hr := obind hr
   obtain ⟨c1649, h1650, hr⟩ := hr
   have := (List.getElem?_eq_some_iff.1 h1650).1
   have := c1649.toNat_lt
   refine at_on rfl rfl h1648 ?_
   refine at_lt (lt_sidx rfl rfl und9 (by omega) h1650) rfl ?_
   replace hr := obind hr
   obtain ⟨x1651, h1652, hr⟩ := hr
   refine at_on rfl rfl h1648 ?_
   refine at_hv rfl ?_
   refine hv_call0 [] (f115_spec h1652) rfl rfl rfl rfl ?_
   rintro _ _ ⟨rfl, rfl⟩
   refine at_lt (lt_pick true rfl h1648 rfl) rfl ?_
   refine s_mv rfl ?_
   by_cases h1653 : x1651 = true
   ·replace hr := ipos h1653 hr
    refine at_on rfl rfl h1653 ?_
    refine s_mv rfl ?_
    replace hr := obind hr
    obtain ⟨c1654, h1655, hr⟩ := hr
    have := (List.getElem?_eq_some_iff.1 h1655).1
    have := c1654.toNat_lt
    refine at_on rfl rfl h1653 ?_
    refine at_lt (lt_sidx rfl rfl und9 (by omega) h1655) rfl ?_
    replace hr := obind hr
    obtain ⟨x1656, h1657, hr⟩ := hr
    refine at_on rfl rfl h1653 ?_
    refine at_hv rfl ?_
    refine hv_call0 [] (f115_spec h1657) rfl rfl rfl rfl ?_
    rintro _ _ ⟨rfl, rfl⟩
    refine at_lt (lt_pick true rfl h1653 rfl) rfl ?_
    refine s_mv rfl ?_
    by_cases h1658 : x1656 = true
    ·replace hr := ipos h1658 hr
     refine at_on rfl rfl h1658 ?_
     refine s_mv rfl ?_
     refine at_on rfl rfl h1658 ?_
     refine at_lt (lt_sneq rfl rfl) rfl ?_
     refine at_lt (lt_pick true rfl h1658 rfl) rfl ?_
     refine s_as rfl ?_
     refine s_nt ?_
     refine at_ret ?_
     have hq := oinj hr
     clear hr
     subst hq
     exact at_return (.bool (!decide (a0 = ([48, 48, 48] : Str)))) [] hS Tryz.results87 (.cons (.tmp rfl) .nil) rfl rfl ⟨rfl, rfl⟩
    replace hr := ineg h1658 hr
    refine at_off rfl rfl (bf h1658) rfl ?_
    refine at_off rfl rfl (bf h1658) rfl ?_
    refine at_lt (lt_pick false rfl (bf h1658) rfl) rfl ?_
    refine s_as rfl ?_
    refine s_nt ?_
    refine at_ret ?_
    have hq := oinj hr
    clear hr
    subst hq
    exact at_return (.bool false) [] hS Tryz.results87 (.cons (.tmp rfl) .nil) rfl rfl ⟨rfl, rfl⟩
   replace hr := ineg h1653 hr
   refine at_off rfl rfl (bf h1653) rfl ?_
   refine at_off rfl rfl (bf h1653) rfl ?_
   refine at_off rfl rfl (bf h1653) rfl ?_
   refine at_lt (lt_pick false rfl (bf h1653) rfl) rfl ?_
   refine s_mv rfl ?_
   refine at_off rfl rfl rfl rfl ?_
   refine at_off rfl rfl rfl rfl ?_
   refine at_lt (lt_pick false rfl rfl rfl) rfl ?_
   refine s_as rfl ?_
   refine s_nt ?_
   refine at_ret ?_
   have hq := oinj hr
   clear hr
   subst hq
   exact at_return (.bool false) [] hS Tryz.results87 (.cons (.tmp rfl) .nil) rfl rfl ⟨rfl, rfl⟩
  replace hr := ineg h1648 hr
  refine at_off rfl rfl (bf h1648) rfl ?_
  refine at_off rfl rfl (bf h1648) rfl ?_
  refine at_off rfl rfl (bf h1648) rfl ?_
  refine at_lt (lt_pick false rfl (bf h1648) rfl) rfl ?_
  refine s_mv rfl ?_
  refine at_off rfl rfl rfl rfl ?_
  refine at_off rfl rfl rfl rfl ?_
  refine at_off rfl rfl rfl rfl ?_
  refine at_lt (lt_pick false rfl rfl rfl) rfl ?_
  refine s_mv rfl ?_
  refine at_off rfl rfl rfl rfl ?_
  refine at_off rfl rfl rfl rfl ?_
  refine at_lt (lt_pick false rfl rfl rfl) rfl ?_
  refine s_as rfl ?_
  refine s_nt ?_
  refine at_ret ?_
  have hq := oinj hr
  clear hr
  subst hq
  exact at_return (.bool false) [] hS Tryz.results87 (.cons (.tmp rfl) .nil) rfl rfl ⟨rfl, rfl⟩
 replace hr := ineg h1643 hr
 refine at_off rfl rfl (decide_eq_false (by omega)) rfl ?_
 refine at_off rfl rfl (decide_eq_false (by omega)) rfl ?_
 refine at_off rfl rfl (decide_eq_false (by omega)) rfl ?_
 refine at_lt (lt_pick false rfl (decide_eq_false (by omega)) rfl) rfl ?_
 refine s_mv rfl ?_
 refine at_off rfl rfl rfl rfl ?_
 refine at_off rfl rfl rfl rfl ?_
 refine at_off rfl rfl rfl rfl ?_
 refine at_lt (lt_pick false rfl rfl rfl) rfl ?_
 refine s_mv rfl ?_
 refine at_off rfl rfl rfl rfl ?_
 refine at_off rfl rfl rfl rfl ?_
 refine at_off rfl rfl rfl rfl ?_
 refine at_lt (lt_pick false rfl rfl rfl) rfl ?_
 refine s_mv rfl ?_
 refine at_off rfl rfl rfl rfl ?_
 refine at_off rfl rfl rfl rfl ?_
 refine at_lt (lt_pick false rfl rfl rfl) rfl ?_
 refine s_as rfl ?_
 refine s_nt ?_
 refine at_ret ?_
 have hq := oinj hr
 clear hr
 subst hq
 exact at_return (.bool false) [] hS Tryz.results87 (.cons (.tmp rfl) .nil) rfl rfl ⟨rfl, rfl⟩
/-! 89 bookplate/bookplateref12.isCode -/
def m89 (a0 : UInt8) : Option Bool :=
  (m115 a0).bind fun x1659 =>
  if x1659 = true then
   some true
  else
   if 97 ≤ a0.toNat then
    some (decide ((a0.toNat : Int) ≤ 122))
   else
    some false
def post89 (r : Bool) (v : Value) (fs : List Fact) : Prop := v = .bool r ∧ fs = []
theorem en89 : Enters Tryz.prog 89 := ⟨_, Tryz.func89, by kernel_rfl, rfl⟩
theorem f89_spec {a0 : UInt8} {r : Bool} (hr : m89 a0 = some r) : Spec Tryz.prog 89 [.int .u8 (a0.toNat : Int)] [] (post89 r) := by
 refine spec_start (N := 13) Tryz.func89 (by kernel_rfl) rfl rfl rfl ?_
 intro g hS
 unfold m89 at hr
 refine s_sr ?_
 refine s_as rfl ?_
 refine s_ntsr ?_
 refine s_mv rfl ?_
 replace hr := obind hr
 obtain ⟨x1659, h1660, hr⟩ := hr
 refine at_hv rfl ?_
 refine hv_call0 [] (f115_spec h1660) rfl rfl rfl rfl ?_
 rintro _ _ ⟨rfl, rfl⟩
 refine s_mv rfl ?_
 by_cases h1661 : x1659 = true
 ·replace hr := ipos h1661 hr
  refine at_off rfl rfl h1661 rfl ?_
  refine at_off rfl rfl h1661 rfl ?_
  refine at_off rfl rfl h1661 rfl ?_
  refine at_offu rfl rfl rfl ?_
  refine at_offu rfl rfl rfl ?_
  refine at_off rfl rfl h1661 rfl ?_
  refine at_lt (lt_pick true rfl h1661 rfl) rfl ?_
  refine s_as rfl ?_
  refine s_nt ?_
  refine at_ret ?_
  have hq := oinj hr
  clear hr
  subst hq
  exact at_return (.bool true) [] hS Tryz.results89 (.cons (.tmp rfl) .nil) rfl rfl ⟨rfl, rfl⟩
 replace hr := ineg h1661 hr
 refine at_on rfl rfl (bf h1661) ?_
 refine s_mv rfl ?_
 refine at_on rfl rfl (bf h1661) ?_
 refine at_lt (lt_geq rfl rfl) rfl ?_
 refine at_on rfl rfl (bf h1661) ?_
 refine s_mv rfl ?_
 by_cases h1662 : 97 ≤ a0.toNat
 ·replace hr := ipos h1662 hr
  refine at_on rfl rfl (decide_eq_true (by omega)) ?_
  refine s_mv rfl ?_
  refine at_on rfl rfl (decide_eq_true (by omega)) ?_
  refine at_lt (lt_leq rfl rfl) rfl ?_
  refine at_on rfl rfl (bf h1661) ?_
  refine at_lt (lt_pick true rfl (decide_eq_true (by omega)) rfl) rfl ?_
  refine at_lt (lt_pick false rfl (bf h1661) rfl) rfl ?_
  refine s_as rfl ?_
  refine s_nt ?_
  refine at_ret ?_
  have hq := oinj hr
  clear hr
  subst hq
  exact at_return (.bool (decide ((a0.toNat : Int) ≤ 122))) [] hS Tryz.results89 (.cons (.tmp rfl) .nil) rfl rfl ⟨rfl, rfl⟩
 replace hr := ineg h1662 hr
 refine at_off rfl rfl (decide_eq_false (by omega)) rfl ?_
 refine at_off rfl rfl (decide_eq_false (by omega)) rfl ?_
 refine at_on rfl rfl (bf h1661) ?_
 refine at_lt (lt_pick false rfl (decide_eq_false (by omega)) rfl) rfl ?_
 refine at_lt (lt_pick false rfl (bf h1661) rfl) rfl ?_
 refine s_as rfl ?_
 refine s_nt ?_
 refine at_ret ?_
 have hq := oinj hr
 clear hr
 subst hq
 exact at_return (.bool false) [] hS Tryz.results89 (.cons (.tmp rfl) .nil) rfl rfl ⟨rfl, rfl⟩
/-! 88 bookplate/bookplateref12.ValidCode -/
def m88 (a0 : UInt8) : Option Bool :=
  (m89 a0).bind fun x1663 =>
  some x1663
def post88 (r : Bool) (v : Value) (fs : List Fact) : Prop := v = .bool r ∧ fs = []
theorem en88 : Enters Tryz.prog 88 := ⟨_, Tryz.func88, by kernel_rfl, rfl⟩
theorem f88_spec {a0 : UInt8} {r : Bool} (hr : m88 a0 = some r) : Spec Tryz.prog 88 [.int .u8 (a0.toNat : Int)] [] (post88 r) := by
 refine spec_start (N := 5) Tryz.func88 (by kernel_rfl) rfl rfl rfl ?_
 intro g hS
 unfold m88 at hr
 refine s_sr ?_
 refine s_as rfl ?_
 refine s_ntsr ?_
 refine s_mv rfl ?_
 replace hr := obind hr
 obtain ⟨x1663, h1664, hr⟩ := hr
 refine at_hv rfl ?_
 refine hv_call0 [] (f89_spec h1664) rfl rfl rfl rfl ?_
 rintro _ _ ⟨rfl, rfl⟩
 refine s_as rfl ?_
 refine s_nt ?_
 refine at_ret ?_
 have hq := oinj hr
 clear hr
 subst hq
 exact at_return (.bool x1663) [] hS Tryz.results88 (.cons (.tmp rfl) .nil) rfl rfl ⟨rfl, rfl⟩
/-! 55 bookplate/bookplateref16.entry -/
def m55_l1 (a0 : D_ref16_Entry) : Nat → Nat → Option (Fl Bool Unit)
  | 0, _ => none
  | k + 1, x1677 =>
    if x1677 < a0.Codes.length then
     (a0.Codes[x1677]?).bind fun x1682 =>
     (m88 x1682.From).bind fun x1687 =>
     if x1687 = true then
      (m88 x1682.To).bind fun x1690 =>
      if x1690 = true then
       if 0 < x1677 then
        (at? a0.Codes ((x1677 : Int) - 1)).bind fun x1694 =>
        if x1682.From.toNat ≤ x1694.From.toNat then
         some (Fl.ret false)
        else
         m55_l1 a0 k (x1677 + 1)
       else
        m55_l1 a0 k (x1677 + 1)
      else
       some (Fl.ret false)
     else
      some (Fl.ret false)
    else
     some (Fl.go ())
def m55 (a0 : D_ref16_Entry) : Option Bool :=
  (m87 a0.From).bind fun x1667 =>
  if x1667 = true then
   (m87 a0.To).bind fun x1670 =>
   if x1670 = true then
    if a0.Codes.length < 1 then
     some false
    else
     if 36 < a0.Codes.length then
      some false
     else
      (m55_l1 a0 (a0.Codes.length + 1) 0).bind fun r => match r with
      | .ret x => some x
      | .go _ =>
       some true
   else
    some false
  else
   some false
def post55 (r : Bool) (v : Value) (fs : List Fact) : Prop := v = .bool r ∧ fs = []
theorem en55 : Enters Tryz.prog 55 := ⟨_, Tryz.func55, by kernel_rfl, rfl⟩
theorem f55_spec {a0 : D_ref16_Entry} {s1665 : Value} {r : Bool} (hr : m55 a0 = some r) : Spec Tryz.prog 55 [.agg #[str a0.From, str a0.To, s1665]] [(ty50.fact a0 [str a0.From, str a0.To, s1665])] (post55 r) := by
 refine spec_start (N := 65) Tryz.func55 (by kernel_rfl) rfl rfl rfl ?_
 intro g hS
 unfold m55 at hr
 refine at_open (A := Unit) 0 rfl (fun _ => True) (fun _ => [(Ty.str.fact a0.From [str a0.From]), (Ty.str.fact a0.To [str a0.To]), ((Ty.slice ty83).fact a0.Codes [s1665])]) (fun F w h => ⟨(), trivial, ex50 h⟩) (fun _ _ => ?_)
 refine s_sr ?_
 refine at_hv rfl ?_
 refine hv_box (cs := [str a0.From, str a0.To, s1665]) rfl rfl rfl (fun b1666 => ?_)
 refine s_as rfl ?_
 refine s_nt ?_
 refine at_seq ?_
 refine s_sr ?_
 refine at_lt (lt_fieldAddr 0 rfl fld50_0 rfl) rfl ?_
 refine at_lt (lt_load_box 0 rfl ti9 rfl rfl rfl rfl rfl) rfl ?_
 replace hr := obind hr
 obtain ⟨x1667, h1668, hr⟩ := hr
 refine at_hv rfl ?_
 refine hv_call0 [0] (f87_spec h1668) rfl rfl rfl rfl ?_
 rintro _ _ ⟨rfl, rfl⟩
 refine at_lt (lt_not rfl) rfl ?_
 refine s_mv rfl ?_
 by_cases h1669 : x1667 = true
 ·replace hr := ipos h1669 hr
  refine at_on rfl rfl (nt h1669) ?_
  refine at_lt (lt_fieldAddr 1 rfl fld50_1 rfl) rfl ?_
  refine at_on rfl rfl (nt h1669) ?_
  refine at_lt (lt_load_box 0 rfl ti9 rfl rfl rfl rfl rfl) rfl ?_
  replace hr := obind hr
  obtain ⟨x1670, h1671, hr⟩ := hr
  refine at_on rfl rfl (nt h1669) ?_
  refine at_hv rfl ?_
  refine hv_call0 [1] (f87_spec h1671) rfl rfl rfl rfl ?_
  rintro _ _ ⟨rfl, rfl⟩
  refine at_on rfl rfl (nt h1669) ?_
  refine at_lt (lt_not rfl) rfl ?_
  refine at_lt (lt_pick false rfl (nt h1669) rfl) rfl ?_
  refine s_mv rfl ?_
  by_cases h1672 : x1670 = true
  ·replace hr := ipos h1672 hr
   refine at_on rfl rfl (nt h1672) ?_
   refine at_lt (lt_fieldAddr 2 rfl fld50_2 rfl) rfl ?_
   refine at_on rfl rfl (nt h1672) ?_
   refine at_lt (lt_load_box 0 rfl ti48 rfl rfl rfl rfl rfl) rfl ?_
   refine at_inv 2 rfl (fun i1673 => ?_)
   have l1674 := slice_len i1673
   refine at_on rfl rfl (nt h1672) ?_
   refine at_lt (lt_flen 2 rfl rfl und48) rfl ?_
   refine at_on rfl rfl (nt h1672) ?_
   refine at_lt (lt_lss rfl rfl) rfl ?_
   refine at_lt (lt_pick false rfl (nt h1672) rfl) rfl ?_
   refine s_mv rfl ?_
   by_cases h1675 : a0.Codes.length < 1
   ·replace hr := ipos h1675 hr
    refine at_off rfl rfl (decide_eq_true (by omega)) rfl ?_
    refine at_off rfl rfl (decide_eq_true (by omega)) rfl ?_
    refine at_off rfl rfl (decide_eq_true (by omega)) rfl ?_
    refine at_off rfl rfl (decide_eq_true (by omega)) rfl ?_
    refine at_lt (lt_pick true rfl (decide_eq_true (by omega)) rfl) rfl ?_
    refine s_nt ?_
    refine at_true rfl rfl ?_
    refine s_sr ?_
    refine s_as rfl ?_
    refine s_nt ?_
    refine at_ret ?_
    have hq := oinj hr
    clear hr
    subst hq
    refine at_then_ret ?_
    exact at_return (.bool false) [] hS Tryz.results55 (.cons (.tmp rfl) .nil) rfl rfl ⟨rfl, rfl⟩
   replace hr := ineg h1675 hr
   refine at_on rfl rfl (decide_eq_false (by omega)) ?_
   refine at_lt (lt_fieldAddr 2 rfl fld50_2 rfl) rfl ?_
   refine at_on rfl rfl (decide_eq_false (by omega)) ?_
   refine at_lt (lt_load_box 0 rfl ti48 rfl rfl rfl rfl rfl) rfl ?_
   refine at_on rfl rfl (decide_eq_false (by omega)) ?_
   refine at_lt (lt_flen 2 rfl rfl und48) rfl ?_
   refine at_on rfl rfl (decide_eq_false (by omega)) ?_
   refine at_lt (lt_gtr rfl rfl) rfl ?_
   refine at_lt (lt_pick false rfl (decide_eq_false (by omega)) rfl) rfl ?_
   refine s_nt ?_
   by_cases h1676 : 36 < a0.Codes.length
   ·replace hr := ipos h1676 hr
    refine at_true rfl (decide_eq_true (by omega)) ?_
    refine s_sr ?_
    refine s_as rfl ?_
    refine s_nt ?_
    refine at_ret ?_
    have hq := oinj hr
    clear hr
    subst hq
    refine at_then_ret ?_
    exact at_return (.bool false) [] hS Tryz.results55 (.cons (.tmp rfl) .nil) rfl rfl ⟨rfl, rfl⟩
   replace hr := ineg h1676 hr
   refine at_false rfl (decide_eq_false (by omega)) ?_
   refine at_skip ?_
   refine at_then ?_
   refine at_seq ?_
   refine s_sr ?_
   refine s_as rfl ?_
   refine s_nt ?_
   refine at_int .i64 0 (by simp only [lo, hi]; omega) ?_
   replace hr := obind hr
   obtain ⟨r1678, hl1679, hk1680⟩ := hr
   refine at_cutP (V := (Unit) × (Unit)) (fun v => r1678 = Fl.go v.1) (fun v => (⟨[], [], [], []⟩ : St)) ?_ ?_
   ·refine at_block ?_
    refine at_loopW (σ := Nat) (V := Unit) (r := r1678) (fun n s => m55_l1 a0 n s) (fun s e => (⟨[(1, .pointer (some (Addr.add ⟨b1666, 0, none⟩ 0))), (3, .int .i64 (s : Int))], [⟨b1666, [str a0.From, str a0.To, s1665], 50⟩], [], [((Ty.int .i64).fact (s : Int) [.int .i64 (s : Int)]), (Ty.str.fact a0.From [str a0.From]), (Ty.str.fact a0.To [str a0.To]), ((Ty.slice ty83).fact a0.Codes [s1665])]⟩ : St)) (fun _ => rfl) _ 0 () hl1679 ⟨⟨rfl, ⟨rfl, trivial⟩⟩, ⟨[true], rfl⟩, ⟨[], rfl⟩, ⟨[0, 1, 2, 3], rfl⟩⟩ ?_
    clear hl1679
    intro n x1677 hr e
    skip
    skip
    change m55_l1 a0 (n + 1) x1677 = some r1678 at hr
    change At _ _ (⟨[(1, .pointer (some (Addr.add ⟨b1666, 0, none⟩ 0))), (3, .int .i64 (x1677 : Int))], [⟨b1666, [str a0.From, str a0.To, s1665], 50⟩], [], [((Ty.int .i64).fact (x1677 : Int) [.int .i64 (x1677 : Int)]), (Ty.str.fact a0.From [str a0.From]), (Ty.str.fact a0.To [str a0.To]), ((Ty.slice ty83).fact a0.Codes [s1665])]⟩ : St) _
    rw [m55_l1] at hr
    refine at_seq ?_
    refine s_sr ?_
    refine s_mv rfl ?_
    refine at_lt (lt_fieldAddr 2 rfl fld50_2 rfl) rfl ?_
    refine at_lt (lt_load_box 0 rfl ti48 rfl rfl rfl rfl rfl) rfl ?_
    refine at_lt (lt_flen 3 rfl rfl und48) rfl ?_
    refine at_lt (lt_lss rfl rfl) rfl ?_
    refine s_nt ?_
    by_cases h1681 : x1677 < a0.Codes.length
    ·replace hr := ipos h1681 hr
     refine at_true rfl (decide_eq_true (by omega)) ?_
     refine at_skip ?_
     refine at_then ?_
     refine at_seq ?_
     refine at_block ?_
     refine s_sr ?_
     refine at_lt (lt_fieldAddr 2 rfl fld50_2 rfl) rfl ?_
     refine at_lt (lt_load_box 0 rfl ti48 rfl rfl rfl rfl rfl) rfl ?_
     refine s_mv rfl ?_
     replace hr := obind hr
     obtain ⟨x1682, h1683, hr⟩ := hr
     have := (List.getElem?_eq_some_iff.1 h1683).1
     refine at_elem 3 rfl (nat_at' h1683) (fun p1684 ec pa1685 => ?_)
     refine at_open (A := Unit) 0 rfl _ _ (fun F w h => op83 h) ?_
     rintro _ rfl
     refine at_lt (lt_idx rfl rfl pa1685 und48 ti83) rfl ?_
     refine at_lt (lt_load_peek 1 rfl ti83 rfl rfl rfl rfl rfl) rfl ?_
     refine at_hv rfl ?_
     refine hv_alloc (cs := [.int .u8 0, .int .u8 0]) ti83 rfl rfl (fun b1686 => ?_)
     refine at_hv rfl ?_
     refine hv_store_box 0 (cs' := [.int .u8 (x1682.From.toNat : Int), .int .u8 (x1682.To.toNat : Int)]) rfl rfl ti83 rfl rfl rfl rfl rfl ?_
     refine s_nt ?_
     refine at_seq ?_
     replace hr := obind hr
     obtain ⟨x1687, h1688, hr⟩ := hr
     by_cases h1689 : x1687 = true
     ·replace hr := ipos h1689 hr
      replace hr := obind hr
      obtain ⟨x1690, h1691, hr⟩ := hr
      by_cases h1692 : x1690 = true
      ·replace hr := ipos h1692 hr
       by_cases h1693 : 0 < x1677
       ·replace hr := ipos h1693 hr
        replace hr := obind hr
        obtain ⟨x1694, h1695, hr⟩ := hr
        have := at?_lt h1695
        refine at_elem 5 rfl h1695 (fun p1696 ec pa1697 => ?_)
        refine at_open (A := Unit) 0 rfl _ _ (fun F w h => op83 h) ?_
        rintro _ rfl
        refine aa_start 26 (by kernel_rfl) ?_
        refine aa_p 0 rfl (lt_fieldAddr 0 rfl fld83_0 rfl) ?_
        refine aa_l 1 rfl (lt_load_box 0 rfl ti5 rfl rfl rfl rfl rfl) ?_
        refine aa_one 2 ?_
        refine aa_op rfl rfl ?_
        refine hv_call0 [] (f88_spec h1688) rfl rfl rfl rfl ?_
        rintro _ _ ⟨rfl, rfl⟩
        refine aa_p 3 rfl (lt_not rfl) ?_
        refine aa_p 4 rfl (lt_move rfl) ?_
        refine aa_pg 5 rfl ⟨43, rfl, .inl ⟨_, rfl, gdq (v := false) (nt h1689) rfl⟩⟩ (lt_fieldAddr 1 rfl fld83_1 rfl) ?_
        refine aa_lg 6 rfl ⟨43, rfl, .inl ⟨_, rfl, gdq (v := false) (nt h1689) rfl⟩⟩ (lt_load_box 0 rfl ti5 rfl rfl rfl rfl rfl) ?_
        refine aa_one 7 ?_
        refine aa_op rfl ⟨43, rfl, .inl ⟨_, rfl, gdq (v := false) (nt h1689) rfl⟩⟩ ?_
        refine hv_call0 [] (f88_spec h1691) rfl rfl rfl rfl ?_
        rintro _ _ ⟨rfl, rfl⟩
        refine aa_pg 8 rfl ⟨43, rfl, .inl ⟨_, rfl, gdq (v := false) (nt h1689) rfl⟩⟩ (lt_not rfl) ?_
        refine aa_p 9 rfl (lt_pick false rfl (nt h1689) rfl) ?_
        refine aa_p 10 rfl (lt_move rfl) ?_
        refine aa_pg 11 rfl ⟨49, rfl, .inl ⟨_, rfl, gdq (v := false) (nt h1692) rfl⟩⟩ (lt_move rfl) ?_
        refine aa_pg 12 rfl ⟨49, rfl, .inl ⟨_, rfl, gdq (v := false) (nt h1692) rfl⟩⟩ (lt_gtr rfl rfl) ?_
        refine aa_pg 13 rfl ⟨49, rfl, .inl ⟨_, rfl, gdq (v := false) (nt h1692) rfl⟩⟩ (lt_move rfl) ?_
        refine aa_pg 14 rfl ⟨52, rfl, .inl ⟨_, rfl, gdq (v := true) (decide_eq_true (by omega)) rfl⟩⟩ (lt_fieldAddr 0 rfl fld83_0 rfl) ?_
        refine aa_lg 15 rfl ⟨52, rfl, .inl ⟨_, rfl, gdq (v := true) (decide_eq_true (by omega)) rfl⟩⟩ (lt_load_box 0 rfl ti5 rfl rfl rfl rfl rfl) ?_
        refine aa_pg 16 rfl ⟨52, rfl, .inl ⟨_, rfl, gdq (v := true) (decide_eq_true (by omega)) rfl⟩⟩ (lt_fieldAddr 2 rfl fld50_2 rfl) ?_
        refine aa_lg 17 rfl ⟨52, rfl, .inl ⟨_, rfl, gdq (v := true) (decide_eq_true (by omega)) rfl⟩⟩ (lt_load_box 1 rfl ti48 rfl rfl rfl rfl rfl) ?_
        refine aa_pg 18 rfl ⟨52, rfl, .inl ⟨_, rfl, gdq (v := true) (decide_eq_true (by omega)) rfl⟩⟩ (lt_move rfl) ?_
        refine aa_pg 19 rfl ⟨52, rfl, .inl ⟨_, rfl, gdq (v := true) (decide_eq_true (by omega)) rfl⟩⟩ (lt_sub rfl rfl (by simp only [lo, hi]; omega)) ?_
        refine aa_pg 20 rfl ⟨52, rfl, .inl ⟨_, rfl, gdq (v := true) (decide_eq_true (by omega)) rfl⟩⟩ (lt_idx rfl rfl pa1697 und48 ti83) ?_
        refine aa_pg 21 rfl ⟨52, rfl, .inl ⟨_, rfl, gdq (v := true) (decide_eq_true (by omega)) rfl⟩⟩ (lt_fieldAddr 0 rfl fld83_0 rfl) ?_
        refine aa_lg 22 rfl ⟨52, rfl, .inl ⟨_, rfl, gdq (v := true) (decide_eq_true (by omega)) rfl⟩⟩ (lt_load_peek 1 rfl ti5 rfl rfl rfl rfl rfl) ?_
        refine aa_pg 23 rfl ⟨52, rfl, .inl ⟨_, rfl, gdq (v := true) (decide_eq_true (by omega)) rfl⟩⟩ (lt_leq rfl rfl) ?_
        refine aa_pg 24 rfl ⟨49, rfl, .inl ⟨_, rfl, gdq (v := false) (nt h1692) rfl⟩⟩ (lt_pick true rfl (decide_eq_true (by omega)) rfl) ?_
        refine aa_p 25 rfl (lt_pick false rfl (nt h1692) rfl) ?_
        refine aa_done (by kernel_rfl) (ts_in 0 0 rfl rfl) ?_
        refine at_then ?_
        by_cases h1698 : x1682.From.toNat ≤ x1694.From.toNat
        ·replace hr := ipos h1698 hr
         refine at_true rfl (decide_eq_true (by omega)) ?_
         refine s_sr ?_
         refine s_as rfl ?_
         refine s_nt ?_
         refine at_ret ?_
         have hq := oinj hr
         clear hr
         subst hq
         have hq := oinj hk1680
         clear hk1680
         subst hq
         refine at_in_ret ?_
         refine at_then_ret ?_
         refine at_then_ret ?_
         refine at_in_ret ?_
         refine at_then_ret ?_
         refine at_then_ret ?_
         exact at_return (.bool false) [] hS Tryz.results55 (.cons (.tmp rfl) .nil) rfl rfl ⟨rfl, rfl⟩
        replace hr := ineg h1698 hr
        refine at_false rfl (decide_eq_false (by omega)) ?_
        refine at_skip ?_
        refine at_in ?_
        refine s_tr ?_
        refine s_mv rfl ?_
        refine at_lt (lt_add rfl rfl (by simp only [lo, hi]; omega)) rfl ?_
        refine s_as rfl ?_
        refine at_nil ?_
        refine at_int .i64 (x1677 + 1 : Int) (by simp only [lo, hi]; omega) ?_
        exact at_again (σ := Nat) (V := Unit) (lp := fun n s => m55_l1 a0 n s) (S := fun s e => (⟨[(1, .pointer (some (Addr.add ⟨b1666, 0, none⟩ 0))), (3, .int .i64 (s : Int))], [⟨b1666, [str a0.From, str a0.To, s1665], 50⟩], [], [((Ty.int .i64).fact (s : Int) [.int .i64 (s : Int)]), (Ty.str.fact a0.From [str a0.From]), (Ty.str.fact a0.To [str a0.To]), ((Ty.slice ty83).fact a0.Codes [s1665])]⟩ : St)) (x1677 + 1) () hr ⟨⟨rfl, ⟨rfl, trivial⟩⟩, ⟨[false, true], rfl⟩, ⟨[], rfl⟩, ⟨[0, 6, 7, 8], rfl⟩⟩
       replace hr := ineg h1693 hr
       refine aa_start 26 (by kernel_rfl) ?_
       refine aa_p 0 rfl (lt_fieldAddr 0 rfl fld83_0 rfl) ?_
       refine aa_l 1 rfl (lt_load_box 0 rfl ti5 rfl rfl rfl rfl rfl) ?_
       refine aa_one 2 ?_
       refine aa_op rfl rfl ?_
       refine hv_call0 [] (f88_spec h1688) rfl rfl rfl rfl ?_
       rintro _ _ ⟨rfl, rfl⟩
       refine aa_p 3 rfl (lt_not rfl) ?_
       refine aa_p 4 rfl (lt_move rfl) ?_
       refine aa_pg 5 rfl ⟨43, rfl, .inl ⟨_, rfl, gdq (v := false) (nt h1689) rfl⟩⟩ (lt_fieldAddr 1 rfl fld83_1 rfl) ?_
       refine aa_lg 6 rfl ⟨43, rfl, .inl ⟨_, rfl, gdq (v := false) (nt h1689) rfl⟩⟩ (lt_load_box 0 rfl ti5 rfl rfl rfl rfl rfl) ?_
       refine aa_one 7 ?_
       refine aa_op rfl ⟨43, rfl, .inl ⟨_, rfl, gdq (v := false) (nt h1689) rfl⟩⟩ ?_
       refine hv_call0 [] (f88_spec h1691) rfl rfl rfl rfl ?_
       rintro _ _ ⟨rfl, rfl⟩
       refine aa_pg 8 rfl ⟨43, rfl, .inl ⟨_, rfl, gdq (v := false) (nt h1689) rfl⟩⟩ (lt_not rfl) ?_
       refine aa_p 9 rfl (lt_pick false rfl (nt h1689) rfl) ?_
       refine aa_p 10 rfl (lt_move rfl) ?_
       refine aa_pg 11 rfl ⟨49, rfl, .inl ⟨_, rfl, gdq (v := false) (nt h1692) rfl⟩⟩ (lt_move rfl) ?_
       refine aa_pg 12 rfl ⟨49, rfl, .inl ⟨_, rfl, gdq (v := false) (nt h1692) rfl⟩⟩ (lt_gtr rfl rfl) ?_
       refine aa_pg 13 rfl ⟨49, rfl, .inl ⟨_, rfl, gdq (v := false) (nt h1692) rfl⟩⟩ (lt_move rfl) ?_
       refine aa_o 14 rfl ⟨52, rfl, .inl ⟨_, rfl, gdq (v := false) (decide_eq_false (by omega)) rfl⟩⟩ ?_
       refine aa_o 15 rfl ⟨52, rfl, .inl ⟨_, rfl, gdq (v := false) (decide_eq_false (by omega)) rfl⟩⟩ ?_
       refine aa_o 16 rfl ⟨52, rfl, .inl ⟨_, rfl, gdq (v := false) (decide_eq_false (by omega)) rfl⟩⟩ ?_
       refine aa_o 17 rfl ⟨52, rfl, .inl ⟨_, rfl, gdq (v := false) (decide_eq_false (by omega)) rfl⟩⟩ ?_
       refine aa_o 18 rfl ⟨52, rfl, .inl ⟨_, rfl, gdq (v := false) (decide_eq_false (by omega)) rfl⟩⟩ ?_
       refine aa_o 19 rfl ⟨52, rfl, .inl ⟨_, rfl, gdq (v := false) (decide_eq_false (by omega)) rfl⟩⟩ ?_
       refine aa_o 20 rfl ⟨52, rfl, .inl ⟨_, rfl, gdq (v := false) (decide_eq_false (by omega)) rfl⟩⟩ ?_
       refine aa_o 21 rfl ⟨52, rfl, .inl ⟨_, rfl, gdq (v := false) (decide_eq_false (by omega)) rfl⟩⟩ ?_
       refine aa_o 22 rfl ⟨52, rfl, .inl ⟨_, rfl, gdq (v := false) (decide_eq_false (by omega)) rfl⟩⟩ ?_
       refine aa_o 23 rfl ⟨52, rfl, .inl ⟨_, rfl, gdq (v := false) (decide_eq_false (by omega)) rfl⟩⟩ ?_
       refine aa_pg 24 rfl ⟨49, rfl, .inl ⟨_, rfl, gdq (v := false) (nt h1692) rfl⟩⟩ (lt_pick false rfl (decide_eq_false (by omega)) rfl) ?_
       refine aa_p 25 rfl (lt_pick false rfl (nt h1692) rfl) ?_
       refine aa_done (by kernel_rfl) (ts_in 0 0 rfl rfl) ?_
       refine at_then ?_
       refine at_false rfl rfl ?_
       refine at_skip ?_
       refine at_in ?_
       refine s_tr ?_
       refine s_mv rfl ?_
       refine at_lt (lt_add rfl rfl (by simp only [lo, hi]; omega)) rfl ?_
       refine s_as rfl ?_
       refine at_nil ?_
       refine at_int .i64 (x1677 + 1 : Int) (by simp only [lo, hi]; omega) ?_
       exact at_again (σ := Nat) (V := Unit) (lp := fun n s => m55_l1 a0 n s) (S := fun s e => (⟨[(1, .pointer (some (Addr.add ⟨b1666, 0, none⟩ 0))), (3, .int .i64 (s : Int))], [⟨b1666, [str a0.From, str a0.To, s1665], 50⟩], [], [((Ty.int .i64).fact (s : Int) [.int .i64 (s : Int)]), (Ty.str.fact a0.From [str a0.From]), (Ty.str.fact a0.To [str a0.To]), ((Ty.slice ty83).fact a0.Codes [s1665])]⟩ : St)) (x1677 + 1) () hr ⟨⟨rfl, ⟨rfl, trivial⟩⟩, ⟨[false, true], rfl⟩, ⟨[], rfl⟩, ⟨[0, 4, 5, 6], rfl⟩⟩
      replace hr := ineg h1692 hr
      refine aa_start 26 (by kernel_rfl) ?_
      refine aa_p 0 rfl (lt_fieldAddr 0 rfl fld83_0 rfl) ?_
      refine aa_l 1 rfl (lt_load_box 0 rfl ti5 rfl rfl rfl rfl rfl) ?_
      refine aa_one 2 ?_
      refine aa_op rfl rfl ?_
      refine hv_call0 [] (f88_spec h1688) rfl rfl rfl rfl ?_
      rintro _ _ ⟨rfl, rfl⟩
      refine aa_p 3 rfl (lt_not rfl) ?_
      refine aa_p 4 rfl (lt_move rfl) ?_
      refine aa_pg 5 rfl ⟨43, rfl, .inl ⟨_, rfl, gdq (v := false) (nt h1689) rfl⟩⟩ (lt_fieldAddr 1 rfl fld83_1 rfl) ?_
      refine aa_lg 6 rfl ⟨43, rfl, .inl ⟨_, rfl, gdq (v := false) (nt h1689) rfl⟩⟩ (lt_load_box 0 rfl ti5 rfl rfl rfl rfl rfl) ?_
      refine aa_one 7 ?_
      refine aa_op rfl ⟨43, rfl, .inl ⟨_, rfl, gdq (v := false) (nt h1689) rfl⟩⟩ ?_
      refine hv_call0 [] (f88_spec h1691) rfl rfl rfl rfl ?_
      rintro _ _ ⟨rfl, rfl⟩
      refine aa_pg 8 rfl ⟨43, rfl, .inl ⟨_, rfl, gdq (v := false) (nt h1689) rfl⟩⟩ (lt_not rfl) ?_
      refine aa_p 9 rfl (lt_pick false rfl (nt h1689) rfl) ?_
      refine aa_p 10 rfl (lt_move rfl) ?_
      refine aa_o 11 rfl ⟨49, rfl, .inl ⟨_, rfl, gdq (v := true) (nf (bf h1692)) rfl⟩⟩ ?_
      refine aa_o 12 rfl ⟨49, rfl, .inl ⟨_, rfl, gdq (v := true) (nf (bf h1692)) rfl⟩⟩ ?_
      refine aa_o 13 rfl ⟨49, rfl, .inl ⟨_, rfl, gdq (v := true) (nf (bf h1692)) rfl⟩⟩ ?_
      refine aa_o 14 rfl ⟨52, rfl, .inr ⟨rfl, rfl⟩⟩ ?_
      refine aa_o 15 rfl ⟨52, rfl, .inr ⟨rfl, rfl⟩⟩ ?_
      refine aa_o 16 rfl ⟨52, rfl, .inr ⟨rfl, rfl⟩⟩ ?_
      refine aa_o 17 rfl ⟨52, rfl, .inr ⟨rfl, rfl⟩⟩ ?_
      refine aa_o 18 rfl ⟨52, rfl, .inr ⟨rfl, rfl⟩⟩ ?_
      refine aa_o 19 rfl ⟨52, rfl, .inr ⟨rfl, rfl⟩⟩ ?_
      refine aa_o 20 rfl ⟨52, rfl, .inr ⟨rfl, rfl⟩⟩ ?_
      refine aa_o 21 rfl ⟨52, rfl, .inr ⟨rfl, rfl⟩⟩ ?_
      refine aa_o 22 rfl ⟨52, rfl, .inr ⟨rfl, rfl⟩⟩ ?_
      refine aa_o 23 rfl ⟨52, rfl, .inr ⟨rfl, rfl⟩⟩ ?_
      refine aa_o 24 rfl ⟨49, rfl, .inl ⟨_, rfl, gdq (v := true) (nf (bf h1692)) rfl⟩⟩ ?_
      refine aa_p 25 rfl (lt_pick true rfl (nf (bf h1692)) rfl) ?_
      refine aa_done (by kernel_rfl) (ts_in 0 0 rfl rfl) ?_
      refine at_then ?_
      refine at_true rfl rfl ?_
      refine s_sr ?_
      refine s_as rfl ?_
      refine s_nt ?_
      refine at_ret ?_
      have hq := oinj hr
      clear hr
      subst hq
      have hq := oinj hk1680
      clear hk1680
      subst hq
      refine at_in_ret ?_
      refine at_then_ret ?_
      refine at_then_ret ?_
      refine at_in_ret ?_
      refine at_then_ret ?_
      refine at_then_ret ?_
      exact at_return (.bool false) [] hS Tryz.results55 (.cons (.tmp rfl) .nil) rfl rfl ⟨rfl, rfl⟩
     replace hr := ineg h1689 hr
     refine aa_start 26 (by kernel_rfl) ?_
     refine aa_p 0 rfl (lt_fieldAddr 0 rfl fld83_0 rfl) ?_
     refine aa_l 1 rfl (lt_load_box 0 rfl ti5 rfl rfl rfl rfl rfl) ?_
     refine aa_one 2 ?_
     refine aa_op rfl rfl ?_
     refine hv_call0 [] (f88_spec h1688) rfl rfl rfl rfl ?_
     rintro _ _ ⟨rfl, rfl⟩
     refine aa_p 3 rfl (lt_not rfl) ?_
     refine aa_p 4 rfl (lt_move rfl) ?_
     refine aa_o 5 rfl ⟨43, rfl, .inl ⟨_, rfl, gdq (v := true) (nf (bf h1689)) rfl⟩⟩ ?_
     refine aa_o 6 rfl ⟨43, rfl, .inl ⟨_, rfl, gdq (v := true) (nf (bf h1689)) rfl⟩⟩ ?_
     refine aa_o 7 rfl ⟨43, rfl, .inl ⟨_, rfl, gdq (v := true) (nf (bf h1689)) rfl⟩⟩ ?_
     refine aa_o 8 rfl ⟨43, rfl, .inl ⟨_, rfl, gdq (v := true) (nf (bf h1689)) rfl⟩⟩ ?_
     refine aa_p 9 rfl (lt_pick true rfl (nf (bf h1689)) rfl) ?_
     refine aa_p 10 rfl (lt_move rfl) ?_
     refine aa_o 11 rfl ⟨49, rfl, .inl ⟨_, rfl, gdq (v := true) rfl rfl⟩⟩ ?_
     refine aa_o 12 rfl ⟨49, rfl, .inl ⟨_, rfl, gdq (v := true) rfl rfl⟩⟩ ?_
     refine aa_o 13 rfl ⟨49, rfl, .inl ⟨_, rfl, gdq (v := true) rfl rfl⟩⟩ ?_
     refine aa_o 14 rfl ⟨52, rfl, .inr ⟨rfl, rfl⟩⟩ ?_
     refine aa_o 15 rfl ⟨52, rfl, .inr ⟨rfl, rfl⟩⟩ ?_
     refine aa_o 16 rfl ⟨52, rfl, .inr ⟨rfl, rfl⟩⟩ ?_
     refine aa_o 17 rfl ⟨52, rfl, .inr ⟨rfl, rfl⟩⟩ ?_
     refine aa_o 18 rfl ⟨52, rfl, .inr ⟨rfl, rfl⟩⟩ ?_
     refine aa_o 19 rfl ⟨52, rfl, .inr ⟨rfl, rfl⟩⟩ ?_
     refine aa_o 20 rfl ⟨52, rfl, .inr ⟨rfl, rfl⟩⟩ ?_
     refine aa_o 21 rfl ⟨52, rfl, .inr ⟨rfl, rfl⟩⟩ ?_
     refine aa_o 22 rfl ⟨52, rfl, .inr ⟨rfl, rfl⟩⟩ ?_
     refine aa_o 23 rfl ⟨52, rfl, .inr ⟨rfl, rfl⟩⟩ ?_
     refine aa_o 24 rfl ⟨49, rfl, .inl ⟨_, rfl, gdq (v := true) rfl rfl⟩⟩ ?_
     refine aa_p 25 rfl (lt_pick true rfl rfl rfl) ?_
     refine aa_done (by kernel_rfl) (ts_in 0 0 rfl rfl) ?_
     refine at_then ?_
     refine at_true rfl rfl ?_
     refine s_sr ?_
     refine s_as rfl ?_
     refine s_nt ?_
     refine at_ret ?_
     have hq := oinj hr
     clear hr
     subst hq
     have hq := oinj hk1680
     clear hk1680
     subst hq
     refine at_in_ret ?_
     refine at_then_ret ?_
     refine at_then_ret ?_
     refine at_in_ret ?_
     refine at_then_ret ?_
     refine at_then_ret ?_
     exact at_return (.bool false) [] hS Tryz.results55 (.cons (.tmp rfl) .nil) rfl rfl ⟨rfl, rfl⟩
    replace hr := ineg h1681 hr
    refine at_false rfl (decide_eq_false (by omega)) ?_
    refine at_exit ?_
    refine at_then_exit ?_
    refine at_then_exit ?_
    refine at_in_exit ?_
    have hq := oinj hr
    clear hr
    subst hq
    exact at_leafP ((), ()) rfl ⟨trivial, ⟨[false], rfl⟩, ⟨[], rfl⟩, ⟨[], rfl⟩⟩
   rintro ⟨_, _⟩ hp
   replace hr := hk1680
   subst hp
   clear hl1679
   change At _ _ (⟨[], [], [], []⟩ : St) _
   refine s_tsr ?_
   refine s_as rfl ?_
   refine s_nt ?_
   refine at_ret ?_
   have hq := oinj hr
   clear hr
   subst hq
   exact at_return (.bool true) [] hS Tryz.results55 (.cons (.tmp rfl) .nil) rfl rfl ⟨rfl, rfl⟩
  replace hr := ineg h1672 hr
  refine at_off rfl rfl (nf (bf h1672)) rfl ?_
  refine at_off rfl rfl (nf (bf h1672)) rfl ?_
  refine at_off rfl rfl (nf (bf h1672)) rfl ?_
  refine at_off rfl rfl (nf (bf h1672)) rfl ?_
  refine at_lt (lt_pick true rfl (nf (bf h1672)) rfl) rfl ?_
  refine s_mv rfl ?_
  refine at_off rfl rfl rfl rfl ?_
  refine at_off rfl rfl rfl rfl ?_
  refine at_off rfl rfl rfl rfl ?_
  refine at_off rfl rfl rfl rfl ?_
  refine at_lt (lt_pick true rfl rfl rfl) rfl ?_
  refine s_nt ?_
  refine at_true rfl rfl ?_
  refine s_sr ?_
  refine s_as rfl ?_
  refine s_nt ?_
  refine at_ret ?_
  have hq := oinj hr
  clear hr
  subst hq
  refine at_then_ret ?_
  exact at_return (.bool false) [] hS Tryz.results55 (.cons (.tmp rfl) .nil) rfl rfl ⟨rfl, rfl⟩
 replace hr := ineg h1669 hr
 refine at_off rfl rfl (nf (bf h1669)) rfl ?_
 refine at_off rfl rfl (nf (bf h1669)) rfl ?_
 refine at_off rfl rfl (nf (bf h1669)) rfl ?_
 refine at_off rfl rfl (nf (bf h1669)) rfl ?_
 refine at_lt (lt_pick true rfl (nf (bf h1669)) rfl) rfl ?_
 refine s_mv rfl ?_
 refine at_off rfl rfl rfl rfl ?_
 refine at_off rfl rfl rfl rfl ?_
 refine at_off rfl rfl rfl rfl ?_
 refine at_off rfl rfl rfl rfl ?_
 refine at_lt (lt_pick true rfl rfl rfl) rfl ?_
 refine s_mv rfl ?_
 refine at_off rfl rfl rfl rfl ?_
 refine at_off rfl rfl rfl rfl ?_
 refine at_off rfl rfl rfl rfl ?_
 refine at_off rfl rfl rfl rfl ?_
 refine at_lt (lt_pick true rfl rfl rfl) rfl ?_
 refine s_nt ?_
 refine at_true rfl rfl ?_
 refine s_sr ?_
 refine s_as rfl ?_
 refine s_nt ?_
 refine at_ret ?_
 have hq := oinj hr
 clear hr
 subst hq
 refine at_then_ret ?_
 exact at_return (.bool false) [] hS Tryz.results55 (.cons (.tmp rfl) .nil) rfl rfl ⟨rfl, rfl⟩
/-! 24 bookplate/bookplateref16.Valid -/
def m24_l1 (a0 : (List D_ref16_Entry)) : Nat → Nat → Option (Fl Bool Unit)
  | 0, _ => none
  | k + 1, x1700 =>
    if x1700 < a0.length then
     (a0[x1700]?).bind fun x1707 =>
     (m55 x1707).bind fun x1712 =>
     if x1712 = true then
      if 0 < x1700 then
       (a0[x1700]?).bind fun x1716 =>
       (at? a0 ((x1700 : Int) - 1)).bind fun x1721 =>
       if (Op.bytesLess x1721.From x1716.From) = true then
        m24_l1 a0 k (x1700 + 1)
       else
        some (Fl.ret false)
      else
       m24_l1 a0 k (x1700 + 1)
     else
      some (Fl.ret false)
    else
     some (Fl.go ())
def m24 (a0 : (List D_ref16_Entry)) : Option Bool :=
  (m24_l1 a0 (a0.length + 1) 0).bind fun r => match r with
  | .ret x => some x
  | .go _ =>
   some (decide ((a0.length : Int) ≤ 60))
def post24 (r : Bool) (v : Value) (fs : List Fact) : Prop := v = .bool r ∧ fs = []
theorem en24 : Enters Tryz.prog 24 := ⟨_, Tryz.func24, by kernel_rfl, rfl⟩
theorem f24_spec {a0 : (List D_ref16_Entry)} {w1699 : Value} {r : Bool} (hr : m24 a0 = some r) : Spec Tryz.prog 24 [w1699] [((Ty.slice ty50).fact a0 [w1699])] (post24 r) := by
 refine spec_start (N := 37) Tryz.func24 (by kernel_rfl) rfl rfl rfl ?_
 intro g hS
 unfold m24 at hr
 refine s_sr ?_
 refine s_as rfl ?_
 refine s_nt ?_
 refine at_seq ?_
 refine s_sr ?_
 refine s_as rfl ?_
 refine s_nt ?_
 refine at_int .i64 0 (by simp only [lo, hi]; omega) ?_
 replace hr := obind hr
 obtain ⟨r1701, hl1702, hk1703⟩ := hr
 refine at_cutP (V := (Unit) × (Unit)) (fun v => r1701 = Fl.go v.1) (fun v => (⟨[(0, w1699)], [], [], [((Ty.slice ty50).fact a0 [w1699])]⟩ : St)) ?_ ?_
 ·refine at_block ?_
  refine at_loopW (σ := Nat) (V := Unit) (r := r1701) (fun n s => m24_l1 a0 n s) (fun s e => (⟨[(0, w1699), (3, .int .i64 (s : Int))], [], [], [((Ty.int .i64).fact (s : Int) [.int .i64 (s : Int)]), ((Ty.slice ty50).fact a0 [w1699])]⟩ : St)) (fun _ => rfl) _ 0 () hl1702 ⟨⟨rfl, ⟨rfl, trivial⟩⟩, ⟨[], rfl⟩, ⟨[], rfl⟩, ⟨[0, 1], rfl⟩⟩ ?_
  clear hl1702
  intro n x1700 hr e
  skip
  skip
  change m24_l1 a0 (n + 1) x1700 = some r1701 at hr
  change At _ _ (⟨[(0, w1699), (3, .int .i64 (x1700 : Int))], [], [], [((Ty.int .i64).fact (x1700 : Int) [.int .i64 (x1700 : Int)]), ((Ty.slice ty50).fact a0 [w1699])]⟩ : St) _
  rw [m24_l1] at hr
  refine at_seq ?_
  refine s_sr ?_
  refine s_mv rfl ?_
  refine s_mv rfl ?_
  refine at_inv 1 rfl (fun i1704 => ?_)
  have l1705 := slice_len i1704
  refine at_lt (lt_flen 1 rfl rfl und22) rfl ?_
  refine at_lt (lt_lss rfl rfl) rfl ?_
  refine s_nt ?_
  by_cases h1706 : x1700 < a0.length
  ·replace hr := ipos h1706 hr
   refine at_true rfl (decide_eq_true (by omega)) ?_
   refine at_skip ?_
   refine at_then ?_
   refine at_seq ?_
   refine at_block ?_
   refine at_seq ?_
   replace hr := obind hr
   obtain ⟨x1707, h1708, hr⟩ := hr
   have := (List.getElem?_eq_some_iff.1 h1708).1
   refine at_elem 1 rfl (nat_at' h1708) (fun p1710 ec pa1711 => ?_)
   refine at_open (A := Value) 0 rfl _ _ (fun F w h => op50 h) ?_
   rintro s1709 rfl
   replace hr := obind hr
   obtain ⟨x1712, h1713, hr⟩ := hr
   by_cases h1714 : x1712 = true
   ·replace hr := ipos h1714 hr
    by_cases h1715 : 0 < x1700
    ·replace hr := ipos h1715 hr
     replace hr := obind hr
     obtain ⟨x1716, h1717, hr⟩ := hr
     have := (List.getElem?_eq_some_iff.1 h1717).1
     refine at_elem 6 rfl (nat_at' h1717) (fun p1719 ec pa1720 => ?_)
     refine at_open (A := Value) 0 rfl _ _ (fun F w h => op50 h) ?_
     rintro s1718 rfl
     replace hr := obind hr
     obtain ⟨x1721, h1722, hr⟩ := hr
     have := at?_lt h1722
     refine at_elem 11 rfl h1722 (fun p1724 ec pa1725 => ?_)
     refine at_open (A := Value) 0 rfl _ _ (fun F w h => op50 h) ?_
     rintro s1723 rfl
     refine aa_start 24 (by kernel_rfl) ?_
     refine aa_p 0 rfl (lt_move rfl) ?_
     refine aa_p 1 rfl (lt_move rfl) ?_
     refine aa_p 2 rfl (lt_idx rfl rfl pa1711 und22 ti50) ?_
     refine aa_l 3 rfl (lt_load_peek 14 rfl ti50 rfl rfl rfl rfl rfl) ?_
     refine aa_one 4 ?_
     refine aa_op rfl rfl ?_
     refine hv_call0 [13] (f55_spec h1713) rfl rfl rfl rfl ?_
     rintro _ _ ⟨rfl, rfl⟩
     refine aa_p 5 rfl (lt_not rfl) ?_
     refine aa_p 6 rfl (lt_move rfl) ?_
     refine aa_pg 7 rfl ⟨16, rfl, .inl ⟨_, rfl, gdq (v := false) (nt h1714) rfl⟩⟩ (lt_move rfl) ?_
     refine aa_pg 8 rfl ⟨16, rfl, .inl ⟨_, rfl, gdq (v := false) (nt h1714) rfl⟩⟩ (lt_gtr rfl rfl) ?_
     refine aa_pg 9 rfl ⟨16, rfl, .inl ⟨_, rfl, gdq (v := false) (nt h1714) rfl⟩⟩ (lt_move rfl) ?_
     refine aa_pg 10 rfl ⟨19, rfl, .inl ⟨_, rfl, gdq (v := true) (decide_eq_true (by omega)) rfl⟩⟩ (lt_move rfl) ?_
     refine aa_pg 11 rfl ⟨19, rfl, .inl ⟨_, rfl, gdq (v := true) (decide_eq_true (by omega)) rfl⟩⟩ (lt_move rfl) ?_
     refine aa_pg 12 rfl ⟨19, rfl, .inl ⟨_, rfl, gdq (v := true) (decide_eq_true (by omega)) rfl⟩⟩ (lt_idx rfl rfl pa1720 und22 ti50) ?_
     refine aa_pg 13 rfl ⟨19, rfl, .inl ⟨_, rfl, gdq (v := true) (decide_eq_true (by omega)) rfl⟩⟩ (lt_fieldAddr 0 rfl fld50_0 rfl) ?_
     refine aa_lg 14 rfl ⟨19, rfl, .inl ⟨_, rfl, gdq (v := true) (decide_eq_true (by omega)) rfl⟩⟩ (lt_load_peek 9 rfl ti9 rfl rfl rfl rfl rfl) ?_
     refine aa_pg 15 rfl ⟨19, rfl, .inl ⟨_, rfl, gdq (v := true) (decide_eq_true (by omega)) rfl⟩⟩ (lt_move rfl) ?_
     refine aa_pg 16 rfl ⟨19, rfl, .inl ⟨_, rfl, gdq (v := true) (decide_eq_true (by omega)) rfl⟩⟩ (lt_move rfl) ?_
     refine aa_pg 17 rfl ⟨19, rfl, .inl ⟨_, rfl, gdq (v := true) (decide_eq_true (by omega)) rfl⟩⟩ (lt_sub rfl rfl (by simp only [lo, hi]; omega)) ?_
     refine aa_pg 18 rfl ⟨19, rfl, .inl ⟨_, rfl, gdq (v := true) (decide_eq_true (by omega)) rfl⟩⟩ (lt_idx rfl rfl pa1725 und22 ti50) ?_
     refine aa_pg 19 rfl ⟨19, rfl, .inl ⟨_, rfl, gdq (v := true) (decide_eq_true (by omega)) rfl⟩⟩ (lt_fieldAddr 0 rfl fld50_0 rfl) ?_
     refine aa_lg 20 rfl ⟨19, rfl, .inl ⟨_, rfl, gdq (v := true) (decide_eq_true (by omega)) rfl⟩⟩ (lt_load_peek 4 rfl ti9 rfl rfl rfl rfl rfl) ?_
     refine aa_pg 21 rfl ⟨19, rfl, .inl ⟨_, rfl, gdq (v := true) (decide_eq_true (by omega)) rfl⟩⟩ (lt_sleq rfl rfl) ?_
     refine aa_pg 22 rfl ⟨16, rfl, .inl ⟨_, rfl, gdq (v := false) (nt h1714) rfl⟩⟩ (lt_pick true rfl (decide_eq_true (by omega)) rfl) ?_
     refine aa_p 23 rfl (lt_pick false rfl (nt h1714) rfl) ?_
     refine aa_done (by kernel_rfl) (ts_in 0 0 rfl rfl) ?_
     refine at_then ?_
     by_cases h1726 : (Op.bytesLess x1721.From x1716.From) = true
     ·replace hr := ipos h1726 hr
      refine at_false rfl (nt h1726) ?_
      refine at_skip ?_
      refine at_in ?_
      refine s_tr ?_
      refine s_mv rfl ?_
      refine at_lt (lt_add rfl rfl (by simp only [lo, hi]; omega)) rfl ?_
      refine s_as rfl ?_
      refine at_nil ?_
      refine at_int .i64 (x1700 + 1 : Int) (by simp only [lo, hi]; omega) ?_
      exact at_again (σ := Nat) (V := Unit) (lp := fun n s => m24_l1 a0 n s) (S := fun s e => (⟨[(0, w1699), (3, .int .i64 (s : Int))], [], [], [((Ty.int .i64).fact (s : Int) [.int .i64 (s : Int)]), ((Ty.slice ty50).fact a0 [w1699])]⟩ : St)) (x1700 + 1) () hr ⟨⟨rfl, ⟨rfl, trivial⟩⟩, ⟨[], rfl⟩, ⟨[], rfl⟩, ⟨[0, 17], rfl⟩⟩
     replace hr := ineg h1726 hr
     refine at_true rfl (nf (bf h1726)) ?_
     refine s_sr ?_
     refine s_as rfl ?_
     refine s_nt ?_
     refine at_ret ?_
     have hq := oinj hr
     clear hr
     subst hq
     have hq := oinj hk1703
     clear hk1703
     subst hq
     refine at_in_ret ?_
     refine at_then_ret ?_
     refine at_then_ret ?_
     refine at_in_ret ?_
     refine at_then_ret ?_
     refine at_then_ret ?_
     exact at_return (.bool false) [] hS Tryz.results24 (.cons (.tmp rfl) .nil) rfl rfl ⟨rfl, rfl⟩
    replace hr := ineg h1715 hr
    refine aa_start 24 (by kernel_rfl) ?_
    refine aa_p 0 rfl (lt_move rfl) ?_
    refine aa_p 1 rfl (lt_move rfl) ?_
    refine aa_p 2 rfl (lt_idx rfl rfl pa1711 und22 ti50) ?_
    refine aa_l 3 rfl (lt_load_peek 4 rfl ti50 rfl rfl rfl rfl rfl) ?_
    refine aa_one 4 ?_
    refine aa_op rfl rfl ?_
    refine hv_call0 [3] (f55_spec h1713) rfl rfl rfl rfl ?_
    rintro _ _ ⟨rfl, rfl⟩
    refine aa_p 5 rfl (lt_not rfl) ?_
    refine aa_p 6 rfl (lt_move rfl) ?_
    refine aa_pg 7 rfl ⟨16, rfl, .inl ⟨_, rfl, gdq (v := false) (nt h1714) rfl⟩⟩ (lt_move rfl) ?_
    refine aa_pg 8 rfl ⟨16, rfl, .inl ⟨_, rfl, gdq (v := false) (nt h1714) rfl⟩⟩ (lt_gtr rfl rfl) ?_
    refine aa_pg 9 rfl ⟨16, rfl, .inl ⟨_, rfl, gdq (v := false) (nt h1714) rfl⟩⟩ (lt_move rfl) ?_
    refine aa_o 10 rfl ⟨19, rfl, .inl ⟨_, rfl, gdq (v := false) (decide_eq_false (by omega)) rfl⟩⟩ ?_
    refine aa_o 11 rfl ⟨19, rfl, .inl ⟨_, rfl, gdq (v := false) (decide_eq_false (by omega)) rfl⟩⟩ ?_
    refine aa_o 12 rfl ⟨19, rfl, .inl ⟨_, rfl, gdq (v := false) (decide_eq_false (by omega)) rfl⟩⟩ ?_
    refine aa_o 13 rfl ⟨19, rfl, .inl ⟨_, rfl, gdq (v := false) (decide_eq_false (by omega)) rfl⟩⟩ ?_
    refine aa_o 14 rfl ⟨19, rfl, .inl ⟨_, rfl, gdq (v := false) (decide_eq_false (by omega)) rfl⟩⟩ ?_
    refine aa_o 15 rfl ⟨19, rfl, .inl ⟨_, rfl, gdq (v := false) (decide_eq_false (by omega)) rfl⟩⟩ ?_
    refine aa_o 16 rfl ⟨19, rfl, .inl ⟨_, rfl, gdq (v := false) (decide_eq_false (by omega)) rfl⟩⟩ ?_
    refine aa_o 17 rfl ⟨19, rfl, .inl ⟨_, rfl, gdq (v := false) (decide_eq_false (by omega)) rfl⟩⟩ ?_
    refine aa_o 18 rfl ⟨19, rfl, .inl ⟨_, rfl, gdq (v := false) (decide_eq_false (by omega)) rfl⟩⟩ ?_
    refine aa_o 19 rfl ⟨19, rfl, .inl ⟨_, rfl, gdq (v := false) (decide_eq_false (by omega)) rfl⟩⟩ ?_
    refine aa_o 20 rfl ⟨19, rfl, .inl ⟨_, rfl, gdq (v := false) (decide_eq_false (by omega)) rfl⟩⟩ ?_
    refine aa_o 21 rfl ⟨19, rfl, .inl ⟨_, rfl, gdq (v := false) (decide_eq_false (by omega)) rfl⟩⟩ ?_
    refine aa_pg 22 rfl ⟨16, rfl, .inl ⟨_, rfl, gdq (v := false) (nt h1714) rfl⟩⟩ (lt_pick false rfl (decide_eq_false (by omega)) rfl) ?_
    refine aa_p 23 rfl (lt_pick false rfl (nt h1714) rfl) ?_
    refine aa_done (by kernel_rfl) (ts_in 0 0 rfl rfl) ?_
    refine at_then ?_
    refine at_false rfl rfl ?_
    refine at_skip ?_
    refine at_in ?_
    refine s_tr ?_
    refine s_mv rfl ?_
    refine at_lt (lt_add rfl rfl (by simp only [lo, hi]; omega)) rfl ?_
    refine s_as rfl ?_
    refine at_nil ?_
    refine at_int .i64 (x1700 + 1 : Int) (by simp only [lo, hi]; omega) ?_
    exact at_again (σ := Nat) (V := Unit) (lp := fun n s => m24_l1 a0 n s) (S := fun s e => (⟨[(0, w1699), (3, .int .i64 (s : Int))], [], [], [((Ty.int .i64).fact (s : Int) [.int .i64 (s : Int)]), ((Ty.slice ty50).fact a0 [w1699])]⟩ : St)) (x1700 + 1) () hr ⟨⟨rfl, ⟨rfl, trivial⟩⟩, ⟨[], rfl⟩, ⟨[], rfl⟩, ⟨[0, 7], rfl⟩⟩
   replace hr := ineg h1714 hr
   refine aa_start 24 (by kernel_rfl) ?_
   refine aa_p 0 rfl (lt_move rfl) ?_
   refine aa_p 1 rfl (lt_move rfl) ?_
   refine aa_p 2 rfl (lt_idx rfl rfl pa1711 und22 ti50) ?_
   refine aa_l 3 rfl (lt_load_peek 4 rfl ti50 rfl rfl rfl rfl rfl) ?_
   refine aa_one 4 ?_
   refine aa_op rfl rfl ?_
   refine hv_call0 [3] (f55_spec h1713) rfl rfl rfl rfl ?_
   rintro _ _ ⟨rfl, rfl⟩
   refine aa_p 5 rfl (lt_not rfl) ?_
   refine aa_p 6 rfl (lt_move rfl) ?_
   refine aa_o 7 rfl ⟨16, rfl, .inl ⟨_, rfl, gdq (v := true) (nf (bf h1714)) rfl⟩⟩ ?_
   refine aa_o 8 rfl ⟨16, rfl, .inl ⟨_, rfl, gdq (v := true) (nf (bf h1714)) rfl⟩⟩ ?_
   refine aa_o 9 rfl ⟨16, rfl, .inl ⟨_, rfl, gdq (v := true) (nf (bf h1714)) rfl⟩⟩ ?_
   refine aa_o 10 rfl ⟨19, rfl, .inr ⟨rfl, rfl⟩⟩ ?_
   refine aa_o 11 rfl ⟨19, rfl, .inr ⟨rfl, rfl⟩⟩ ?_
   refine aa_o 12 rfl ⟨19, rfl, .inr ⟨rfl, rfl⟩⟩ ?_
   refine aa_o 13 rfl ⟨19, rfl, .inr ⟨rfl, rfl⟩⟩ ?_
   refine aa_o 14 rfl ⟨19, rfl, .inr ⟨rfl, rfl⟩⟩ ?_
   refine aa_o 15 rfl ⟨19, rfl, .inr ⟨rfl, rfl⟩⟩ ?_
   refine aa_o 16 rfl ⟨19, rfl, .inr ⟨rfl, rfl⟩⟩ ?_
   refine aa_o 17 rfl ⟨19, rfl, .inr ⟨rfl, rfl⟩⟩ ?_
   refine aa_o 18 rfl ⟨19, rfl, .inr ⟨rfl, rfl⟩⟩ ?_
   refine aa_o 19 rfl ⟨19, rfl, .inr ⟨rfl, rfl⟩⟩ ?_
   refine aa_o 20 rfl ⟨19, rfl, .inr ⟨rfl, rfl⟩⟩ ?_
   refine aa_o 21 rfl ⟨19, rfl, .inr ⟨rfl, rfl⟩⟩ ?_
   refine aa_o 22 rfl ⟨16, rfl, .inl ⟨_, rfl, gdq (v := true) (nf (bf h1714)) rfl⟩⟩ ?_
   refine aa_p 23 rfl (lt_pick true rfl (nf (bf h1714)) rfl) ?_
   refine aa_done (by kernel_rfl) (ts_in 0 0 rfl rfl) ?_
   refine at_then ?_
   refine at_true rfl rfl ?_
   refine s_sr ?_
   refine s_as rfl ?_
   refine s_nt ?_
   refine at_ret ?_
   have hq := oinj hr
   clear hr
   subst hq
   have hq := oinj hk1703
   clear hk1703
   subst hq
   refine at_in_ret ?_
   refine at_then_ret ?_
   refine at_then_ret ?_
   refine at_in_ret ?_
   refine at_then_ret ?_
   refine at_then_ret ?_
   exact at_return (.bool false) [] hS Tryz.results24 (.cons (.tmp rfl) .nil) rfl rfl ⟨rfl, rfl⟩
  replace hr := ineg h1706 hr
  refine at_false rfl (decide_eq_false (by omega)) ?_
  refine at_exit ?_
  refine at_then_exit ?_
  refine at_then_exit ?_
  refine at_in_exit ?_
  have hq := oinj hr
  clear hr
  subst hq
  exact at_leafP ((), ()) rfl ⟨⟨rfl, trivial⟩, ⟨[], rfl⟩, ⟨[], rfl⟩, ⟨[1], rfl⟩⟩
 rintro ⟨_, _⟩ hp
 replace hr := hk1703
 subst hp
 clear hl1702
 change At _ _ (⟨[(0, w1699)], [], [], [((Ty.slice ty50).fact a0 [w1699])]⟩ : St) _
 refine s_tsr ?_
 refine s_mv rfl ?_
 refine at_inv 0 rfl (fun i1727 => ?_)
 have l1728 := slice_len i1727
 refine at_lt (lt_flen 0 rfl rfl und22) rfl ?_
 refine at_lt (lt_leq rfl rfl) rfl ?_
 refine s_as rfl ?_
 refine s_nt ?_
 refine at_ret ?_
 have hq := oinj hr
 clear hr
 subst hq
 exact at_return (.bool (decide ((a0.length : Int) ≤ 60))) [] hS Tryz.results24 (.cons (.tmp rfl) .nil) rfl rfl ⟨rfl, rfl⟩
/-! 152 bookplate/bookplateref04.at -/
def m152 (a0 : Str) (a1 : Int) : Option (Int × Int) :=
  (at? a0 a1).bind fun c1730 =>
  if c1730.toNat < 128 then
   some ((c1730.toNat : Int), 1)
  else
   Option.bind (α := Bool) (
    if 194 ≤ c1730.toNat then
     if c1730.toNat < 224 then
      if IntKind.i64.wrap (a1 + 1) < (a0.length : Int) then
       (at? a0 (IntKind.i64.wrap (a1 + 1))).bind fun c1739 =>
       some (decide (Int.fdiv (c1739.toNat : Int) (2 ^ (min 6 8)) = 2))
      else
       some false
     else
      some false
    else
     some false
   ) fun x1733 =>
   if x1733 = true then
    (at? a0 (IntKind.i64.wrap (a1 + 1))).bind fun c1742 =>
    some (IntKind.i64.wrap ((IntKind.i64.wrap (((c1730.toNat : Int) - 192) * 64)) + ((w8 ((c1742.toNat : Int) - 128)).toNat : Int)), 2)
   else
    Option.bind (α := Bool) (
     if 224 ≤ c1730.toNat then
      if c1730.toNat < 240 then
       if IntKind.i64.wrap (a1 + 2) < (a0.length : Int) then
        (at? a0 (IntKind.i64.wrap (a1 + 1))).bind fun c1750 =>
        if Int.fdiv (c1750.toNat : Int) (2 ^ (min 6 8)) = 2 then
         (at? a0 (IntKind.i64.wrap (a1 + 2))).bind fun c1753 =>
         some (decide (Int.fdiv (c1753.toNat : Int) (2 ^ (min 6 8)) = 2))
        else
         some false
       else
        some false
      else
       some false
     else
      some false
    ) fun x1744 =>
    if x1744 = true then
     (at? a0 (IntKind.i64.wrap (a1 + 1))).bind fun c1756 =>
     if (w8 ((c1756.toNat : Int) - 128)).toNat * 64 ≤ 9223372036854775807 then
      (at? a0 (IntKind.i64.wrap (a1 + 2))).bind fun c1759 =>
      if (2048 : Int) ≤ IntKind.i64.wrap ((IntKind.i64.wrap ((IntKind.i64.wrap (((c1730.toNat : Int) - 224) * 4096)) + (((w8 ((c1756.toNat : Int) - 128)).toNat : Int) * 64))) + ((w8 ((c1759.toNat : Int) - 128)).toNat : Int)) then
       some (IntKind.i64.wrap ((IntKind.i64.wrap ((IntKind.i64.wrap (((c1730.toNat : Int) - 224) * 4096)) + (((w8 ((c1756.toNat : Int) - 128)).toNat : Int) * 64))) + ((w8 ((c1759.toNat : Int) - 128)).toNat : Int)), 3)
      else
       some (0, 0)
     else none
    else
     some (0, 0)
def post152 (r : (Int × Int)) (v : Value) (fs : List Fact) : Prop := v = .tuple #[.int .i64 r.1, .int .i64 r.2] ∧ fs = [((Ty.int .i64).fact r.1 [.int .i64 r.1]), ((Ty.int .i64).fact r.2 [.int .i64 r.2])]
theorem en152 : Enters Tryz.prog 152 := ⟨_, Tryz.func152, by kernel_rfl, rfl⟩
theorem f152_spec {a0 : Str} {a1 : Int} {r : (Int × Int)} (hr : m152 a0 a1 = some r) : Spec Tryz.prog 152 [str a0, .int .i64 a1] [(Ty.str.fact a0 [str a0]), ((Ty.int .i64).fact a1 [.int .i64 a1])] (post152 r) := by
 refine spec_start (N := 96) Tryz.func152 (by kernel_rfl) rfl rfl rfl ?_
 intro g hS
 unfold m152 at hr
 refine at_inv 1 rfl (fun l1729 => ?_)
 replace l1729 : (-9223372036854775808) ≤ a1 ∧ a1 ≤ 9223372036854775807 := l1729
 refine s_sr ?_
 refine s_as rfl ?_
 refine s_as rfl ?_
 refine s_ntsr ?_
 refine s_mv rfl ?_
 refine s_mv rfl ?_
 replace hr := obind hr
 obtain ⟨c1730, h1731, hr⟩ := hr
 have := at?_lt h1731
 have := c1730.toNat_lt
 refine at_lt (lt_sidx rfl rfl und9 (at?_lt h1731).1 (at?_get h1731)) rfl ?_
 refine at_lt (lt_convint rfl (iso und5) und3 (u8_in_i64 c1730)) rfl ?_
 refine s_as rfl ?_
 refine s_nt ?_
 refine at_seq ?_
 refine s_sr ?_
 refine s_mv rfl ?_
 refine at_lt (lt_lss rfl rfl) rfl ?_
 refine s_nt ?_
 by_cases h1732 : c1730.toNat < 128
 ·replace hr := ipos h1732 hr
  refine at_true rfl (decide_eq_true (by omega)) ?_
  refine s_sr ?_
  refine s_mv rfl ?_
  refine s_as rfl ?_
  refine s_as rfl ?_
  refine s_nt ?_
  refine at_ret ?_
  have hq := oinj hr
  clear hr
  subst hq
  refine at_then_ret ?_
  refine at_int .i64 (c1730.toNat : Int) (u8_in_i64 c1730) ?_
  refine at_int .i64 1 (by simp only [lo, hi]; omega) ?_
  exact at_return (.tuple #[.int .i64 (c1730.toNat : Int), .int .i64 1]) [1, 0] hS Tryz.results152 (.cons (.tmp rfl) (.cons (.tmp rfl) .nil)) rfl rfl ⟨rfl, rfl⟩
 replace hr := ineg h1732 hr
 refine at_false rfl (decide_eq_false (by omega)) ?_
 refine at_skip ?_
 refine at_then ?_
 refine at_seq ?_
 refine at_seq ?_
 replace hr := obind hr
 obtain ⟨x1733, hc1734, hr⟩ := hr
 refine at_cut (V := Unit) (fun e => (⟨[(0, str a0), (1, .int .i64 a1), (6, .int .i64 (c1730.toNat : Int)), (35, .bool x1733)], [], [], [(Ty.str.fact a0 [str a0]), ((Ty.int .i64).fact a1 [.int .i64 a1])]⟩ : St)) ?_ ?_
 ·clear hr
  have hr := hc1734
  clear hc1734
  refine at_region ?_
  refine s_mv rfl ?_
  refine at_lt (lt_geq rfl rfl) rfl ?_
  refine s_mv rfl ?_
  by_cases h1735 : 194 ≤ c1730.toNat
  ·replace hr := ipos h1735 hr
   refine at_on rfl rfl (decide_eq_true (by omega)) ?_
   refine s_mv rfl ?_
   refine at_on rfl rfl (decide_eq_true (by omega)) ?_
   refine at_lt (lt_lss rfl rfl) rfl ?_
   refine at_lt (lt_pick true rfl (decide_eq_true (by omega)) rfl) rfl ?_
   refine s_mv rfl ?_
   by_cases h1736 : c1730.toNat < 224
   ·replace hr := ipos h1736 hr
    refine at_on rfl rfl (decide_eq_true (by omega)) ?_
    refine s_mv rfl ?_
    refine at_on rfl rfl (decide_eq_true (by omega)) ?_
    refine at_lt (lt_addw rfl rfl) rfl ?_
    refine at_on rfl rfl (decide_eq_true (by omega)) ?_
    refine s_mv rfl ?_
    refine at_inv 0 rfl (fun l1737 => ?_)
    replace l1737 : a0.length ≤ 9223372036854775807 := l1737
    refine at_on rfl rfl (decide_eq_true (by omega)) ?_
    refine at_lt (lt_slen rfl und9) rfl ?_
    refine at_on rfl rfl (decide_eq_true (by omega)) ?_
    refine at_lt (lt_lss rfl rfl) rfl ?_
    refine at_lt (lt_pick true rfl (decide_eq_true (by omega)) rfl) rfl ?_
    refine s_mv rfl ?_
    by_cases h1738 : IntKind.i64.wrap (a1 + 1) < (a0.length : Int)
    ·replace hr := ipos h1738 hr
     refine at_on rfl rfl (decide_eq_true (by first | exact h1738 | omega)) ?_
     refine s_mv rfl ?_
     refine at_on rfl rfl (decide_eq_true (by first | exact h1738 | omega)) ?_
     refine s_mv rfl ?_
     refine at_on rfl rfl (decide_eq_true (by first | exact h1738 | omega)) ?_
     refine at_lt (lt_addw rfl rfl) rfl ?_
     replace hr := obind hr
     obtain ⟨c1739, h1740, hr⟩ := hr
     have := at?_lt h1740
     have := c1739.toNat_lt
     refine at_on rfl rfl (decide_eq_true (by first | exact h1738 | omega)) ?_
     refine at_lt (lt_sidx rfl rfl und9 (at?_lt h1740).1 (at?_get h1740)) rfl ?_
     refine at_on rfl rfl (decide_eq_true (by first | exact h1738 | omega)) ?_
     refine at_lt (lt_shr rfl rfl (by decide)) rfl ?_
     refine at_on rfl rfl (decide_eq_true (by first | exact h1738 | omega)) ?_
     refine at_lt (lt_eql rfl rfl) rfl ?_
     refine at_lt (lt_pick true rfl (decide_eq_true (by first | exact h1738 | omega)) rfl) rfl ?_
     refine at_nil ?_
     have hq := oinj hr
     clear hr
     subst hq
     exact at_leaf () ⟨⟨rfl, ⟨rfl, ⟨rfl, ⟨rfl, trivial⟩⟩⟩⟩, ⟨[], rfl⟩, ⟨[], rfl⟩, ⟨[0, 1], rfl⟩⟩
    replace hr := ineg h1738 hr
    refine at_off rfl rfl (decide_eq_false (by first | exact h1738 | omega)) rfl ?_
    refine at_off rfl rfl (decide_eq_false (by first | exact h1738 | omega)) rfl ?_
    refine at_off rfl rfl (decide_eq_false (by first | exact h1738 | omega)) rfl ?_
    refine at_off rfl rfl (decide_eq_false (by first | exact h1738 | omega)) rfl ?_
    refine at_off rfl rfl (decide_eq_false (by first | exact h1738 | omega)) rfl ?_
    refine at_off rfl rfl (decide_eq_false (by first | exact h1738 | omega)) rfl ?_
    refine at_lt (lt_pick false rfl (decide_eq_false (by first | exact h1738 | omega)) rfl) rfl ?_
    refine at_nil ?_
    have hq := oinj hr
    clear hr
    subst hq
    exact at_leaf () ⟨⟨rfl, ⟨rfl, ⟨rfl, ⟨rfl, trivial⟩⟩⟩⟩, ⟨[], rfl⟩, ⟨[], rfl⟩, ⟨[0, 1], rfl⟩⟩
   replace hr := ineg h1736 hr
   refine at_off rfl rfl (decide_eq_false (by omega)) rfl ?_
   refine at_off rfl rfl (decide_eq_false (by omega)) rfl ?_
   refine at_off rfl rfl (decide_eq_false (by omega)) rfl ?_
   refine at_off rfl rfl (decide_eq_false (by omega)) rfl ?_
   refine at_off rfl rfl (decide_eq_false (by omega)) rfl ?_
   refine at_lt (lt_pick false rfl (decide_eq_false (by omega)) rfl) rfl ?_
   refine s_mv rfl ?_
   refine at_off rfl rfl rfl rfl ?_
   refine at_off rfl rfl rfl rfl ?_
   refine at_off rfl rfl rfl rfl ?_
   refine at_off rfl rfl rfl rfl ?_
   refine at_off rfl rfl rfl rfl ?_
   refine at_off rfl rfl rfl rfl ?_
   refine at_lt (lt_pick false rfl rfl rfl) rfl ?_
   refine at_nil ?_
   have hq := oinj hr
   clear hr
   subst hq
   exact at_leaf () ⟨⟨rfl, ⟨rfl, ⟨rfl, ⟨rfl, trivial⟩⟩⟩⟩, ⟨[], rfl⟩, ⟨[], rfl⟩, ⟨[0, 1], rfl⟩⟩
  replace hr := ineg h1735 hr
  refine at_off rfl rfl (decide_eq_false (by omega)) rfl ?_
  refine at_off rfl rfl (decide_eq_false (by omega)) rfl ?_
  refine at_lt (lt_pick false rfl (decide_eq_false (by omega)) rfl) rfl ?_
  refine s_mv rfl ?_
  refine at_off rfl rfl rfl rfl ?_
  refine at_off rfl rfl rfl rfl ?_
  refine at_off rfl rfl rfl rfl ?_
  refine at_off rfl rfl rfl rfl ?_
  refine at_off rfl rfl rfl rfl ?_
  refine at_lt (lt_pick false rfl rfl rfl) rfl ?_
  refine s_mv rfl ?_
  refine at_off rfl rfl rfl rfl ?_
  refine at_off rfl rfl rfl rfl ?_
  refine at_off rfl rfl rfl rfl ?_
  refine at_off rfl rfl rfl rfl ?_
  refine at_off rfl rfl rfl rfl ?_
  refine at_off rfl rfl rfl rfl ?_
  refine at_lt (lt_pick false rfl rfl rfl) rfl ?_
  refine at_nil ?_
  have hq := oinj hr
  clear hr
  subst hq
  exact at_leaf () ⟨⟨rfl, ⟨rfl, ⟨rfl, ⟨rfl, trivial⟩⟩⟩⟩, ⟨[], rfl⟩, ⟨[], rfl⟩, ⟨[0, 1], rfl⟩⟩
 clear hc1734
 intro _
 change At _ _ (⟨[(0, str a0), (1, .int .i64 a1), (6, .int .i64 (c1730.toNat : Int)), (35, .bool x1733)], [], [], [(Ty.str.fact a0 [str a0]), ((Ty.int .i64).fact a1 [.int .i64 a1])]⟩ : St) _
 refine at_then ?_
 by_cases h1741 : x1733 = true
 ·replace hr := ipos h1741 hr
  refine at_true rfl h1741 ?_
  refine s_sr ?_
  refine s_mv rfl ?_
  refine at_lt (lt_sub rfl rfl (by simp only [lo, hi]; omega)) rfl ?_
  refine at_lt (lt_mulw rfl rfl) rfl ?_
  refine s_mv rfl ?_
  refine s_mv rfl ?_
  refine at_lt (lt_addw rfl rfl) rfl ?_
  replace hr := obind hr
  obtain ⟨c1742, h1743, hr⟩ := hr
  have := at?_lt h1743
  have := c1742.toNat_lt
  refine at_lt (lt_sidx rfl rfl und9 (at?_lt h1743).1 (at?_get h1743)) rfl ?_
  refine at_lt (lt_u8 (lt_subw rfl rfl)) rfl ?_
  refine at_lt (lt_convint rfl (iso und5) und3 (u8_in_i64 (w8 ((c1742.toNat : Int) - 128)))) rfl ?_
  refine at_lt (lt_addw rfl rfl) rfl ?_
  refine s_as rfl ?_
  refine s_as rfl ?_
  refine s_nt ?_
  refine at_ret ?_
  have hq := oinj hr
  clear hr
  subst hq
  refine at_then_ret ?_
  refine at_int .i64 (IntKind.i64.wrap ((IntKind.i64.wrap (((c1730.toNat : Int) - 192) * 64)) + ((w8 ((c1742.toNat : Int) - 128)).toNat : Int))) (wrap_bd .i64 _) ?_
  refine at_int .i64 2 (by simp only [lo, hi]; omega) ?_
  exact at_return (.tuple #[.int .i64 (IntKind.i64.wrap ((IntKind.i64.wrap (((c1730.toNat : Int) - 192) * 64)) + ((w8 ((c1742.toNat : Int) - 128)).toNat : Int))), .int .i64 2]) [1, 0] hS Tryz.results152 (.cons (.tmp rfl) (.cons (.tmp rfl) .nil)) rfl rfl ⟨rfl, rfl⟩
 replace hr := ineg h1741 hr
 refine at_false rfl (bf h1741) ?_
 refine at_skip ?_
 refine at_then ?_
 refine at_seq ?_
 refine at_seq ?_
 replace hr := obind hr
 obtain ⟨x1744, hc1745, hr⟩ := hr
 refine at_cut (V := Unit) (fun e => (⟨[(0, str a0), (1, .int .i64 a1), (6, .int .i64 (c1730.toNat : Int)), (74, .bool x1744)], [], [], [(Ty.str.fact a0 [str a0]), ((Ty.int .i64).fact a1 [.int .i64 a1])]⟩ : St)) ?_ ?_
 ·clear hr
  have hr := hc1745
  clear hc1745
  refine at_region ?_
  refine s_mv rfl ?_
  refine at_lt (lt_geq rfl rfl) rfl ?_
  refine s_mv rfl ?_
  by_cases h1746 : 224 ≤ c1730.toNat
  ·replace hr := ipos h1746 hr
   refine at_on rfl rfl (decide_eq_true (by omega)) ?_
   refine s_mv rfl ?_
   refine at_on rfl rfl (decide_eq_true (by omega)) ?_
   refine at_lt (lt_lss rfl rfl) rfl ?_
   refine at_lt (lt_pick true rfl (decide_eq_true (by omega)) rfl) rfl ?_
   refine s_mv rfl ?_
   by_cases h1747 : c1730.toNat < 240
   ·replace hr := ipos h1747 hr
    refine at_on rfl rfl (decide_eq_true (by omega)) ?_
    refine s_mv rfl ?_
    refine at_on rfl rfl (decide_eq_true (by omega)) ?_
    refine at_lt (lt_addw rfl rfl) rfl ?_
    refine at_on rfl rfl (decide_eq_true (by omega)) ?_
    refine s_mv rfl ?_
    refine at_inv 0 rfl (fun l1748 => ?_)
    replace l1748 : a0.length ≤ 9223372036854775807 := l1748
    refine at_on rfl rfl (decide_eq_true (by omega)) ?_
    refine at_lt (lt_slen rfl und9) rfl ?_
    refine at_on rfl rfl (decide_eq_true (by omega)) ?_
    refine at_lt (lt_lss rfl rfl) rfl ?_
    refine at_lt (lt_pick true rfl (decide_eq_true (by omega)) rfl) rfl ?_
    refine s_mv rfl ?_
    by_cases h1749 : IntKind.i64.wrap (a1 + 2) < (a0.length : Int)
    ·replace hr := ipos h1749 hr
     refine at_on rfl rfl (decide_eq_true (by first | exact h1749 | omega)) ?_
     refine s_mv rfl ?_
     refine at_on rfl rfl (decide_eq_true (by first | exact h1749 | omega)) ?_
     refine s_mv rfl ?_
     refine at_on rfl rfl (decide_eq_true (by first | exact h1749 | omega)) ?_
     refine at_lt (lt_addw rfl rfl) rfl ?_
     replace hr := obind hr
     obtain ⟨c1750, h1751, hr⟩ := hr
     have := at?_lt h1751
     have := c1750.toNat_lt
     refine at_on rfl rfl (decide_eq_true (by first | exact h1749 | omega)) ?_
     refine at_lt (lt_sidx rfl rfl und9 (at?_lt h1751).1 (at?_get h1751)) rfl ?_
     refine at_on rfl rfl (decide_eq_true (by first | exact h1749 | omega)) ?_
     refine at_lt (lt_shr rfl rfl (by decide)) rfl ?_
     refine at_on rfl rfl (decide_eq_true (by first | exact h1749 | omega)) ?_
     refine at_lt (lt_eql rfl rfl) rfl ?_
     refine at_lt (lt_pick true rfl (decide_eq_true (by first | exact h1749 | omega)) rfl) rfl ?_
     refine s_mv rfl ?_
     by_cases h1752 : Int.fdiv (c1750.toNat : Int) (2 ^ (min 6 8)) = 2
     ·replace hr := ipos h1752 hr
      refine at_on rfl rfl (decide_eq_true (by first | exact h1752 | omega)) ?_
      refine s_mv rfl ?_
      refine at_on rfl rfl (decide_eq_true (by first | exact h1752 | omega)) ?_
      refine s_mv rfl ?_
      refine at_on rfl rfl (decide_eq_true (by first | exact h1752 | omega)) ?_
      refine at_lt (lt_addw rfl rfl) rfl ?_
      replace hr := obind hr
      obtain ⟨c1753, h1754, hr⟩ := hr
      have := at?_lt h1754
      have := c1753.toNat_lt
      refine at_on rfl rfl (decide_eq_true (by first | exact h1752 | omega)) ?_
      refine at_lt (lt_sidx rfl rfl und9 (at?_lt h1754).1 (at?_get h1754)) rfl ?_
      refine at_on rfl rfl (decide_eq_true (by first | exact h1752 | omega)) ?_
      refine at_lt (lt_shr rfl rfl (by decide)) rfl ?_
      refine at_on rfl rfl (decide_eq_true (by first | exact h1752 | omega)) ?_
      refine at_lt (lt_eql rfl rfl) rfl ?_
      refine at_lt (lt_pick true rfl (decide_eq_true (by first | exact h1752 | omega)) rfl) rfl ?_
      refine at_nil ?_
      have hq := oinj hr
      clear hr
      subst hq
      exact at_leaf () ⟨⟨rfl, ⟨rfl, ⟨rfl, ⟨rfl, trivial⟩⟩⟩⟩, ⟨[], rfl⟩, ⟨[], rfl⟩, ⟨[0, 1], rfl⟩⟩
     replace hr := ineg h1752 hr
     refine at_off rfl rfl (decide_eq_false (by first | exact h1752 | omega)) rfl ?_
     refine at_off rfl rfl (decide_eq_false (by first | exact h1752 | omega)) rfl ?_
     refine at_off rfl rfl (decide_eq_false (by first | exact h1752 | omega)) rfl ?_
     refine at_off rfl rfl (decide_eq_false (by first | exact h1752 | omega)) rfl ?_
     refine at_off rfl rfl (decide_eq_false (by first | exact h1752 | omega)) rfl ?_
     refine at_off rfl rfl (decide_eq_false (by first | exact h1752 | omega)) rfl ?_
     refine at_lt (lt_pick false rfl (decide_eq_false (by first | exact h1752 | omega)) rfl) rfl ?_
     refine at_nil ?_
     have hq := oinj hr
     clear hr
     subst hq
     exact at_leaf () ⟨⟨rfl, ⟨rfl, ⟨rfl, ⟨rfl, trivial⟩⟩⟩⟩, ⟨[], rfl⟩, ⟨[], rfl⟩, ⟨[0, 1], rfl⟩⟩
    replace hr := ineg h1749 hr
    refine at_off rfl rfl (decide_eq_false (by first | exact h1749 | omega)) rfl ?_
    refine at_off rfl rfl (decide_eq_false (by first | exact h1749 | omega)) rfl ?_
    refine at_off rfl rfl (decide_eq_false (by first | exact h1749 | omega)) rfl ?_
    refine at_off rfl rfl (decide_eq_false (by first | exact h1749 | omega)) rfl ?_
    refine at_off rfl rfl (decide_eq_false (by first | exact h1749 | omega)) rfl ?_
    refine at_off rfl rfl (decide_eq_false (by first | exact h1749 | omega)) rfl ?_
    refine at_lt (lt_pick false rfl (decide_eq_false (by first | exact h1749 | omega)) rfl) rfl ?_
    refine s_mv rfl ?_
    refine at_off rfl rfl rfl rfl ?_
    refine at_off rfl rfl rfl rfl ?_
    refine at_off rfl rfl rfl rfl ?_
    refine at_off rfl rfl rfl rfl ?_
    refine at_off rfl rfl rfl rfl ?_
    refine at_off rfl rfl rfl rfl ?_
    refine at_lt (lt_pick false rfl rfl rfl) rfl ?_
    refine at_nil ?_
    have hq := oinj hr
    clear hr
    subst hq
    exact at_leaf () ⟨⟨rfl, ⟨rfl, ⟨rfl, ⟨rfl, trivial⟩⟩⟩⟩, ⟨[], rfl⟩, ⟨[], rfl⟩, ⟨[0, 1], rfl⟩⟩
   replace hr := ineg h1747 hr
   refine at_off rfl rfl (decide_eq_false (by omega)) rfl ?_
   refine at_off rfl rfl (decide_eq_false (by omega)) rfl ?_
   refine at_off rfl rfl (decide_eq_false (by omega)) rfl ?_
   refine at_off rfl rfl (decide_eq_false (by omega)) rfl ?_
   refine at_off rfl rfl (decide_eq_false (by omega)) rfl ?_
   refine at_lt (lt_pick false rfl (decide_eq_false (by omega)) rfl) rfl ?_
   refine s_mv rfl ?_
   refine at_off rfl rfl rfl rfl ?_
   refine at_off rfl rfl rfl rfl ?_
   refine at_off rfl rfl rfl rfl ?_
   refine at_off rfl rfl rfl rfl ?_
   refine at_off rfl rfl rfl rfl ?_
   refine at_off rfl rfl rfl rfl ?_
   refine at_lt (lt_pick false rfl rfl rfl) rfl ?_
   refine s_mv rfl ?_
   refine at_off rfl rfl rfl rfl ?_
   refine at_off rfl rfl rfl rfl ?_
   refine at_off rfl rfl rfl rfl ?_
   refine at_off rfl rfl rfl rfl ?_
   refine at_off rfl rfl rfl rfl ?_
   refine at_off rfl rfl rfl rfl ?_
   refine at_lt (lt_pick false rfl rfl rfl) rfl ?_
   refine at_nil ?_
   have hq := oinj hr
   clear hr
   subst hq
   exact at_leaf () ⟨⟨rfl, ⟨rfl, ⟨rfl, ⟨rfl, trivial⟩⟩⟩⟩, ⟨[], rfl⟩, ⟨[], rfl⟩, ⟨[0, 1], rfl⟩⟩
  replace hr := ineg h1746 hr
  refine at_off rfl rfl (decide_eq_false (by omega)) rfl ?_
  refine at_off rfl rfl (decide_eq_false (by omega)) rfl ?_
  refine at_lt (lt_pick false rfl (decide_eq_false (by omega)) rfl) rfl ?_
  refine s_mv rfl ?_
  refine at_off rfl rfl rfl rfl ?_
  refine at_off rfl rfl rfl rfl ?_
  refine at_off rfl rfl rfl rfl ?_
  refine at_off rfl rfl rfl rfl ?_
  refine at_off rfl rfl rfl rfl ?_
  refine at_lt (lt_pick false rfl rfl rfl) rfl ?_
  refine s_mv rfl ?_
  refine at_off rfl rfl rfl rfl ?_
  refine at_off rfl rfl rfl rfl ?_
  refine at_off rfl rfl rfl rfl ?_
  refine at_off rfl rfl rfl rfl ?_
  refine at_off rfl rfl rfl rfl ?_
  refine at_off rfl rfl rfl rfl ?_
  refine at_lt (lt_pick false rfl rfl rfl) rfl ?_
  refine s_mv rfl ?_
  refine at_off rfl rfl rfl rfl ?_
  refine at_off rfl rfl rfl rfl ?_
  refine at_off rfl rfl rfl rfl ?_
  refine at_off rfl rfl rfl rfl ?_
  refine at_off rfl rfl rfl rfl ?_
  refine at_off rfl rfl rfl rfl ?_
  refine at_lt (lt_pick false rfl rfl rfl) rfl ?_
  refine at_nil ?_
  have hq := oinj hr
  clear hr
  subst hq
  exact at_leaf () ⟨⟨rfl, ⟨rfl, ⟨rfl, ⟨rfl, trivial⟩⟩⟩⟩, ⟨[], rfl⟩, ⟨[], rfl⟩, ⟨[0, 1], rfl⟩⟩
 clear hc1745
 intro _
 change At _ _ (⟨[(0, str a0), (1, .int .i64 a1), (6, .int .i64 (c1730.toNat : Int)), (74, .bool x1744)], [], [], [(Ty.str.fact a0 [str a0]), ((Ty.int .i64).fact a1 [.int .i64 a1])]⟩ : St) _
 refine at_then ?_
 by_cases h1755 : x1744 = true
 ·replace hr := ipos h1755 hr
  refine at_true rfl h1755 ?_
  refine at_seq ?_
  replace hr := obind hr
  obtain ⟨c1756, h1757, hr⟩ := hr
  have := at?_lt h1757
  have := c1756.toNat_lt
  replace hr := imust hr
  obtain ⟨h1758, hr⟩ := hr
  replace hr := obind hr
  obtain ⟨c1759, h1760, hr⟩ := hr
  have := at?_lt h1760
  have := c1759.toNat_lt
  refine aa_start 19 (by kernel_rfl) ?_
  refine aa_p 0 rfl (lt_move rfl) ?_
  refine aa_p 1 rfl (lt_sub rfl rfl (by simp only [lo, hi]; omega)) ?_
  refine aa_p 2 rfl (lt_mulw rfl rfl) ?_
  refine aa_p 3 rfl (lt_move rfl) ?_
  refine aa_p 4 rfl (lt_move rfl) ?_
  refine aa_p 5 rfl (lt_addw rfl rfl) ?_
  refine aa_p 6 rfl (lt_sidx rfl rfl und9 (at?_lt h1757).1 (at?_get h1757)) ?_
  refine aa_p 7 rfl (lt_u8 (lt_subw rfl rfl)) ?_
  refine aa_p 8 rfl (lt_convint rfl (iso und5) und3 (u8_in_i64 (w8 ((c1756.toNat : Int) - 128)))) ?_
  refine aa_p 9 rfl (lt_mul rfl rfl (by simp only [lo, hi]; omega)) ?_
  refine aa_p 10 rfl (lt_addw rfl rfl) ?_
  refine aa_p 11 rfl (lt_move rfl) ?_
  refine aa_p 12 rfl (lt_move rfl) ?_
  refine aa_p 13 rfl (lt_addw rfl rfl) ?_
  refine aa_p 14 rfl (lt_sidx rfl rfl und9 (at?_lt h1760).1 (at?_get h1760)) ?_
  refine aa_p 15 rfl (lt_u8 (lt_subw rfl rfl)) ?_
  refine aa_p 16 rfl (lt_convint rfl (iso und5) und3 (u8_in_i64 (w8 ((c1759.toNat : Int) - 128)))) ?_
  refine aa_p 17 rfl (lt_addw rfl rfl) ?_
  refine aa_p 18 rfl (lt_assign rfl) ?_
  refine aa_done (by kernel_rfl) (ts_in 0 0 rfl rfl) ?_
  refine s_tsr ?_
  refine s_mv rfl ?_
  refine at_lt (lt_geq rfl rfl) rfl ?_
  refine s_nt ?_
  by_cases h1761 : (2048 : Int) ≤ IntKind.i64.wrap ((IntKind.i64.wrap ((IntKind.i64.wrap (((c1730.toNat : Int) - 224) * 4096)) + (((w8 ((c1756.toNat : Int) - 128)).toNat : Int) * 64))) + ((w8 ((c1759.toNat : Int) - 128)).toNat : Int))
  ·replace hr := ipos h1761 hr
   refine at_true rfl (decide_eq_true (by first | exact h1761 | omega)) ?_
   refine s_sr ?_
   refine s_mv rfl ?_
   refine s_as rfl ?_
   refine s_as rfl ?_
   refine s_nt ?_
   refine at_ret ?_
   have hq := oinj hr
   clear hr
   subst hq
   refine at_then_ret ?_
   refine at_int .i64 (IntKind.i64.wrap ((IntKind.i64.wrap ((IntKind.i64.wrap (((c1730.toNat : Int) - 224) * 4096)) + (((w8 ((c1756.toNat : Int) - 128)).toNat : Int) * 64))) + ((w8 ((c1759.toNat : Int) - 128)).toNat : Int))) (wrap_bd .i64 _) ?_
   refine at_int .i64 3 (by simp only [lo, hi]; omega) ?_
   exact at_return (.tuple #[.int .i64 (IntKind.i64.wrap ((IntKind.i64.wrap ((IntKind.i64.wrap (((c1730.toNat : Int) - 224) * 4096)) + (((w8 ((c1756.toNat : Int) - 128)).toNat : Int) * 64))) + ((w8 ((c1759.toNat : Int) - 128)).toNat : Int))), .int .i64 3]) [1, 0] hS Tryz.results152 (.cons (.tmp rfl) (.cons (.tmp rfl) .nil)) rfl rfl ⟨rfl, rfl⟩
  replace hr := ineg h1761 hr
  refine at_false rfl (decide_eq_false (by first | exact h1761 | omega)) ?_
  refine at_skip ?_
  refine s_tsr ?_
  refine s_as rfl ?_
  refine s_as rfl ?_
  refine s_nt ?_
  refine at_ret ?_
  have hq := oinj hr
  clear hr
  subst hq
  refine at_int .i64 0 (by simp only [lo, hi]; omega) ?_
  exact at_return (.tuple #[.int .i64 0, .int .i64 0]) [0, 0] hS Tryz.results152 (.cons (.tmp rfl) (.cons (.tmp rfl) .nil)) rfl rfl ⟨rfl, rfl⟩
 replace hr := ineg h1755 hr
 refine at_false rfl (bf h1755) ?_
 refine at_skip ?_
 refine s_tsr ?_
 refine s_as rfl ?_
 refine s_as rfl ?_
 refine s_nt ?_
 refine at_ret ?_
 have hq := oinj hr
 clear hr
 subst hq
 refine at_int .i64 0 (by simp only [lo, hi]; omega) ?_
 exact at_return (.tuple #[.int .i64 0, .int .i64 0]) [0, 0] hS Tryz.results152 (.cons (.tmp rfl) (.cons (.tmp rfl) .nil)) rfl rfl ⟨rfl, rfl⟩
/-! 186 bookplate/bookplateref04.in -/
def m186 (a0 : Int) (a1 : Int) (a2 : Int) : Option Bool :=
  if a1 ≤ a0 then
   some (decide (a0 ≤ a2))
  else
   some false
def post186 (r : Bool) (v : Value) (fs : List Fact) : Prop := v = .bool r ∧ fs = []
theorem en186 : Enters Tryz.prog 186 := ⟨_, Tryz.func186, by kernel_rfl, rfl⟩
theorem f186_spec {a0 : Int} {a1 : Int} {a2 : Int} {r : Bool} (hr : m186 a0 a1 a2 = some r) : Spec Tryz.prog 186 [.int .i64 a0, .int .i64 a1, .int .i64 a2] [((Ty.int .i64).fact a0 [.int .i64 a0]), ((Ty.int .i64).fact a1 [.int .i64 a1]), ((Ty.int .i64).fact a2 [.int .i64 a2])] (post186 r) := by
 refine spec_start (N := 15) Tryz.func186 (by kernel_rfl) rfl rfl rfl ?_
 intro g hS
 unfold m186 at hr
 refine at_inv 0 rfl (fun l1762 => ?_)
 replace l1762 : (-9223372036854775808) ≤ a0 ∧ a0 ≤ 9223372036854775807 := l1762
 refine at_inv 1 rfl (fun l1763 => ?_)
 replace l1763 : (-9223372036854775808) ≤ a1 ∧ a1 ≤ 9223372036854775807 := l1763
 refine at_inv 2 rfl (fun l1764 => ?_)
 replace l1764 : (-9223372036854775808) ≤ a2 ∧ a2 ≤ 9223372036854775807 := l1764
 refine s_sr ?_
 refine s_as rfl ?_
 refine s_ntsr ?_
 refine s_mv rfl ?_
 refine s_mv rfl ?_
 refine at_lt (lt_geq rfl rfl) rfl ?_
 refine s_mv rfl ?_
 by_cases h1765 : a1 ≤ a0
 ·replace hr := ipos h1765 hr
  refine at_on rfl rfl (decide_eq_true (by first | exact h1765 | omega)) ?_
  refine s_mv rfl ?_
  refine at_on rfl rfl (decide_eq_true (by first | exact h1765 | omega)) ?_
  refine s_mv rfl ?_
  refine at_on rfl rfl (decide_eq_true (by first | exact h1765 | omega)) ?_
  refine at_lt (lt_leq rfl rfl) rfl ?_
  refine at_lt (lt_pick true rfl (decide_eq_true (by first | exact h1765 | omega)) rfl) rfl ?_
  refine s_as rfl ?_
  refine s_nt ?_
  refine at_ret ?_
  have hq := oinj hr
  clear hr
  subst hq
  exact at_return (.bool (decide (a0 ≤ a2))) [] hS Tryz.results186 (.cons (.tmp rfl) .nil) rfl rfl ⟨rfl, rfl⟩
 replace hr := ineg h1765 hr
 refine at_off rfl rfl (decide_eq_false (by first | exact h1765 | omega)) rfl ?_
 refine at_off rfl rfl (decide_eq_false (by first | exact h1765 | omega)) rfl ?_
 refine at_off rfl rfl (decide_eq_false (by first | exact h1765 | omega)) rfl ?_
 refine at_lt (lt_pick false rfl (decide_eq_false (by first | exact h1765 | omega)) rfl) rfl ?_
 refine s_as rfl ?_
 refine s_nt ?_
 refine at_ret ?_
 have hq := oinj hr
 clear hr
 subst hq
 exact at_return (.bool false) [] hS Tryz.results186 (.cons (.tmp rfl) .nil) rfl rfl ⟨rfl, rfl⟩
/-! 187 bookplate/bookplateref04.listed -/
def m187_l1 (a0 : Str) (a1 : Int) : Nat → Int → Option (Fl Bool Unit)
  | 0, _ => none
  | k + 1, x1767 =>
    if x1767 < (a0.length : Int) then
     (m152 a0 x1767).bind fun x1774 =>
     if x1774.1 = a1 then
      some (Fl.ret true)
     else
      m187_l1 a0 a1 k (IntKind.i64.wrap (x1767 + x1774.2))
    else
     some (Fl.go ())
def m187 (a0 : Str) (a1 : Int) : Option Bool :=
  (m187_l1 a0 a1 (a0.length + 1) 0).bind fun r => match r with
  | .ret x => some x
  | .go _ =>
   some false
def post187 (r : Bool) (v : Value) (fs : List Fact) : Prop := v = .bool r ∧ fs = []
theorem en187 : Enters Tryz.prog 187 := ⟨_, Tryz.func187, by kernel_rfl, rfl⟩
theorem f187_spec {a0 : Str} {a1 : Int} {r : Bool} (hr : m187 a0 a1 = some r) : Spec Tryz.prog 187 [str a0, .int .i64 a1] [(Ty.str.fact a0 [str a0]), ((Ty.int .i64).fact a1 [.int .i64 a1])] (post187 r) := by
 refine spec_start (N := 24) Tryz.func187 (by kernel_rfl) rfl rfl rfl ?_
 intro g hS
 unfold m187 at hr
 refine at_inv 1 rfl (fun l1766 => ?_)
 replace l1766 : (-9223372036854775808) ≤ a1 ∧ a1 ≤ 9223372036854775807 := l1766
 refine s_sr ?_
 refine s_as rfl ?_
 refine s_nt ?_
 refine at_seq ?_
 refine s_sr ?_
 refine s_as rfl ?_
 refine s_nt ?_
 refine at_int .i64 0 (by simp only [lo, hi]; omega) ?_
 replace hr := obind hr
 obtain ⟨r1768, hl1769, hk1770⟩ := hr
 refine at_cutP (V := (Unit) × (Unit)) (fun v => r1768 = Fl.go v.1) (fun v => (⟨[], [], [], []⟩ : St)) ?_ ?_
 ·refine at_block ?_
  refine at_loopW (σ := Int) (V := Unit) (r := r1768) (fun n s => m187_l1 a0 a1 n s) (fun s e => (⟨[(0, str a0), (1, .int .i64 a1), (5, .int .i64 s)], [], [], [((Ty.int .i64).fact s [.int .i64 s]), (Ty.str.fact a0 [str a0]), ((Ty.int .i64).fact a1 [.int .i64 a1])]⟩ : St)) (fun _ => rfl) _ 0 () hl1769 ⟨⟨rfl, ⟨rfl, ⟨rfl, trivial⟩⟩⟩, ⟨[], rfl⟩, ⟨[], rfl⟩, ⟨[0, 1, 2], rfl⟩⟩ ?_
  clear hl1769
  intro n x1767 hr e
  skip
  skip
  change m187_l1 a0 a1 (n + 1) x1767 = some r1768 at hr
  change At _ _ (⟨[(0, str a0), (1, .int .i64 a1), (5, .int .i64 x1767)], [], [], [((Ty.int .i64).fact x1767 [.int .i64 x1767]), (Ty.str.fact a0 [str a0]), ((Ty.int .i64).fact a1 [.int .i64 a1])]⟩ : St) _
  rw [m187_l1] at hr
  refine at_inv 0 rfl (fun l1771 => ?_)
  replace l1771 : (-9223372036854775808) ≤ x1767 ∧ x1767 ≤ 9223372036854775807 := l1771
  refine at_seq ?_
  refine s_sr ?_
  refine s_mv rfl ?_
  refine s_mv rfl ?_
  refine at_inv 1 rfl (fun l1772 => ?_)
  replace l1772 : a0.length ≤ 9223372036854775807 := l1772
  refine at_lt (lt_slen rfl und9) rfl ?_
  refine at_lt (lt_lss rfl rfl) rfl ?_
  refine s_nt ?_
  by_cases h1773 : x1767 < (a0.length : Int)
  ·replace hr := ipos h1773 hr
   refine at_true rfl (decide_eq_true (by first | exact h1773 | omega)) ?_
   refine at_skip ?_
   refine at_then ?_
   refine at_block ?_
   refine s_sr ?_
   refine s_mv rfl ?_
   refine s_mv rfl ?_
   replace hr := obind hr
   obtain ⟨x1774, h1775, hr⟩ := hr
   refine at_hv rfl ?_
   refine hv_call0 [1, 0] (f152_spec h1775) rfl rfl rfl rfl ?_
   rintro _ _ ⟨rfl, rfl⟩
   refine at_inv 0 rfl (fun l1776 => ?_)
   replace l1776 : (-9223372036854775808) ≤ x1774.1 ∧ x1774.1 ≤ 9223372036854775807 := l1776
   refine at_inv 1 rfl (fun l1777 => ?_)
   replace l1777 : (-9223372036854775808) ≤ x1774.2 ∧ x1774.2 ≤ 9223372036854775807 := l1777
   refine s_mv rfl ?_
   refine at_lt (lt_extract rfl rfl) rfl ?_
   refine at_lt (lt_extract rfl rfl) rfl ?_
   refine s_as rfl ?_
   refine s_as rfl ?_
   refine s_nt ?_
   refine at_seq ?_
   refine s_sr ?_
   refine s_mv rfl ?_
   refine s_mv rfl ?_
   refine at_lt (lt_eql rfl rfl) rfl ?_
   refine s_nt ?_
   by_cases h1778 : x1774.1 = a1
   ·replace hr := ipos h1778 hr
    refine at_true rfl (decide_eq_true (by first | exact h1778 | omega)) ?_
    refine s_sr ?_
    refine s_as rfl ?_
    refine s_nt ?_
    refine at_ret ?_
    have hq := oinj hr
    clear hr
    subst hq
    have hq := oinj hk1770
    clear hk1770
    subst hq
    refine at_then_ret ?_
    refine at_in_ret ?_
    refine at_then_ret ?_
    refine at_in_ret ?_
    refine at_then_ret ?_
    refine at_then_ret ?_
    exact at_return (.bool true) [] hS Tryz.results187 (.cons (.tmp rfl) .nil) rfl rfl ⟨rfl, rfl⟩
   replace hr := ineg h1778 hr
   refine at_false rfl (decide_eq_false (by first | exact h1778 | omega)) ?_
   refine at_skip ?_
   refine s_tr ?_
   refine s_mv rfl ?_
   refine s_mv rfl ?_
   refine at_lt (lt_addw rfl rfl) rfl ?_
   refine s_as rfl ?_
   refine at_nil ?_
   refine at_in ?_
   refine at_int .i64 (IntKind.i64.wrap (x1767 + x1774.2)) (wrap_bd .i64 _) ?_
   exact at_again (σ := Int) (V := Unit) (lp := fun n s => m187_l1 a0 a1 n s) (S := fun s e => (⟨[(0, str a0), (1, .int .i64 a1), (5, .int .i64 s)], [], [], [((Ty.int .i64).fact s [.int .i64 s]), (Ty.str.fact a0 [str a0]), ((Ty.int .i64).fact a1 [.int .i64 a1])]⟩ : St)) (IntKind.i64.wrap (x1767 + x1774.2)) () hr ⟨⟨rfl, ⟨rfl, ⟨rfl, trivial⟩⟩⟩, ⟨[], rfl⟩, ⟨[], rfl⟩, ⟨[0, 4, 5], rfl⟩⟩
  replace hr := ineg h1773 hr
  refine at_false rfl (decide_eq_false (by first | exact h1773 | omega)) ?_
  refine at_exit ?_
  refine at_then_exit ?_
  refine at_then_exit ?_
  refine at_in_exit ?_
  have hq := oinj hr
  clear hr
  subst hq
  exact at_leafP ((), ()) rfl ⟨trivial, ⟨[], rfl⟩, ⟨[], rfl⟩, ⟨[], rfl⟩⟩
 rintro ⟨_, _⟩ hp
 replace hr := hk1770
 subst hp
 clear hl1769
 change At _ _ (⟨[], [], [], []⟩ : St) _
 refine s_tsr ?_
 refine s_as rfl ?_
 refine s_nt ?_
 refine at_ret ?_
 have hq := oinj hr
 clear hr
 subst hq
 exact at_return (.bool false) [] hS Tryz.results187 (.cons (.tmp rfl) .nil) rfl rfl ⟨rfl, rfl⟩
/-! 173 bookplate/bookplateref04.Class -/
def m173 (a0 : Int) : Option (Int × Int) :=
  (m186 a0 65281 65374).bind fun x1780 =>
  Option.bind (α := Int) (
   if x1780 = true then
    some (IntKind.i64.wrap (a0 - 65248))
   else
    some a0
  ) fun x1782 =>
  if x1782 = 32 then
   some (0, 4)
  else
   if x1782 = 160 then
    some (0, 4)
   else
    (m186 x1782 48 57).bind fun x1788 =>
    if x1788 = true then
     some (0, 3)
    else
     if x1782 = 178 then
      some (0, 3)
     else
      if x1782 = 179 then
       some (0, 3)
      else
       if x1782 = 185 then
        some (0, 3)
       else
        (m186 x1782 65 90).bind fun x1794 =>
        if x1794 = true then
         some (1, 1)
        else
         (m186 x1782 97 122).bind fun x1797 =>
         if x1797 = true then
          some (1, 1)
         else
          if x1782 = 383 then
           some (1, 1)
          else
           if x1782 = 64257 then
            some (1, 1)
           else
            if x1782 = 64258 then
             some (1, 1)
            else
             (m187 ([195, 128, 195, 136, 195, 140, 195, 146, 195, 153, 195, 160, 195, 168, 195, 172, 195, 178, 195, 185, 195, 129, 195, 137, 195, 141, 195, 147, 195, 154, 195, 157, 195, 161, 195, 169, 195, 173, 195, 179, 195, 186, 195, 189, 196, 134, 196, 135, 196, 185, 196, 186, 197, 131, 197, 132, 197, 148, 197, 149, 197, 154, 197, 155, 197, 185, 197, 186, 195, 130, 195, 138, 195, 142, 195, 148, 195, 155, 195, 162, 195, 170, 195, 174, 195, 180, 195, 187, 196, 136, 196, 137, 196, 156, 196, 157, 196, 164, 196, 165, 196, 180, 196, 181, 197, 156, 197, 157, 197, 180, 197, 181, 197, 182, 197, 183, 195, 131, 195, 145, 195, 149, 195, 163, 195, 177, 195, 181, 196, 168, 196, 169, 197, 168, 197, 169, 196, 128, 196, 129, 196, 146, 196, 147, 196, 170, 196, 171, 197, 140, 197, 141, 197, 170, 197, 171, 196, 130, 196, 131, 196, 148, 196, 149, 196, 158, 196, 159, 196, 172, 196, 173, 197, 142, 197, 143, 197, 172, 197, 173, 196, 138, 196, 139, 196, 150, 196, 151, 196, 160, 196, 161, 196, 176, 197, 187, 197, 188, 195, 132, 195, 139, 195, 143, 195, 150, 195, 156, 195, 164, 195, 171, 195, 175, 195, 182, 195, 188, 195, 191, 197, 184, 195, 133, 195, 165, 197, 174, 197, 175, 197, 144, 197, 145, 197, 176, 197, 177, 196, 140, 196, 141, 196, 142, 196, 143, 196, 154, 196, 155, 197, 135, 197, 136, 197, 152, 197, 153, 197, 160, 197, 161, 197, 164, 197, 165, 197, 189, 197, 190, 196, 189, 196, 190, 195, 135, 195, 167, 196, 162, 196, 163, 196, 182, 196, 183, 196, 187, 196, 188, 197, 133, 197, 134, 197, 150, 197, 151, 197, 158, 197, 159, 197, 162, 197, 163, 196, 132, 196, 133, 196, 152, 196, 153, 196, 174, 196, 175, 197, 178, 197, 179, 195, 134, 195, 166, 195, 152, 195, 184, 195, 144, 195, 176, 195, 158, 195, 190, 195, 159, 196, 144, 196, 145, 196, 166, 196, 167, 196, 177, 197, 129, 197, 130, 197, 146, 197, 147, 197, 138, 197, 139, 197, 166, 197, 167] : Str) x1782).bind fun x1803 =>
             if x1803 = true then
              some (1, 1)
             else
              (m186 x1782 768 772).bind fun x1806 =>
              if x1806 = true then
               some (0, 2)
              else
               (m186 x1782 774 776).bind fun x1809 =>
               if x1809 = true then
                some (0, 2)
               else
                (m186 x1782 778 780).bind fun x1812 =>
                if x1812 = true then
                 some (0, 2)
                else
                 if x1782 = 803 then
                  some (0, 2)
                 else
                  if x1782 = 807 then
                   some (0, 2)
                  else
                   if x1782 = 808 then
                    some (0, 2)
                   else
                    (m186 x1782 913 929).bind fun x1818 =>
                    if x1818 = true then
                     some (2, 1)
                    else
                     (m186 x1782 931 937).bind fun x1821 =>
                     if x1821 = true then
                      some (2, 1)
                     else
                      (m186 x1782 945 969).bind fun x1824 =>
                      if x1824 = true then
                       some (2, 1)
                      else
                       (m187 ([206, 134, 206, 136, 206, 137, 206, 138, 206, 140, 206, 142, 206, 143, 206, 172, 206, 173, 206, 174, 206, 175, 207, 140, 207, 141, 207, 142, 206, 170, 206, 171, 207, 138, 207, 139] : Str) x1782).bind fun x1827 =>
                       if x1827 = true then
                        some (2, 1)
                       else
                        (m186 x1782 1040 1103).bind fun x1830 =>
                        if x1830 = true then
                         some (3, 1)
                        else
                         (m187 ([208, 129, 209, 145, 208, 135, 209, 151, 208, 132, 209, 148, 210, 144, 210, 145, 208, 142, 209, 158, 208, 134, 209, 150] : Str) x1782).bind fun x1833 =>
                         if x1833 = true then
                          some (3, 1)
                         else
                          (m186 x1782 33 126).bind fun x1836 =>
                          if x1836 = true then
                           some (0, 5)
                          else
                           some (0, 0)
def post173 (r : (Int × Int)) (v : Value) (fs : List Fact) : Prop := v = .tuple #[.int .i64 r.1, .int .i64 r.2] ∧ fs = [((Ty.int .i64).fact r.1 [.int .i64 r.1]), ((Ty.int .i64).fact r.2 [.int .i64 r.2])]
theorem en173 : Enters Tryz.prog 173 := ⟨_, Tryz.func173, by kernel_rfl, rfl⟩
theorem f173_spec {a0 : Int} {r : (Int × Int)} (hr : m173 a0 = some r) : Spec Tryz.prog 173 [.int .i64 a0] [((Ty.int .i64).fact a0 [.int .i64 a0])] (post173 r) := by
 refine spec_start (N := 101) Tryz.func173 (by kernel_rfl) rfl rfl rfl ?_
 intro g hS
 unfold m173 at hr
 refine at_inv 0 rfl (fun l1779 => ?_)
 replace l1779 : (-9223372036854775808) ≤ a0 ∧ a0 ≤ 9223372036854775807 := l1779
 refine s_sr ?_
 refine s_as rfl ?_
 refine s_as rfl ?_
 refine s_nt ?_
 refine at_seq ?_
 refine s_sr ?_
 refine s_mv rfl ?_
 replace hr := obind hr
 obtain ⟨x1780, h1781, hr⟩ := hr
 refine at_int .i64 65281 (by simp only [lo, hi]; omega) ?_
 refine at_int .i64 65374 (by simp only [lo, hi]; omega) ?_
 refine at_hv rfl ?_
 refine hv_call0 [2, 1, 0] (f186_spec h1781) rfl rfl rfl rfl ?_
 rintro _ _ ⟨rfl, rfl⟩
 refine s_nt ?_
 replace hr := obind hr
 obtain ⟨x1782, hc1783, hr⟩ := hr
 refine at_cut (V := Unit) (fun e => (⟨[(0, .int .i64 x1782)], [], [], [((Ty.int .i64).fact x1782 [.int .i64 x1782])]⟩ : St)) ?_ ?_
 ·clear hr
  have hr := hc1783
  clear hc1783
  by_cases h1784 : x1780 = true
  ·replace hr := ipos h1784 hr
   refine at_true rfl h1784 ?_
   refine at_region ?_
   refine s_mv rfl ?_
   refine at_lt (lt_subw rfl rfl) rfl ?_
   refine s_as rfl ?_
   refine at_nil ?_
   have hq := oinj hr
   clear hr
   subst hq
   refine at_int .i64 (IntKind.i64.wrap (a0 - 65248)) (wrap_bd .i64 _) ?_
   exact at_leaf () ⟨⟨rfl, trivial⟩, ⟨[], rfl⟩, ⟨[], rfl⟩, ⟨[0], rfl⟩⟩
  replace hr := ineg h1784 hr
  refine at_false rfl (bf h1784) ?_
  refine at_skip ?_
  have hq := oinj hr
  clear hr
  subst hq
  exact at_leaf () ⟨⟨rfl, trivial⟩, ⟨[], rfl⟩, ⟨[], rfl⟩, ⟨[2], rfl⟩⟩
 clear hc1783
 intro _
 change At _ _ (⟨[(0, .int .i64 x1782)], [], [], [((Ty.int .i64).fact x1782 [.int .i64 x1782])]⟩ : St) _
 refine at_inv 0 rfl (fun l1785 => ?_)
 replace l1785 : (-9223372036854775808) ≤ x1782 ∧ x1782 ≤ 9223372036854775807 := l1785
 refine at_then ?_
 refine at_seq ?_
 refine at_block ?_
 refine s_sr ?_
 refine s_mv rfl ?_
 refine at_lt (lt_eql rfl rfl) rfl ?_
 refine s_mv rfl ?_
 by_cases h1786 : x1782 = 32
 ·replace hr := ipos h1786 hr
  refine at_off rfl rfl (decide_eq_true (by first | exact h1786 | omega)) rfl ?_
  refine at_off rfl rfl (decide_eq_true (by first | exact h1786 | omega)) rfl ?_
  refine at_lt (lt_pick true rfl (decide_eq_true (by first | exact h1786 | omega)) rfl) rfl ?_
  refine s_as rfl ?_
  refine s_nt ?_
  refine at_true rfl rfl ?_
  refine s_sr ?_
  refine s_as rfl ?_
  refine s_as rfl ?_
  refine s_nt ?_
  refine at_ret ?_
  have hq := oinj hr
  clear hr
  subst hq
  refine at_in_ret ?_
  refine at_then_ret ?_
  refine at_int .i64 0 (by simp only [lo, hi]; omega) ?_
  refine at_int .i64 4 (by simp only [lo, hi]; omega) ?_
  exact at_return (.tuple #[.int .i64 0, .int .i64 4]) [1, 0] hS Tryz.results173 (.cons (.tmp rfl) (.cons (.tmp rfl) .nil)) rfl rfl ⟨rfl, rfl⟩
 replace hr := ineg h1786 hr
 refine at_on rfl rfl (decide_eq_false (by first | exact h1786 | omega)) ?_
 refine s_mv rfl ?_
 refine at_on rfl rfl (decide_eq_false (by first | exact h1786 | omega)) ?_
 refine at_lt (lt_eql rfl rfl) rfl ?_
 refine at_lt (lt_pick false rfl (decide_eq_false (by first | exact h1786 | omega)) rfl) rfl ?_
 refine s_as rfl ?_
 refine s_nt ?_
 by_cases h1787 : x1782 = 160
 ·replace hr := ipos h1787 hr
  refine at_true rfl (decide_eq_true (by first | exact h1787 | omega)) ?_
  refine s_sr ?_
  refine s_as rfl ?_
  refine s_as rfl ?_
  refine s_nt ?_
  refine at_ret ?_
  have hq := oinj hr
  clear hr
  subst hq
  refine at_in_ret ?_
  refine at_then_ret ?_
  refine at_int .i64 0 (by simp only [lo, hi]; omega) ?_
  refine at_int .i64 4 (by simp only [lo, hi]; omega) ?_
  exact at_return (.tuple #[.int .i64 0, .int .i64 4]) [1, 0] hS Tryz.results173 (.cons (.tmp rfl) (.cons (.tmp rfl) .nil)) rfl rfl ⟨rfl, rfl⟩
 replace hr := ineg h1787 hr
 refine at_false rfl (decide_eq_false (by first | exact h1787 | omega)) ?_
 refine s_sr ?_
 refine s_mv rfl ?_
 replace hr := obind hr
 obtain ⟨x1788, h1789, hr⟩ := hr
 refine at_int .i64 48 (by simp only [lo, hi]; omega) ?_
 refine at_int .i64 57 (by simp only [lo, hi]; omega) ?_
 refine at_hv rfl ?_
 refine hv_call0 [2, 1, 0] (f186_spec h1789) rfl rfl rfl rfl ?_
 rintro _ _ ⟨rfl, rfl⟩
 refine s_mv rfl ?_
 by_cases h1790 : x1788 = true
 ·replace hr := ipos h1790 hr
  refine at_off rfl rfl h1790 rfl ?_
  refine at_off rfl rfl h1790 rfl ?_
  refine at_lt (lt_pick true rfl h1790 rfl) rfl ?_
  refine s_mv rfl ?_
  refine at_off rfl rfl rfl rfl ?_
  refine at_off rfl rfl rfl rfl ?_
  refine at_lt (lt_pick true rfl rfl rfl) rfl ?_
  refine s_mv rfl ?_
  refine at_off rfl rfl rfl rfl ?_
  refine at_off rfl rfl rfl rfl ?_
  refine at_lt (lt_pick true rfl rfl rfl) rfl ?_
  refine s_as rfl ?_
  refine s_nt ?_
  refine at_true rfl rfl ?_
  refine s_sr ?_
  refine s_as rfl ?_
  refine s_as rfl ?_
  refine s_nt ?_
  refine at_ret ?_
  have hq := oinj hr
  clear hr
  subst hq
  refine at_in_ret ?_
  refine at_then_ret ?_
  refine at_int .i64 0 (by simp only [lo, hi]; omega) ?_
  refine at_int .i64 3 (by simp only [lo, hi]; omega) ?_
  exact at_return (.tuple #[.int .i64 0, .int .i64 3]) [1, 0] hS Tryz.results173 (.cons (.tmp rfl) (.cons (.tmp rfl) .nil)) rfl rfl ⟨rfl, rfl⟩
 replace hr := ineg h1790 hr
 refine at_on rfl rfl (bf h1790) ?_
 refine s_mv rfl ?_
 refine at_on rfl rfl (bf h1790) ?_
 refine at_lt (lt_eql rfl rfl) rfl ?_
 refine at_lt (lt_pick false rfl (bf h1790) rfl) rfl ?_
 refine s_mv rfl ?_
 by_cases h1791 : x1782 = 178
 ·replace hr := ipos h1791 hr
  refine at_off rfl rfl (decide_eq_true (by first | exact h1791 | omega)) rfl ?_
  refine at_off rfl rfl (decide_eq_true (by first | exact h1791 | omega)) rfl ?_
  refine at_lt (lt_pick true rfl (decide_eq_true (by first | exact h1791 | omega)) rfl) rfl ?_
  refine s_mv rfl ?_
  refine at_off rfl rfl rfl rfl ?_
  refine at_off rfl rfl rfl rfl ?_
  refine at_lt (lt_pick true rfl rfl rfl) rfl ?_
  refine s_as rfl ?_
  refine s_nt ?_
  refine at_true rfl rfl ?_
  refine s_sr ?_
  refine s_as rfl ?_
  refine s_as rfl ?_
  refine s_nt ?_
  refine at_ret ?_
  have hq := oinj hr
  clear hr
  subst hq
  refine at_in_ret ?_
  refine at_then_ret ?_
  refine at_int .i64 0 (by simp only [lo, hi]; omega) ?_
  refine at_int .i64 3 (by simp only [lo, hi]; omega) ?_
  exact at_return (.tuple #[.int .i64 0, .int .i64 3]) [1, 0] hS Tryz.results173 (.cons (.tmp rfl) (.cons (.tmp rfl) .nil)) rfl rfl ⟨rfl, rfl⟩
 replace hr := ineg h1791 hr
 refine at_on rfl rfl (decide_eq_false (by first | exact h1791 | omega)) ?_
 refine s_mv rfl ?_
 refine at_on rfl rfl (decide_eq_false (by first | exact h1791 | omega)) ?_
 refine at_lt (lt_eql rfl rfl) rfl ?_
 refine at_lt (lt_pick false rfl (decide_eq_false (by first | exact h1791 | omega)) rfl) rfl ?_
 refine s_mv rfl ?_
 by_cases h1792 : x1782 = 179
 ·replace hr := ipos h1792 hr
  refine at_off rfl rfl (decide_eq_true (by first | exact h1792 | omega)) rfl ?_
  refine at_off rfl rfl (decide_eq_true (by first | exact h1792 | omega)) rfl ?_
  refine at_lt (lt_pick true rfl (decide_eq_true (by first | exact h1792 | omega)) rfl) rfl ?_
  refine s_as rfl ?_
  refine s_nt ?_
  refine at_true rfl rfl ?_
  refine s_sr ?_
  refine s_as rfl ?_
  refine s_as rfl ?_
  refine s_nt ?_
  refine at_ret ?_
  have hq := oinj hr
  clear hr
  subst hq
  refine at_in_ret ?_
  refine at_then_ret ?_
  refine at_int .i64 0 (by simp only [lo, hi]; omega) ?_
  refine at_int .i64 3 (by simp only [lo, hi]; omega) ?_
  exact at_return (.tuple #[.int .i64 0, .int .i64 3]) [1, 0] hS Tryz.results173 (.cons (.tmp rfl) (.cons (.tmp rfl) .nil)) rfl rfl ⟨rfl, rfl⟩
 replace hr := ineg h1792 hr
 refine at_on rfl rfl (decide_eq_false (by first | exact h1792 | omega)) ?_
 refine s_mv rfl ?_
 refine at_on rfl rfl (decide_eq_false (by first | exact h1792 | omega)) ?_
 refine at_lt (lt_eql rfl rfl) rfl ?_
 refine at_lt (lt_pick false rfl (decide_eq_false (by first | exact h1792 | omega)) rfl) rfl ?_
 refine s_as rfl ?_
 refine s_nt ?_
 by_cases h1793 : x1782 = 185
 ·replace hr := ipos h1793 hr
  refine at_true rfl (decide_eq_true (by first | exact h1793 | omega)) ?_
  refine s_sr ?_
  refine s_as rfl ?_
  refine s_as rfl ?_
  refine s_nt ?_
  refine at_ret ?_
  have hq := oinj hr
  clear hr
  subst hq
  refine at_in_ret ?_
  refine at_then_ret ?_
  refine at_int .i64 0 (by simp only [lo, hi]; omega) ?_
  refine at_int .i64 3 (by simp only [lo, hi]; omega) ?_
  exact at_return (.tuple #[.int .i64 0, .int .i64 3]) [1, 0] hS Tryz.results173 (.cons (.tmp rfl) (.cons (.tmp rfl) .nil)) rfl rfl ⟨rfl, rfl⟩
 replace hr := ineg h1793 hr
 refine at_false rfl (decide_eq_false (by first | exact h1793 | omega)) ?_
 refine s_sr ?_
 refine s_mv rfl ?_
 replace hr := obind hr
 obtain ⟨x1794, h1795, hr⟩ := hr
 refine at_int .i64 65 (by simp only [lo, hi]; omega) ?_
 refine at_int .i64 90 (by simp only [lo, hi]; omega) ?_
 refine at_hv rfl ?_
 refine hv_call0 [4, 1, 0] (f186_spec h1795) rfl rfl rfl rfl ?_
 rintro _ _ ⟨rfl, rfl⟩
 refine s_mv rfl ?_
 by_cases h1796 : x1794 = true
 ·replace hr := ipos h1796 hr
  refine at_off rfl rfl h1796 rfl ?_
  refine at_off rfl rfl h1796 rfl ?_
  refine at_lt (lt_pick true rfl h1796 rfl) rfl ?_
  refine s_mv rfl ?_
  refine at_off rfl rfl rfl rfl ?_
  refine at_off rfl rfl rfl rfl ?_
  refine at_lt (lt_pick true rfl rfl rfl) rfl ?_
  refine s_mv rfl ?_
  refine at_off rfl rfl rfl rfl ?_
  refine at_off rfl rfl rfl rfl ?_
  refine at_lt (lt_pick true rfl rfl rfl) rfl ?_
  refine s_mv rfl ?_
  refine at_off rfl rfl rfl rfl ?_
  refine at_off rfl rfl rfl rfl ?_
  refine at_lt (lt_pick true rfl rfl rfl) rfl ?_
  refine s_mv rfl ?_
  refine at_off rfl rfl rfl rfl ?_
  refine at_off rfl rfl rfl rfl ?_
  refine at_lt (lt_pick true rfl rfl rfl) rfl ?_
  refine s_as rfl ?_
  refine s_nt ?_
  refine at_true rfl rfl ?_
  refine s_sr ?_
  refine s_as rfl ?_
  refine s_as rfl ?_
  refine s_nt ?_
  refine at_ret ?_
  have hq := oinj hr
  clear hr
  subst hq
  refine at_in_ret ?_
  refine at_then_ret ?_
  refine at_int .i64 1 (by simp only [lo, hi]; omega) ?_
  exact at_return (.tuple #[.int .i64 1, .int .i64 1]) [0, 0] hS Tryz.results173 (.cons (.tmp rfl) (.cons (.tmp rfl) .nil)) rfl rfl ⟨rfl, rfl⟩
 replace hr := ineg h1796 hr
 refine at_on rfl rfl (bf h1796) ?_
 refine s_mv rfl ?_
 replace hr := obind hr
 obtain ⟨x1797, h1798, hr⟩ := hr
 refine at_int .i64 97 (by simp only [lo, hi]; omega) ?_
 refine at_int .i64 122 (by simp only [lo, hi]; omega) ?_
 refine at_on rfl rfl (bf h1796) ?_
 refine at_hv rfl ?_
 refine hv_call0 [6, 1, 0] (f186_spec h1798) rfl rfl rfl rfl ?_
 rintro _ _ ⟨rfl, rfl⟩
 refine at_lt (lt_pick false rfl (bf h1796) rfl) rfl ?_
 refine s_mv rfl ?_
 by_cases h1799 : x1797 = true
 ·replace hr := ipos h1799 hr
  refine at_off rfl rfl h1799 rfl ?_
  refine at_off rfl rfl h1799 rfl ?_
  refine at_lt (lt_pick true rfl h1799 rfl) rfl ?_
  refine s_mv rfl ?_
  refine at_off rfl rfl rfl rfl ?_
  refine at_off rfl rfl rfl rfl ?_
  refine at_lt (lt_pick true rfl rfl rfl) rfl ?_
  refine s_mv rfl ?_
  refine at_off rfl rfl rfl rfl ?_
  refine at_off rfl rfl rfl rfl ?_
  refine at_lt (lt_pick true rfl rfl rfl) rfl ?_
  refine s_mv rfl ?_
  refine at_off rfl rfl rfl rfl ?_
  refine at_off rfl rfl rfl rfl ?_
  refine at_lt (lt_pick true rfl rfl rfl) rfl ?_
  refine s_as rfl ?_
  refine s_nt ?_
  refine at_true rfl rfl ?_
  refine s_sr ?_
  refine s_as rfl ?_
  refine s_as rfl ?_
  refine s_nt ?_
  refine at_ret ?_
  have hq := oinj hr
  clear hr
  subst hq
  refine at_in_ret ?_
  refine at_then_ret ?_
  refine at_int .i64 1 (by simp only [lo, hi]; omega) ?_
  exact at_return (.tuple #[.int .i64 1, .int .i64 1]) [0, 0] hS Tryz.results173 (.cons (.tmp rfl) (.cons (.tmp rfl) .nil)) rfl rfl ⟨rfl, rfl⟩
 replace hr := ineg h1799 hr
 refine at_on rfl rfl (bf h1799) ?_
 refine s_mv rfl ?_
 refine at_on rfl rfl (bf h1799) ?_
 refine at_lt (lt_eql rfl rfl) rfl ?_
 refine at_lt (lt_pick false rfl (bf h1799) rfl) rfl ?_
 refine s_mv rfl ?_
 by_cases h1800 : x1782 = 383
 ·replace hr := ipos h1800 hr
  refine at_off rfl rfl (decide_eq_true (by first | exact h1800 | omega)) rfl ?_
  refine at_off rfl rfl (decide_eq_true (by first | exact h1800 | omega)) rfl ?_
  refine at_lt (lt_pick true rfl (decide_eq_true (by first | exact h1800 | omega)) rfl) rfl ?_
  refine s_mv rfl ?_
  refine at_off rfl rfl rfl rfl ?_
  refine at_off rfl rfl rfl rfl ?_
  refine at_lt (lt_pick true rfl rfl rfl) rfl ?_
  refine s_mv rfl ?_
  refine at_off rfl rfl rfl rfl ?_
  refine at_off rfl rfl rfl rfl ?_
  refine at_lt (lt_pick true rfl rfl rfl) rfl ?_
  refine s_as rfl ?_
  refine s_nt ?_
  refine at_true rfl rfl ?_
  refine s_sr ?_
  refine s_as rfl ?_
  refine s_as rfl ?_
  refine s_nt ?_
  refine at_ret ?_
  have hq := oinj hr
  clear hr
  subst hq
  refine at_in_ret ?_
  refine at_then_ret ?_
  refine at_int .i64 1 (by simp only [lo, hi]; omega) ?_
  exact at_return (.tuple #[.int .i64 1, .int .i64 1]) [0, 0] hS Tryz.results173 (.cons (.tmp rfl) (.cons (.tmp rfl) .nil)) rfl rfl ⟨rfl, rfl⟩
 replace hr := ineg h1800 hr
 refine at_on rfl rfl (decide_eq_false (by first | exact h1800 | omega)) ?_
 refine s_mv rfl ?_
 refine at_on rfl rfl (decide_eq_false (by first | exact h1800 | omega)) ?_
 refine at_lt (lt_eql rfl rfl) rfl ?_
 refine at_lt (lt_pick false rfl (decide_eq_false (by first | exact h1800 | omega)) rfl) rfl ?_
 refine s_mv rfl ?_
 by_cases h1801 : x1782 = 64257
 ·replace hr := ipos h1801 hr
  refine at_off rfl rfl (decide_eq_true (by first | exact h1801 | omega)) rfl ?_
  refine at_off rfl rfl (decide_eq_true (by first | exact h1801 | omega)) rfl ?_
  refine at_lt (lt_pick true rfl (decide_eq_true (by first | exact h1801 | omega)) rfl) rfl ?_
  refine s_mv rfl ?_
  refine at_off rfl rfl rfl rfl ?_
  refine at_off rfl rfl rfl rfl ?_
  refine at_lt (lt_pick true rfl rfl rfl) rfl ?_
  refine s_as rfl ?_
  refine s_nt ?_
  refine at_true rfl rfl ?_
  refine s_sr ?_
  refine s_as rfl ?_
  refine s_as rfl ?_
  refine s_nt ?_
  refine at_ret ?_
  have hq := oinj hr
  clear hr
  subst hq
  refine at_in_ret ?_
  refine at_then_ret ?_
  refine at_int .i64 1 (by simp only [lo, hi]; omega) ?_
  exact at_return (.tuple #[.int .i64 1, .int .i64 1]) [0, 0] hS Tryz.results173 (.cons (.tmp rfl) (.cons (.tmp rfl) .nil)) rfl rfl ⟨rfl, rfl⟩
 replace hr := ineg h1801 hr
 refine at_on rfl rfl (decide_eq_false (by first | exact h1801 | omega)) ?_
 refine s_mv rfl ?_
 refine at_on rfl rfl (decide_eq_false (by first | exact h1801 | omega)) ?_
 refine at_lt (lt_eql rfl rfl) rfl ?_
 refine at_lt (lt_pick false rfl (decide_eq_false (by first | exact h1801 | omega)) rfl) rfl ?_
 refine s_mv rfl ?_
 by_cases h1802 : x1782 = 64258
 ·replace hr := ipos h1802 hr
  refine at_off rfl rfl (decide_eq_true (by first | exact h1802 | omega)) rfl ?_
  refine at_off rfl rfl (decide_eq_true (by first | exact h1802 | omega)) rfl ?_
  refine at_lt (lt_pick true rfl (decide_eq_true (by first | exact h1802 | omega)) rfl) rfl ?_
  refine s_as rfl ?_
  refine s_nt ?_
  refine at_true rfl rfl ?_
  refine s_sr ?_
  refine s_as rfl ?_
  refine s_as rfl ?_
  refine s_nt ?_
  refine at_ret ?_
  have hq := oinj hr
  clear hr
  subst hq
  refine at_in_ret ?_
  refine at_then_ret ?_
  refine at_int .i64 1 (by simp only [lo, hi]; omega) ?_
  exact at_return (.tuple #[.int .i64 1, .int .i64 1]) [0, 0] hS Tryz.results173 (.cons (.tmp rfl) (.cons (.tmp rfl) .nil)) rfl rfl ⟨rfl, rfl⟩
 replace hr := ineg h1802 hr
 refine at_on rfl rfl (decide_eq_false (by first | exact h1802 | omega)) ?_
 refine s_mv rfl ?_
 replace hr := obind hr
 obtain ⟨x1803, h1804, hr⟩ := hr
 refine at_str ([195, 128, 195, 136, 195, 140, 195, 146, 195, 153, 195, 160, 195, 168, 195, 172, 195, 178, 195, 185, 195, 129, 195, 137, 195, 141, 195, 147, 195, 154, 195, 157, 195, 161, 195, 169, 195, 173, 195, 179, 195, 186, 195, 189, 196, 134, 196, 135, 196, 185, 196, 186, 197, 131, 197, 132, 197, 148, 197, 149, 197, 154, 197, 155, 197, 185, 197, 186, 195, 130, 195, 138, 195, 142, 195, 148, 195, 155, 195, 162, 195, 170, 195, 174, 195, 180, 195, 187, 196, 136, 196, 137, 196, 156, 196, 157, 196, 164, 196, 165, 196, 180, 196, 181, 197, 156, 197, 157, 197, 180, 197, 181, 197, 182, 197, 183, 195, 131, 195, 145, 195, 149, 195, 163, 195, 177, 195, 181, 196, 168, 196, 169, 197, 168, 197, 169, 196, 128, 196, 129, 196, 146, 196, 147, 196, 170, 196, 171, 197, 140, 197, 141, 197, 170, 197, 171, 196, 130, 196, 131, 196, 148, 196, 149, 196, 158, 196, 159, 196, 172, 196, 173, 197, 142, 197, 143, 197, 172, 197, 173, 196, 138, 196, 139, 196, 150, 196, 151, 196, 160, 196, 161, 196, 176, 197, 187, 197, 188, 195, 132, 195, 139, 195, 143, 195, 150, 195, 156, 195, 164, 195, 171, 195, 175, 195, 182, 195, 188, 195, 191, 197, 184, 195, 133, 195, 165, 197, 174, 197, 175, 197, 144, 197, 145, 197, 176, 197, 177, 196, 140, 196, 141, 196, 142, 196, 143, 196, 154, 196, 155, 197, 135, 197, 136, 197, 152, 197, 153, 197, 160, 197, 161, 197, 164, 197, 165, 197, 189, 197, 190, 196, 189, 196, 190, 195, 135, 195, 167, 196, 162, 196, 163, 196, 182, 196, 183, 196, 187, 196, 188, 197, 133, 197, 134, 197, 150, 197, 151, 197, 158, 197, 159, 197, 162, 197, 163, 196, 132, 196, 133, 196, 152, 196, 153, 196, 174, 196, 175, 197, 178, 197, 179, 195, 134, 195, 166, 195, 152, 195, 184, 195, 144, 195, 176, 195, 158, 195, 190, 195, 159, 196, 144, 196, 145, 196, 166, 196, 167, 196, 177, 197, 129, 197, 130, 197, 146, 197, 147, 197, 138, 197, 139, 197, 166, 197, 167] : Str) (by decide) ?_
 refine at_on rfl rfl (decide_eq_false (by first | exact h1802 | omega)) ?_
 refine at_hv rfl ?_
 refine hv_call0 [0, 7] (f187_spec h1804) rfl rfl rfl rfl ?_
 rintro _ _ ⟨rfl, rfl⟩
 refine at_lt (lt_pick false rfl (decide_eq_false (by first | exact h1802 | omega)) rfl) rfl ?_
 refine s_as rfl ?_
 refine s_nt ?_
 by_cases h1805 : x1803 = true
 ·replace hr := ipos h1805 hr
  refine at_true rfl h1805 ?_
  refine s_sr ?_
  refine s_as rfl ?_
  refine s_as rfl ?_
  refine s_nt ?_
  refine at_ret ?_
  have hq := oinj hr
  clear hr
  subst hq
  refine at_in_ret ?_
  refine at_then_ret ?_
  refine at_int .i64 1 (by simp only [lo, hi]; omega) ?_
  exact at_return (.tuple #[.int .i64 1, .int .i64 1]) [0, 0] hS Tryz.results173 (.cons (.tmp rfl) (.cons (.tmp rfl) .nil)) rfl rfl ⟨rfl, rfl⟩
 replace hr := ineg h1805 hr
 refine at_false rfl (bf h1805) ?_
 refine s_sr ?_
 refine s_mv rfl ?_
 replace hr := obind hr
 obtain ⟨x1806, h1807, hr⟩ := hr
 refine at_int .i64 768 (by simp only [lo, hi]; omega) ?_
 refine at_int .i64 772 (by simp only [lo, hi]; omega) ?_
 refine at_hv rfl ?_
 refine hv_call0 [9, 1, 0] (f186_spec h1807) rfl rfl rfl rfl ?_
 rintro _ _ ⟨rfl, rfl⟩
 refine s_mv rfl ?_
 by_cases h1808 : x1806 = true
 ·replace hr := ipos h1808 hr
  refine at_off rfl rfl h1808 rfl ?_
  refine at_off rfl rfl h1808 rfl ?_
  refine at_lt (lt_pick true rfl h1808 rfl) rfl ?_
  refine s_mv rfl ?_
  refine at_off rfl rfl rfl rfl ?_
  refine at_off rfl rfl rfl rfl ?_
  refine at_lt (lt_pick true rfl rfl rfl) rfl ?_
  refine s_mv rfl ?_
  refine at_off rfl rfl rfl rfl ?_
  refine at_off rfl rfl rfl rfl ?_
  refine at_lt (lt_pick true rfl rfl rfl) rfl ?_
  refine s_mv rfl ?_
  refine at_off rfl rfl rfl rfl ?_
  refine at_off rfl rfl rfl rfl ?_
  refine at_lt (lt_pick true rfl rfl rfl) rfl ?_
  refine s_mv rfl ?_
  refine at_off rfl rfl rfl rfl ?_
  refine at_off rfl rfl rfl rfl ?_
  refine at_lt (lt_pick true rfl rfl rfl) rfl ?_
  refine s_as rfl ?_
  refine s_nt ?_
  refine at_true rfl rfl ?_
  refine s_sr ?_
  refine s_as rfl ?_
  refine s_as rfl ?_
  refine s_nt ?_
  refine at_ret ?_
  have hq := oinj hr
  clear hr
  subst hq
  refine at_in_ret ?_
  refine at_then_ret ?_
  refine at_int .i64 0 (by simp only [lo, hi]; omega) ?_
  refine at_int .i64 2 (by simp only [lo, hi]; omega) ?_
  exact at_return (.tuple #[.int .i64 0, .int .i64 2]) [1, 0] hS Tryz.results173 (.cons (.tmp rfl) (.cons (.tmp rfl) .nil)) rfl rfl ⟨rfl, rfl⟩
 replace hr := ineg h1808 hr
 refine at_on rfl rfl (bf h1808) ?_
 refine s_mv rfl ?_
 replace hr := obind hr
 obtain ⟨x1809, h1810, hr⟩ := hr
 refine at_int .i64 774 (by simp only [lo, hi]; omega) ?_
 refine at_int .i64 776 (by simp only [lo, hi]; omega) ?_
 refine at_on rfl rfl (bf h1808) ?_
 refine at_hv rfl ?_
 refine hv_call0 [11, 1, 0] (f186_spec h1810) rfl rfl rfl rfl ?_
 rintro _ _ ⟨rfl, rfl⟩
 refine at_lt (lt_pick false rfl (bf h1808) rfl) rfl ?_
 refine s_mv rfl ?_
 by_cases h1811 : x1809 = true
 ·replace hr := ipos h1811 hr
  refine at_off rfl rfl h1811 rfl ?_
  refine at_off rfl rfl h1811 rfl ?_
  refine at_lt (lt_pick true rfl h1811 rfl) rfl ?_
  refine s_mv rfl ?_
  refine at_off rfl rfl rfl rfl ?_
  refine at_off rfl rfl rfl rfl ?_
  refine at_lt (lt_pick true rfl rfl rfl) rfl ?_
  refine s_mv rfl ?_
  refine at_off rfl rfl rfl rfl ?_
  refine at_off rfl rfl rfl rfl ?_
  refine at_lt (lt_pick true rfl rfl rfl) rfl ?_
  refine s_mv rfl ?_
  refine at_off rfl rfl rfl rfl ?_
  refine at_off rfl rfl rfl rfl ?_
  refine at_lt (lt_pick true rfl rfl rfl) rfl ?_
  refine s_as rfl ?_
  refine s_nt ?_
  refine at_true rfl rfl ?_
  refine s_sr ?_
  refine s_as rfl ?_
  refine s_as rfl ?_
  refine s_nt ?_
  refine at_ret ?_
  have hq := oinj hr
  clear hr
  subst hq
  refine at_in_ret ?_
  refine at_then_ret ?_
  refine at_int .i64 0 (by simp only [lo, hi]; omega) ?_
  refine at_int .i64 2 (by simp only [lo, hi]; omega) ?_
  exact at_return (.tuple #[.int .i64 0, .int .i64 2]) [1, 0] hS Tryz.results173 (.cons (.tmp rfl) (.cons (.tmp rfl) .nil)) rfl rfl ⟨rfl, rfl⟩
 replace hr := ineg h1811 hr
 refine at_on rfl rfl (bf h1811) ?_
 refine s_mv rfl ?_
 replace hr := obind hr
 obtain ⟨x1812, h1813, hr⟩ := hr
 refine at_int .i64 778 (by simp only [lo, hi]; omega) ?_
 refine at_int .i64 780 (by simp only [lo, hi]; omega) ?_
 refine at_on rfl rfl (bf h1811) ?_
 refine at_hv rfl ?_
 refine hv_call0 [13, 1, 0] (f186_spec h1813) rfl rfl rfl rfl ?_
 rintro _ _ ⟨rfl, rfl⟩
 refine at_lt (lt_pick false rfl (bf h1811) rfl) rfl ?_
 refine s_mv rfl ?_
 by_cases h1814 : x1812 = true
 ·replace hr := ipos h1814 hr
  refine at_off rfl rfl h1814 rfl ?_
  refine at_off rfl rfl h1814 rfl ?_
  refine at_lt (lt_pick true rfl h1814 rfl) rfl ?_
  refine s_mv rfl ?_
  refine at_off rfl rfl rfl rfl ?_
  refine at_off rfl rfl rfl rfl ?_
  refine at_lt (lt_pick true rfl rfl rfl) rfl ?_
  refine s_mv rfl ?_
  refine at_off rfl rfl rfl rfl ?_
  refine at_off rfl rfl rfl rfl ?_
  refine at_lt (lt_pick true rfl rfl rfl) rfl ?_
  refine s_as rfl ?_
  refine s_nt ?_
  refine at_true rfl rfl ?_
  refine s_sr ?_
  refine s_as rfl ?_
  refine s_as rfl ?_
  refine s_nt ?_
  refine at_ret ?_
  have hq := oinj hr
  clear hr
  subst hq
  refine at_in_ret ?_
  refine at_then_ret ?_
  refine at_int .i64 0 (by simp only [lo, hi]; omega) ?_
  refine at_int .i64 2 (by simp only [lo, hi]; omega) ?_
  exact at_return (.tuple #[.int .i64 0, .int .i64 2]) [1, 0] hS Tryz.results173 (.cons (.tmp rfl) (.cons (.tmp rfl) .nil)) rfl rfl ⟨rfl, rfl⟩
 replace hr := ineg h1814 hr
 refine at_on rfl rfl (bf h1814) ?_
 refine s_mv rfl ?_
 refine at_on rfl rfl (bf h1814) ?_
 refine at_lt (lt_eql rfl rfl) rfl ?_
 refine at_lt (lt_pick false rfl (bf h1814) rfl) rfl ?_
 refine s_mv rfl ?_
 by_cases h1815 : x1782 = 803
 ·replace hr := ipos h1815 hr
  refine at_off rfl rfl (decide_eq_true (by first | exact h1815 | omega)) rfl ?_
  refine at_off rfl rfl (decide_eq_true (by first | exact h1815 | omega)) rfl ?_
  refine at_lt (lt_pick true rfl (decide_eq_true (by first | exact h1815 | omega)) rfl) rfl ?_
  refine s_mv rfl ?_
  refine at_off rfl rfl rfl rfl ?_
  refine at_off rfl rfl rfl rfl ?_
  refine at_lt (lt_pick true rfl rfl rfl) rfl ?_
  refine s_as rfl ?_
  refine s_nt ?_
  refine at_true rfl rfl ?_
  refine s_sr ?_
  refine s_as rfl ?_
  refine s_as rfl ?_
  refine s_nt ?_
  refine at_ret ?_
  have hq := oinj hr
  clear hr
  subst hq
  refine at_in_ret ?_
  refine at_then_ret ?_
  refine at_int .i64 0 (by simp only [lo, hi]; omega) ?_
  refine at_int .i64 2 (by simp only [lo, hi]; omega) ?_
  exact at_return (.tuple #[.int .i64 0, .int .i64 2]) [1, 0] hS Tryz.results173 (.cons (.tmp rfl) (.cons (.tmp rfl) .nil)) rfl rfl ⟨rfl, rfl⟩
 replace hr := ineg h1815 hr
 refine at_on rfl rfl (decide_eq_false (by first | exact h1815 | omega)) ?_
 refine s_mv rfl ?_
 refine at_on rfl rfl (decide_eq_false (by first | exact h1815 | omega)) ?_
 refine at_lt (lt_eql rfl rfl) rfl ?_
 refine at_lt (lt_pick false rfl (decide_eq_false (by first | exact h1815 | omega)) rfl) rfl ?_
 refine s_mv rfl ?_
 by_cases h1816 : x1782 = 807
 ·replace hr := ipos h1816 hr
  refine at_off rfl rfl (decide_eq_true (by first | exact h1816 | omega)) rfl ?_
  refine at_off rfl rfl (decide_eq_true (by first | exact h1816 | omega)) rfl ?_
  refine at_lt (lt_pick true rfl (decide_eq_true (by first | exact h1816 | omega)) rfl) rfl ?_
  refine s_as rfl ?_
  refine s_nt ?_
  refine at_true rfl rfl ?_
  refine s_sr ?_
  refine s_as rfl ?_
  refine s_as rfl ?_
  refine s_nt ?_
  refine at_ret ?_
  have hq := oinj hr
  clear hr
  subst hq
  refine at_in_ret ?_
  refine at_then_ret ?_
  refine at_int .i64 0 (by simp only [lo, hi]; omega) ?_
  refine at_int .i64 2 (by simp only [lo, hi]; omega) ?_
  exact at_return (.tuple #[.int .i64 0, .int .i64 2]) [1, 0] hS Tryz.results173 (.cons (.tmp rfl) (.cons (.tmp rfl) .nil)) rfl rfl ⟨rfl, rfl⟩
 replace hr := ineg h1816 hr
 refine at_on rfl rfl (decide_eq_false (by first | exact h1816 | omega)) ?_
 refine s_mv rfl ?_
 refine at_on rfl rfl (decide_eq_false (by first | exact h1816 | omega)) ?_
 refine at_lt (lt_eql rfl rfl) rfl ?_
 refine at_lt (lt_pick false rfl (decide_eq_false (by first | exact h1816 | omega)) rfl) rfl ?_
 refine s_as rfl ?_
 refine s_nt ?_
 by_cases h1817 : x1782 = 808
 ·replace hr := ipos h1817 hr
  refine at_true rfl (decide_eq_true (by first | exact h1817 | omega)) ?_
  refine s_sr ?_
  refine s_as rfl ?_
  refine s_as rfl ?_
  refine s_nt ?_
  refine at_ret ?_
  have hq := oinj hr
  clear hr
  subst hq
  refine at_in_ret ?_
  refine at_then_ret ?_
  refine at_int .i64 0 (by simp only [lo, hi]; omega) ?_
  refine at_int .i64 2 (by simp only [lo, hi]; omega) ?_
  exact at_return (.tuple #[.int .i64 0, .int .i64 2]) [1, 0] hS Tryz.results173 (.cons (.tmp rfl) (.cons (.tmp rfl) .nil)) rfl rfl ⟨rfl, rfl⟩
 replace hr := ineg h1817 hr
 refine at_false rfl (decide_eq_false (by first | exact h1817 | omega)) ?_
 refine s_sr ?_
 refine s_mv rfl ?_
 replace hr := obind hr
 obtain ⟨x1818, h1819, hr⟩ := hr
 refine at_int .i64 913 (by simp only [lo, hi]; omega) ?_
 refine at_int .i64 929 (by simp only [lo, hi]; omega) ?_
 refine at_hv rfl ?_
 refine hv_call0 [15, 1, 0] (f186_spec h1819) rfl rfl rfl rfl ?_
 rintro _ _ ⟨rfl, rfl⟩
 refine s_mv rfl ?_
 by_cases h1820 : x1818 = true
 ·replace hr := ipos h1820 hr
  refine at_off rfl rfl h1820 rfl ?_
  refine at_off rfl rfl h1820 rfl ?_
  refine at_lt (lt_pick true rfl h1820 rfl) rfl ?_
  refine s_mv rfl ?_
  refine at_off rfl rfl rfl rfl ?_
  refine at_off rfl rfl rfl rfl ?_
  refine at_lt (lt_pick true rfl rfl rfl) rfl ?_
  refine s_mv rfl ?_
  refine at_off rfl rfl rfl rfl ?_
  refine at_off rfl rfl rfl rfl ?_
  refine at_lt (lt_pick true rfl rfl rfl) rfl ?_
  refine s_as rfl ?_
  refine s_nt ?_
  refine at_true rfl rfl ?_
  refine s_sr ?_
  refine s_as rfl ?_
  refine s_as rfl ?_
  refine s_nt ?_
  refine at_ret ?_
  have hq := oinj hr
  clear hr
  subst hq
  refine at_in_ret ?_
  refine at_then_ret ?_
  refine at_int .i64 2 (by simp only [lo, hi]; omega) ?_
  refine at_int .i64 1 (by simp only [lo, hi]; omega) ?_
  exact at_return (.tuple #[.int .i64 2, .int .i64 1]) [1, 0] hS Tryz.results173 (.cons (.tmp rfl) (.cons (.tmp rfl) .nil)) rfl rfl ⟨rfl, rfl⟩
 replace hr := ineg h1820 hr
 refine at_on rfl rfl (bf h1820) ?_
 refine s_mv rfl ?_
 replace hr := obind hr
 obtain ⟨x1821, h1822, hr⟩ := hr
 refine at_int .i64 931 (by simp only [lo, hi]; omega) ?_
 refine at_int .i64 937 (by simp only [lo, hi]; omega) ?_
 refine at_on rfl rfl (bf h1820) ?_
 refine at_hv rfl ?_
 refine hv_call0 [17, 1, 0] (f186_spec h1822) rfl rfl rfl rfl ?_
 rintro _ _ ⟨rfl, rfl⟩
 refine at_lt (lt_pick false rfl (bf h1820) rfl) rfl ?_
 refine s_mv rfl ?_
 by_cases h1823 : x1821 = true
 ·replace hr := ipos h1823 hr
  refine at_off rfl rfl h1823 rfl ?_
  refine at_off rfl rfl h1823 rfl ?_
  refine at_lt (lt_pick true rfl h1823 rfl) rfl ?_
  refine s_mv rfl ?_
  refine at_off rfl rfl rfl rfl ?_
  refine at_off rfl rfl rfl rfl ?_
  refine at_lt (lt_pick true rfl rfl rfl) rfl ?_
  refine s_as rfl ?_
  refine s_nt ?_
  refine at_true rfl rfl ?_
  refine s_sr ?_
  refine s_as rfl ?_
  refine s_as rfl ?_
  refine s_nt ?_
  refine at_ret ?_
  have hq := oinj hr
  clear hr
  subst hq
  refine at_in_ret ?_
  refine at_then_ret ?_
  refine at_int .i64 2 (by simp only [lo, hi]; omega) ?_
  refine at_int .i64 1 (by simp only [lo, hi]; omega) ?_
  exact at_return (.tuple #[.int .i64 2, .int .i64 1]) [1, 0] hS Tryz.results173 (.cons (.tmp rfl) (.cons (.tmp rfl) .nil)) rfl rfl ⟨rfl, rfl⟩
 replace hr := ineg h1823 hr
 refine at_on rfl rfl (bf h1823) ?_
 refine s_mv rfl ?_
 replace hr := obind hr
 obtain ⟨x1824, h1825, hr⟩ := hr
 refine at_int .i64 945 (by simp only [lo, hi]; omega) ?_
 refine at_int .i64 969 (by simp only [lo, hi]; omega) ?_
 refine at_on rfl rfl (bf h1823) ?_
 refine at_hv rfl ?_
 refine hv_call0 [19, 1, 0] (f186_spec h1825) rfl rfl rfl rfl ?_
 rintro _ _ ⟨rfl, rfl⟩
 refine at_lt (lt_pick false rfl (bf h1823) rfl) rfl ?_
 refine s_mv rfl ?_
 by_cases h1826 : x1824 = true
 ·replace hr := ipos h1826 hr
  refine at_off rfl rfl h1826 rfl ?_
  refine at_off rfl rfl h1826 rfl ?_
  refine at_lt (lt_pick true rfl h1826 rfl) rfl ?_
  refine s_as rfl ?_
  refine s_nt ?_
  refine at_true rfl rfl ?_
  refine s_sr ?_
  refine s_as rfl ?_
  refine s_as rfl ?_
  refine s_nt ?_
  refine at_ret ?_
  have hq := oinj hr
  clear hr
  subst hq
  refine at_in_ret ?_
  refine at_then_ret ?_
  refine at_int .i64 2 (by simp only [lo, hi]; omega) ?_
  refine at_int .i64 1 (by simp only [lo, hi]; omega) ?_
  exact at_return (.tuple #[.int .i64 2, .int .i64 1]) [1, 0] hS Tryz.results173 (.cons (.tmp rfl) (.cons (.tmp rfl) .nil)) rfl rfl ⟨rfl, rfl⟩
 replace hr := ineg h1826 hr
 refine at_on rfl rfl (bf h1826) ?_
 refine s_mv rfl ?_
 replace hr := obind hr
 obtain ⟨x1827, h1828, hr⟩ := hr
 refine at_str ([206, 134, 206, 136, 206, 137, 206, 138, 206, 140, 206, 142, 206, 143, 206, 172, 206, 173, 206, 174, 206, 175, 207, 140, 207, 141, 207, 142, 206, 170, 206, 171, 207, 138, 207, 139] : Str) (by decide) ?_
 refine at_on rfl rfl (bf h1826) ?_
 refine at_hv rfl ?_
 refine hv_call0 [0, 20] (f187_spec h1828) rfl rfl rfl rfl ?_
 rintro _ _ ⟨rfl, rfl⟩
 refine at_lt (lt_pick false rfl (bf h1826) rfl) rfl ?_
 refine s_as rfl ?_
 refine s_nt ?_
 by_cases h1829 : x1827 = true
 ·replace hr := ipos h1829 hr
  refine at_true rfl h1829 ?_
  refine s_sr ?_
  refine s_as rfl ?_
  refine s_as rfl ?_
  refine s_nt ?_
  refine at_ret ?_
  have hq := oinj hr
  clear hr
  subst hq
  refine at_in_ret ?_
  refine at_then_ret ?_
  refine at_int .i64 2 (by simp only [lo, hi]; omega) ?_
  refine at_int .i64 1 (by simp only [lo, hi]; omega) ?_
  exact at_return (.tuple #[.int .i64 2, .int .i64 1]) [1, 0] hS Tryz.results173 (.cons (.tmp rfl) (.cons (.tmp rfl) .nil)) rfl rfl ⟨rfl, rfl⟩
 replace hr := ineg h1829 hr
 refine at_false rfl (bf h1829) ?_
 refine s_sr ?_
 refine s_mv rfl ?_
 replace hr := obind hr
 obtain ⟨x1830, h1831, hr⟩ := hr
 refine at_int .i64 1040 (by simp only [lo, hi]; omega) ?_
 refine at_int .i64 1103 (by simp only [lo, hi]; omega) ?_
 refine at_hv rfl ?_
 refine hv_call0 [22, 1, 0] (f186_spec h1831) rfl rfl rfl rfl ?_
 rintro _ _ ⟨rfl, rfl⟩
 refine s_mv rfl ?_
 by_cases h1832 : x1830 = true
 ·replace hr := ipos h1832 hr
  refine at_off rfl rfl h1832 rfl ?_
  refine at_off rfl rfl h1832 rfl ?_
  refine at_lt (lt_pick true rfl h1832 rfl) rfl ?_
  refine s_as rfl ?_
  refine s_nt ?_
  refine at_true rfl rfl ?_
  refine s_sr ?_
  refine s_as rfl ?_
  refine s_as rfl ?_
  refine s_nt ?_
  refine at_ret ?_
  have hq := oinj hr
  clear hr
  subst hq
  refine at_in_ret ?_
  refine at_then_ret ?_
  refine at_int .i64 3 (by simp only [lo, hi]; omega) ?_
  refine at_int .i64 1 (by simp only [lo, hi]; omega) ?_
  exact at_return (.tuple #[.int .i64 3, .int .i64 1]) [1, 0] hS Tryz.results173 (.cons (.tmp rfl) (.cons (.tmp rfl) .nil)) rfl rfl ⟨rfl, rfl⟩
 replace hr := ineg h1832 hr
 refine at_on rfl rfl (bf h1832) ?_
 refine s_mv rfl ?_
 replace hr := obind hr
 obtain ⟨x1833, h1834, hr⟩ := hr
 refine at_str ([208, 129, 209, 145, 208, 135, 209, 151, 208, 132, 209, 148, 210, 144, 210, 145, 208, 142, 209, 158, 208, 134, 209, 150] : Str) (by decide) ?_
 refine at_on rfl rfl (bf h1832) ?_
 refine at_hv rfl ?_
 refine hv_call0 [0, 23] (f187_spec h1834) rfl rfl rfl rfl ?_
 rintro _ _ ⟨rfl, rfl⟩
 refine at_lt (lt_pick false rfl (bf h1832) rfl) rfl ?_
 refine s_as rfl ?_
 refine s_nt ?_
 by_cases h1835 : x1833 = true
 ·replace hr := ipos h1835 hr
  refine at_true rfl h1835 ?_
  refine s_sr ?_
  refine s_as rfl ?_
  refine s_as rfl ?_
  refine s_nt ?_
  refine at_ret ?_
  have hq := oinj hr
  clear hr
  subst hq
  refine at_in_ret ?_
  refine at_then_ret ?_
  refine at_int .i64 3 (by simp only [lo, hi]; omega) ?_
  refine at_int .i64 1 (by simp only [lo, hi]; omega) ?_
  exact at_return (.tuple #[.int .i64 3, .int .i64 1]) [1, 0] hS Tryz.results173 (.cons (.tmp rfl) (.cons (.tmp rfl) .nil)) rfl rfl ⟨rfl, rfl⟩
 replace hr := ineg h1835 hr
 refine at_false rfl (bf h1835) ?_
 refine s_sr ?_
 refine s_mv rfl ?_
 replace hr := obind hr
 obtain ⟨x1836, h1837, hr⟩ := hr
 refine at_int .i64 33 (by simp only [lo, hi]; omega) ?_
 refine at_int .i64 126 (by simp only [lo, hi]; omega) ?_
 refine at_hv rfl ?_
 refine hv_call0 [25, 1, 0] (f186_spec h1837) rfl rfl rfl rfl ?_
 rintro _ _ ⟨rfl, rfl⟩
 refine s_as rfl ?_
 refine s_nt ?_
 by_cases h1838 : x1836 = true
 ·replace hr := ipos h1838 hr
  refine at_true rfl h1838 ?_
  refine s_sr ?_
  refine s_as rfl ?_
  refine s_as rfl ?_
  refine s_nt ?_
  refine at_ret ?_
  have hq := oinj hr
  clear hr
  subst hq
  refine at_in_ret ?_
  refine at_then_ret ?_
  refine at_int .i64 0 (by simp only [lo, hi]; omega) ?_
  refine at_int .i64 5 (by simp only [lo, hi]; omega) ?_
  exact at_return (.tuple #[.int .i64 0, .int .i64 5]) [1, 0] hS Tryz.results173 (.cons (.tmp rfl) (.cons (.tmp rfl) .nil)) rfl rfl ⟨rfl, rfl⟩
 replace hr := ineg h1838 hr
 refine at_false rfl (bf h1838) ?_
 refine at_skip ?_
 refine at_in ?_
 refine s_tsr ?_
 refine s_as rfl ?_
 refine s_as rfl ?_
 refine s_nt ?_
 refine at_ret ?_
 have hq := oinj hr
 clear hr
 subst hq
 refine at_int .i64 0 (by simp only [lo, hi]; omega) ?_
 exact at_return (.tuple #[.int .i64 0, .int .i64 0]) [0, 0] hS Tryz.results173 (.cons (.tmp rfl) (.cons (.tmp rfl) .nil)) rfl rfl ⟨rfl, rfl⟩
/-! 153 bookplate/bookplateref04.Has -/
def m153 (a0 : Int) : Option Bool :=
  (m173 a0).bind fun x1840 =>
  some (!decide (x1840.2 = 0))
def post153 (r : Bool) (v : Value) (fs : List Fact) : Prop := v = .bool r ∧ fs = []
theorem en153 : Enters Tryz.prog 153 := ⟨_, Tryz.func153, by kernel_rfl, rfl⟩
theorem f153_spec {a0 : Int} {r : Bool} (hr : m153 a0 = some r) : Spec Tryz.prog 153 [.int .i64 a0] [((Ty.int .i64).fact a0 [.int .i64 a0])] (post153 r) := by
 refine spec_start (N := 12) Tryz.func153 (by kernel_rfl) rfl rfl rfl ?_
 intro g hS
 unfold m153 at hr
 refine at_inv 0 rfl (fun l1839 => ?_)
 replace l1839 : (-9223372036854775808) ≤ a0 ∧ a0 ≤ 9223372036854775807 := l1839
 refine s_sr ?_
 refine s_as rfl ?_
 refine s_ntsr ?_
 refine s_mv rfl ?_
 replace hr := obind hr
 obtain ⟨x1840, h1841, hr⟩ := hr
 refine at_hv rfl ?_
 refine hv_call0 [0] (f173_spec h1841) rfl rfl rfl rfl ?_
 rintro _ _ ⟨rfl, rfl⟩
 refine at_inv 0 rfl (fun l1842 => ?_)
 replace l1842 : (-9223372036854775808) ≤ x1840.1 ∧ x1840.1 ≤ 9223372036854775807 := l1842
 refine at_inv 1 rfl (fun l1843 => ?_)
 replace l1843 : (-9223372036854775808) ≤ x1840.2 ∧ x1840.2 ≤ 9223372036854775807 := l1843
 refine s_mv rfl ?_
 refine at_lt (lt_extract rfl rfl) rfl ?_
 refine at_lt (lt_extract rfl rfl) rfl ?_
 refine s_as rfl ?_
 refine s_as rfl ?_
 refine s_ntsr ?_
 refine s_mv rfl ?_
 refine at_lt (lt_neq rfl rfl) rfl ?_
 refine s_as rfl ?_
 refine s_nt ?_
 refine at_ret ?_
 have hq := oinj hr
 clear hr
 subst hq
 exact at_return (.bool (!decide (x1840.2 = 0))) [] hS Tryz.results153 (.cons (.tmp rfl) .nil) rfl rfl ⟨rfl, rfl⟩
/-! 116 bookplate/bookplateref04.Decode -/
def m116_l1 (a0 : Str) : Nat → (List Int) → Int → Option (Fl ((List Int) × Bool) (List Int))
  | 0, _, _ => none
  | k + 1, x1844, x1845 =>
    if x1845 < (a0.length : Int) then
     (m152 a0 x1845).bind fun x1859 =>
     if x1859.2 = 0 then
      some (Fl.ret (([] : (List Int)), false))
     else
      (m153 x1859.1).bind fun x1864 =>
      if x1864 = true then
       if x1844.length + 1 ≤ 17592186044416 then
        m116_l1 a0 k (x1844 ++ [x1859.1]) (IntKind.i64.wrap (x1845 + x1859.2))
       else none
      else
       some (Fl.ret (([] : (List Int)), false))
    else
     some (Fl.go x1844)
def m116 (a0 : Str) : Option ((List Int) × Bool) :=
  (m116_l1 a0 (a0.length + 1) ([] : (List Int)) 0).bind fun r => match r with
  | .ret x => some x
  | .go x1849 =>
   some (x1849, true)
def post116 (r : ((List Int) × Bool)) (v : Value) (fs : List Fact) : Prop := ∃ s1872 : Value, v = .tuple #[s1872, .bool r.2] ∧ fs = [((Ty.slice (Ty.int .i64)).fact r.1 [s1872])]
theorem en116 : Enters Tryz.prog 116 := ⟨_, Tryz.func116, by kernel_rfl, rfl⟩
theorem f116_spec {a0 : Str} {r : ((List Int) × Bool)} (hr : m116 a0 = some r) : Spec Tryz.prog 116 [str a0] [(Ty.str.fact a0 [str a0])] (post116 r) := by
 refine spec_start (N := 33) Tryz.func116 (by kernel_rfl) rfl rfl rfl ?_
 intro g hS
 unfold m116 at hr
 refine s_sr ?_
 refine s_as rfl ?_
 refine s_as rfl ?_
 refine s_ntsr ?_
 refine s_as rfl ?_
 refine s_nt ?_
 refine at_seq ?_
 refine s_sr ?_
 refine s_as rfl ?_
 refine s_nt ?_
 refine at_rownew none 3 1 ?_
 refine at_rownil (Ty.int .i64) ?_
 refine at_mkpure (q := (([] : (List Int)).length * (Ty.int .i64).bytes ≤ 140737488355328)) (by simp only [List.nil_append, List.cons_append, List.length_cons, List.length_nil, Ty.int_bytes, Ty.u8_bytes, Ty.str_bytes, Ty.slice_bytes, Ty.bool_bytes, nb] <;> omega) ?_
 refine at_int .i64 0 (by simp only [lo, hi]; omega) ?_
 replace hr := obind hr
 obtain ⟨r1853, hl1854, hk1855⟩ := hr
 refine at_cutP (V := ((List Int)) × (Value × Nat × (List Value))) (fun v => r1853 = Fl.go v.1) (fun v => (⟨[(4, v.2.1)], [], [⟨v.2.1, 3, 1, v.2.2.1, v.2.2.2⟩], [((Ty.int .i64).row v.1 v.2.2.2), (pureF (v.1.length * (Ty.int .i64).bytes ≤ 140737488355328))]⟩ : St)) ?_ ?_
 ·refine at_block ?_
  refine at_loopW (σ := ((List Int) × Int)) (V := Value × Nat × (List Value)) (r := r1853) (fun n s => m116_l1 a0 n s.1 s.2) (fun s e => (⟨[(0, str a0), (4, e.1), (5, .int .i64 s.2)], [], [⟨e.1, 3, 1, e.2.1, e.2.2⟩], [((Ty.int .i64).row s.1 e.2.2), (pureF (s.1.length * (Ty.int .i64).bytes ≤ 140737488355328)), ((Ty.int .i64).fact s.2 [.int .i64 s.2]), (Ty.str.fact a0 [str a0])]⟩ : St)) (fun _ => rfl) _ (([] : (List Int)), 0) ((.slice none 0 0), 0, []) hl1854 ⟨⟨rfl, ⟨rfl, ⟨rfl, trivial⟩⟩⟩, ⟨[], rfl⟩, ⟨[true], rfl⟩, ⟨[2, 1, 0, 3], rfl⟩⟩ ?_
  clear hl1854
  intro n s hr e
  obtain ⟨x1844, x1845⟩ := s
  obtain ⟨v1846, n1847, i1848⟩ := e
  change m116_l1 a0 (n + 1) x1844 x1845 = some r1853 at hr
  change At _ _ (⟨[(0, str a0), (4, v1846), (5, .int .i64 x1845)], [], [⟨v1846, 3, 1, n1847, i1848⟩], [((Ty.int .i64).row x1844 i1848), (pureF (x1844.length * (Ty.int .i64).bytes ≤ 140737488355328)), ((Ty.int .i64).fact x1845 [.int .i64 x1845]), (Ty.str.fact a0 [str a0])]⟩ : St) _
  rw [m116_l1] at hr
  refine at_inv 2 rfl (fun l1856 => ?_)
  replace l1856 : (-9223372036854775808) ≤ x1845 ∧ x1845 ≤ 9223372036854775807 := l1856
  refine at_seq ?_
  refine s_sr ?_
  refine s_mv rfl ?_
  refine s_mv rfl ?_
  refine at_inv 3 rfl (fun l1857 => ?_)
  replace l1857 : a0.length ≤ 9223372036854775807 := l1857
  refine at_lt (lt_slen rfl und9) rfl ?_
  refine at_lt (lt_lss rfl rfl) rfl ?_
  refine s_nt ?_
  by_cases h1858 : x1845 < (a0.length : Int)
  ·replace hr := ipos h1858 hr
   refine at_true rfl (decide_eq_true (by first | exact h1858 | omega)) ?_
   refine at_skip ?_
   refine at_then ?_
   refine at_block ?_
   refine s_sr ?_
   refine s_mv rfl ?_
   refine s_mv rfl ?_
   replace hr := obind hr
   obtain ⟨x1859, h1860, hr⟩ := hr
   refine at_hv rfl ?_
   refine hv_call0 [3, 2] (f152_spec h1860) rfl rfl rfl rfl ?_
   rintro _ _ ⟨rfl, rfl⟩
   refine at_inv 0 rfl (fun l1861 => ?_)
   replace l1861 : (-9223372036854775808) ≤ x1859.1 ∧ x1859.1 ≤ 9223372036854775807 := l1861
   refine at_inv 1 rfl (fun l1862 => ?_)
   replace l1862 : (-9223372036854775808) ≤ x1859.2 ∧ x1859.2 ≤ 9223372036854775807 := l1862
   refine s_mv rfl ?_
   refine at_lt (lt_extract rfl rfl) rfl ?_
   refine at_lt (lt_extract rfl rfl) rfl ?_
   refine s_as rfl ?_
   refine s_as rfl ?_
   refine s_nt ?_
   refine at_seq ?_
   refine s_sr ?_
   refine s_mv rfl ?_
   refine at_lt (lt_eql rfl rfl) rfl ?_
   refine s_mv rfl ?_
   by_cases h1863 : x1859.2 = 0
   ·replace hr := ipos h1863 hr
    refine at_off rfl rfl (decide_eq_true (by first | exact h1863 | omega)) rfl ?_
    refine at_off rfl rfl (decide_eq_true (by first | exact h1863 | omega)) rfl ?_
    refine at_off rfl rfl (decide_eq_true (by first | exact h1863 | omega)) rfl ?_
    refine at_lt (lt_pick true rfl (decide_eq_true (by first | exact h1863 | omega)) rfl) rfl ?_
    refine s_nt ?_
    refine at_true rfl rfl ?_
    refine s_sr ?_
    refine s_as rfl ?_
    refine s_as rfl ?_
    refine s_nt ?_
    refine at_ret ?_
    have hq := oinj hr
    clear hr
    subst hq
    have hq := oinj hk1855
    clear hk1855
    subst hq
    refine at_then_ret ?_
    refine at_in_ret ?_
    refine at_then_ret ?_
    refine at_in_ret ?_
    refine at_then_ret ?_
    refine at_then_ret ?_
    refine at_fnil (Ty.int .i64) none ?_
    exact at_return (.tuple #[(.slice none 0 0), .bool false]) [0] hS Tryz.results116 (.cons (.tmp rfl) (.cons (.tmp rfl) .nil)) rfl rfl ⟨((.slice none 0 0)), rfl, rfl⟩
   replace hr := ineg h1863 hr
   refine at_on rfl rfl (decide_eq_false (by first | exact h1863 | omega)) ?_
   refine s_mv rfl ?_
   replace hr := obind hr
   obtain ⟨x1864, h1865, hr⟩ := hr
   refine at_on rfl rfl (decide_eq_false (by first | exact h1863 | omega)) ?_
   refine at_hv rfl ?_
   refine hv_call0 [0] (f153_spec h1865) rfl rfl rfl rfl ?_
   rintro _ _ ⟨rfl, rfl⟩
   refine at_on rfl rfl (decide_eq_false (by first | exact h1863 | omega)) ?_
   refine at_lt (lt_not rfl) rfl ?_
   refine at_lt (lt_pick false rfl (decide_eq_false (by first | exact h1863 | omega)) rfl) rfl ?_
   refine s_nt ?_
   by_cases h1866 : x1864 = true
   ·replace hr := ipos h1866 hr
    refine at_false rfl (nt h1866) ?_
    refine at_skip ?_
    refine s_tsr ?_
    refine s_mv rfl ?_
    refine s_mv rfl ?_
    refine at_hv rfl ?_
    refine hv_bslice (cs := [.int .i64 x1859.1]) rfl und140 ti3 rfl rfl rfl rfl rfl (fun s1867 => ?_)
    replace hr := imust hr
    obtain ⟨h1868, hr⟩ := hr
    refine at_rown 1 2 rfl rfl rfl (fun hn1870 => ?_)
    refine at_hv rfl ?_
    refine hv_append 1 0 rfl rfl rfl rfl und140 ti3 rfl rfl rfl (by omega) (by omega) rfl (fun s1869 => ?_)
    refine at_rowsnoc 2 0 rfl rfl ?_
    refine s_as rfl ?_
    refine at_nil ?_
    refine s_tr ?_
    refine s_mv rfl ?_
    refine s_mv rfl ?_
    refine at_lt (lt_addw rfl rfl) rfl ?_
    refine s_as rfl ?_
    refine at_nil ?_
    refine at_in ?_
    refine at_mkpure (q := ((x1844 ++ [x1859.1]).length * (Ty.int .i64).bytes ≤ 140737488355328)) (by simp only [List.length_append, List.length_cons, List.length_nil, Ty.int_bytes, Ty.u8_bytes, Ty.str_bytes, Ty.slice_bytes, Ty.bool_bytes, nb] <;> omega) ?_
    refine at_int .i64 (IntKind.i64.wrap (x1845 + x1859.2)) (wrap_bd .i64 _) ?_
    exact at_again (σ := ((List Int) × Int)) (V := Value × Nat × (List Value)) (lp := fun n s => m116_l1 a0 n s.1 s.2) (S := fun s e => (⟨[(0, str a0), (4, e.1), (5, .int .i64 s.2)], [], [⟨e.1, 3, 1, e.2.1, e.2.2⟩], [((Ty.int .i64).row s.1 e.2.2), (pureF (s.1.length * (Ty.int .i64).bytes ≤ 140737488355328)), ((Ty.int .i64).fact s.2 [.int .i64 s.2]), (Ty.str.fact a0 [str a0])]⟩ : St)) (x1844 ++ [x1859.1], IntKind.i64.wrap (x1845 + x1859.2)) (s1869, n1847 + 1, i1848 ++ [.int .i64 x1859.1]) hr ⟨⟨rfl, ⟨rfl, ⟨rfl, trivial⟩⟩⟩, ⟨[], rfl⟩, ⟨[false, true], rfl⟩, ⟨[2, 1, 0, 8], rfl⟩⟩
   replace hr := ineg h1866 hr
   refine at_true rfl (nf (bf h1866)) ?_
   refine s_sr ?_
   refine s_as rfl ?_
   refine s_as rfl ?_
   refine s_nt ?_
   refine at_ret ?_
   have hq := oinj hr
   clear hr
   subst hq
   have hq := oinj hk1855
   clear hk1855
   subst hq
   refine at_then_ret ?_
   refine at_in_ret ?_
   refine at_then_ret ?_
   refine at_in_ret ?_
   refine at_then_ret ?_
   refine at_then_ret ?_
   refine at_fnil (Ty.int .i64) none ?_
   exact at_return (.tuple #[(.slice none 0 0), .bool false]) [0] hS Tryz.results116 (.cons (.tmp rfl) (.cons (.tmp rfl) .nil)) rfl rfl ⟨((.slice none 0 0)), rfl, rfl⟩
  replace hr := ineg h1858 hr
  refine at_false rfl (decide_eq_false (by first | exact h1858 | omega)) ?_
  refine at_exit ?_
  refine at_then_exit ?_
  refine at_then_exit ?_
  refine at_in_exit ?_
  have hq := oinj hr
  clear hr
  subst hq
  exact at_leafP (x1844, (v1846, n1847, i1848)) rfl ⟨⟨rfl, trivial⟩, ⟨[], rfl⟩, ⟨[true], rfl⟩, ⟨[0, 1], rfl⟩⟩
 rintro ⟨x1849, ⟨v1850, n1851, i1852⟩⟩ hp
 replace hr := hk1855
 subst hp
 clear hl1854
 change At _ _ (⟨[(4, v1850)], [], [⟨v1850, 3, 1, n1851, i1852⟩], [((Ty.int .i64).row x1849 i1852), (pureF (x1849.length * (Ty.int .i64).bytes ≤ 140737488355328))]⟩ : St) _
 refine s_tsr ?_
 refine s_mv rfl ?_
 refine s_as rfl ?_
 refine s_as rfl ?_
 refine s_nt ?_
 refine at_ret ?_
 have hq := oinj hr
 clear hr
 subst hq
 refine at_pure 1 rfl (fun hb1871 => ?_)
 refine at_release 0 0 rfl rfl rfl hb1871 ?_
 exact at_return (.tuple #[v1850, .bool true]) [0] hS Tryz.results116 (.cons (.tmp rfl) (.cons (.tmp rfl) .nil)) rfl rfl ⟨v1850, rfl, rfl⟩
/-! 90 bookplate/bookplateref04.Valid -/
def m90 (a0 : Str) : Option Bool :=
  if a0.length < 1 then
   some false
  else
   if 400 < a0.length then
    some false
   else
    (a0[0]?).bind fun c1876 =>
    if c1876.toNat = 32 then
     some false
    else
     (at? a0 ((a0.length : Int) - 1)).bind fun c1879 =>
     if c1879.toNat = 32 then
      some false
     else
      (m116 a0).bind fun x1882 =>
      some x1882.2
def post90 (r : Bool) (v : Value) (fs : List Fact) : Prop := v = .bool r ∧ fs = []
theorem en90 : Enters Tryz.prog 90 := ⟨_, Tryz.func90, by kernel_rfl, rfl⟩
theorem f90_spec {a0 : Str} {r : Bool} (hr : m90 a0 = some r) : Spec Tryz.prog 90 [str a0] [(Ty.str.fact a0 [str a0])] (post90 r) := by
 refine spec_start (N := 32) Tryz.func90 (by kernel_rfl) rfl rfl rfl ?_
 intro g hS
 unfold m90 at hr
 refine s_sr ?_
 refine s_as rfl ?_
 refine s_nt ?_
 refine at_seq ?_
 refine s_sr ?_
 refine s_mv rfl ?_
 refine at_inv 0 rfl (fun l1873 => ?_)
 replace l1873 : a0.length ≤ 9223372036854775807 := l1873
 refine at_lt (lt_slen rfl und9) rfl ?_
 refine at_lt (lt_lss rfl rfl) rfl ?_
 refine s_mv rfl ?_
 by_cases h1874 : a0.length < 1
 ·replace hr := ipos h1874 hr
  refine at_off rfl rfl (decide_eq_true (by omega)) rfl ?_
  refine at_off rfl rfl (decide_eq_true (by omega)) rfl ?_
  refine at_off rfl rfl (decide_eq_true (by omega)) rfl ?_
  refine at_lt (lt_pick true rfl (decide_eq_true (by omega)) rfl) rfl ?_
  refine s_mv rfl ?_
  refine at_off rfl rfl rfl rfl ?_
  refine at_off rfl rfl rfl rfl ?_
  refine at_off rfl rfl rfl rfl ?_
  refine at_lt (lt_pick true rfl rfl rfl) rfl ?_
  refine s_mv rfl ?_
  refine at_off rfl rfl rfl rfl ?_
  refine at_off rfl rfl rfl rfl ?_
  refine at_off rfl rfl rfl rfl ?_
  refine at_off rfl rfl rfl rfl ?_
  refine at_off rfl rfl rfl rfl ?_
  refine at_off rfl rfl rfl rfl ?_
  refine at_lt (lt_pick true rfl rfl rfl) rfl ?_
  refine s_nt ?_
  refine at_true rfl rfl ?_
  refine s_sr ?_
  refine s_as rfl ?_
  refine s_nt ?_
  refine at_ret ?_
  have hq := oinj hr
  clear hr
  subst hq
  refine at_then_ret ?_
  exact at_return (.bool false) [] hS Tryz.results90 (.cons (.tmp rfl) .nil) rfl rfl ⟨rfl, rfl⟩
 replace hr := ineg h1874 hr
 refine at_on rfl rfl (decide_eq_false (by omega)) ?_
 refine s_mv rfl ?_
 refine at_on rfl rfl (decide_eq_false (by omega)) ?_
 refine at_lt (lt_slen rfl und9) rfl ?_
 refine at_on rfl rfl (decide_eq_false (by omega)) ?_
 refine at_lt (lt_gtr rfl rfl) rfl ?_
 refine at_lt (lt_pick false rfl (decide_eq_false (by omega)) rfl) rfl ?_
 refine s_mv rfl ?_
 by_cases h1875 : 400 < a0.length
 ·replace hr := ipos h1875 hr
  refine at_off rfl rfl (decide_eq_true (by omega)) rfl ?_
  refine at_off rfl rfl (decide_eq_true (by omega)) rfl ?_
  refine at_off rfl rfl (decide_eq_true (by omega)) rfl ?_
  refine at_lt (lt_pick true rfl (decide_eq_true (by omega)) rfl) rfl ?_
  refine s_mv rfl ?_
  refine at_off rfl rfl rfl rfl ?_
  refine at_off rfl rfl rfl rfl ?_
  refine at_off rfl rfl rfl rfl ?_
  refine at_off rfl rfl rfl rfl ?_
  refine at_off rfl rfl rfl rfl ?_
  refine at_off rfl rfl rfl rfl ?_
  refine at_lt (lt_pick true rfl rfl rfl) rfl ?_
  refine s_nt ?_
  refine at_true rfl rfl ?_
  refine s_sr ?_
  refine s_as rfl ?_
  refine s_nt ?_
  refine at_ret ?_
  have hq := oinj hr
  clear hr
  subst hq
  refine at_then_ret ?_
  exact at_return (.bool false) [] hS Tryz.results90 (.cons (.tmp rfl) .nil) rfl rfl ⟨rfl, rfl⟩
 replace hr := ineg h1875 hr
 refine at_on rfl rfl (decide_eq_false (by omega)) ?_
 refine s_mv rfl ?_
 replace hr := obind hr
 obtain ⟨c1876, h1877, hr⟩ := hr
 have := (List.getElem?_eq_some_iff.1 h1877).1
 have := c1876.toNat_lt
 refine at_on rfl rfl (decide_eq_false (by omega)) ?_
 refine at_lt (lt_sidx rfl rfl und9 (by omega) h1877) rfl ?_
 refine at_on rfl rfl (decide_eq_false (by omega)) ?_
 refine at_lt (lt_eql rfl rfl) rfl ?_
 refine at_lt (lt_pick false rfl (decide_eq_false (by omega)) rfl) rfl ?_
 refine s_mv rfl ?_
 by_cases h1878 : c1876.toNat = 32
 ·replace hr := ipos h1878 hr
  refine at_off rfl rfl (decide_eq_true (by omega)) rfl ?_
  refine at_off rfl rfl (decide_eq_true (by omega)) rfl ?_
  refine at_off rfl rfl (decide_eq_true (by omega)) rfl ?_
  refine at_off rfl rfl (decide_eq_true (by omega)) rfl ?_
  refine at_off rfl rfl (decide_eq_true (by omega)) rfl ?_
  refine at_off rfl rfl (decide_eq_true (by omega)) rfl ?_
  refine at_lt (lt_pick true rfl (decide_eq_true (by omega)) rfl) rfl ?_
  refine s_nt ?_
  refine at_true rfl rfl ?_
  refine s_sr ?_
  refine s_as rfl ?_
  refine s_nt ?_
  refine at_ret ?_
  have hq := oinj hr
  clear hr
  subst hq
  refine at_then_ret ?_
  exact at_return (.bool false) [] hS Tryz.results90 (.cons (.tmp rfl) .nil) rfl rfl ⟨rfl, rfl⟩
 replace hr := ineg h1878 hr
 refine at_on rfl rfl (decide_eq_false (by omega)) ?_
 refine s_mv rfl ?_
 refine at_on rfl rfl (decide_eq_false (by omega)) ?_
 refine s_mv rfl ?_
 refine at_on rfl rfl (decide_eq_false (by omega)) ?_
 refine at_lt (lt_slen rfl und9) rfl ?_
 refine at_on rfl rfl (decide_eq_false (by omega)) ?_
 refine at_lt (lt_sub rfl rfl (by simp only [lo, hi]; omega)) rfl ?_
 replace hr := obind hr
 obtain ⟨c1879, h1880, hr⟩ := hr
 have := at?_lt h1880
 have := c1879.toNat_lt
 refine at_on rfl rfl (decide_eq_false (by omega)) ?_
 refine at_lt (lt_sidx rfl rfl und9 (at?_lt h1880).1 (at?_get h1880)) rfl ?_
 refine at_on rfl rfl (decide_eq_false (by omega)) ?_
 refine at_lt (lt_eql rfl rfl) rfl ?_
 refine at_lt (lt_pick false rfl (decide_eq_false (by omega)) rfl) rfl ?_
 refine s_nt ?_
 by_cases h1881 : c1879.toNat = 32
 ·replace hr := ipos h1881 hr
  refine at_true rfl (decide_eq_true (by omega)) ?_
  refine s_sr ?_
  refine s_as rfl ?_
  refine s_nt ?_
  refine at_ret ?_
  have hq := oinj hr
  clear hr
  subst hq
  refine at_then_ret ?_
  exact at_return (.bool false) [] hS Tryz.results90 (.cons (.tmp rfl) .nil) rfl rfl ⟨rfl, rfl⟩
 replace hr := ineg h1881 hr
 refine at_false rfl (decide_eq_false (by omega)) ?_
 refine at_skip ?_
 refine s_tsr ?_
 refine s_mv rfl ?_
 replace hr := obind hr
 obtain ⟨x1882, h1883, hr⟩ := hr
 refine at_hv rfl ?_
 refine hv_call0 [0] (f116_spec h1883) rfl rfl rfl rfl ?_
 rintro _ _ ⟨s1884, rfl, rfl⟩
 refine s_mv rfl ?_
 refine at_lt (lt_extract rfl rfl) rfl ?_
 refine at_lt (lt_extract rfl rfl) rfl ?_
 refine s_as rfl ?_
 refine s_as rfl ?_
 refine s_ntsr ?_
 refine s_mv rfl ?_
 refine s_as rfl ?_
 refine s_nt ?_
 refine at_ret ?_
 have hq := oinj hr
 clear hr
 subst hq
 exact at_return (.bool x1882.2) [] hS Tryz.results90 (.cons (.tmp rfl) .nil) rfl rfl ⟨rfl, rfl⟩
/-! 56 bookplate/bookplateref12.ValidField -/
def m56_l1 (a0 : D_api_Field) : Nat → Nat → Option (Fl Bool Unit)
  | 0, _ => none
  | k + 1, x1894 =>
    if x1894 < 2 then
     Option.bind (α := Bool) (
      if x1894 = 0 then
       if a0.Ind_0.toNat = 32 then
        some false
       else
        (m89 a0.Ind_0).bind fun x1903 =>
        some (!x1903)
      else
       if x1894 = 1 then
        if a0.Ind_1.toNat = 32 then
         some false
        else
         (m89 a0.Ind_1).bind fun x1907 =>
         some (!x1907)
       else
        none
     ) fun x1899 =>
     if x1899 = true then
      some (Fl.ret false)
     else
      if x1894 + 1 ≤ 9223372036854775807 then
       m56_l1 a0 k (x1894 + 1)
      else none
    else
     some (Fl.go ())
def m56_l2 (a0 : D_api_Field) : Nat → Nat → Option (Fl Bool Unit)
  | 0, _ => none
  | k + 1, x1911 =>
    if x1911 < a0.Subs.length then
     (a0.Subs[x1911]?).bind fun x1916 =>
     (m89 x1916.Code).bind fun x1920 =>
     if x1920 = true then
      (a0.Subs[x1911]?).bind fun x1923 =>
      (m90 x1923.Value).bind fun x1927 =>
      if x1927 = true then
       m56_l2 a0 k (x1911 + 1)
      else
       some (Fl.ret false)
     else
      some (Fl.ret false)
    else
     some (Fl.go ())
def m56 (a0 : D_api_Field) : Option Bool :=
  (m87 a0.Tag).bind fun x1887 =>
  if x1887 = true then
   if a0.Subs.length < 1 then
    some false
   else
    if 20 < a0.Subs.length then
     some false
    else
     (m56_l1 a0 (2 + 1) 0).bind fun r => match r with
     | .ret x => some x
     | .go _ =>
      (m56_l2 a0 (a0.Subs.length + 1) 0).bind fun r => match r with
      | .ret x => some x
      | .go _ =>
       some true
  else
   some false
def post56 (r : Bool) (v : Value) (fs : List Fact) : Prop := v = .bool r ∧ fs = []
theorem en56 : Enters Tryz.prog 56 := ⟨_, Tryz.func56, by kernel_rfl, rfl⟩
theorem f56_spec {a0 : D_api_Field} {s1885 : Value} {r : Bool} (hr : m56 a0 = some r) : Spec Tryz.prog 56 [.agg #[str a0.Tag, .int .u8 (a0.Ind_0.toNat : Int), .int .u8 (a0.Ind_1.toNat : Int), s1885]] [(ty69.fact a0 [str a0.Tag, .int .u8 (a0.Ind_0.toNat : Int), .int .u8 (a0.Ind_1.toNat : Int), s1885])] (post56 r) := by
 refine spec_start (N := 63) Tryz.func56 (by kernel_rfl) rfl rfl rfl ?_
 intro g hS
 unfold m56 at hr
 refine at_open (A := Unit) 0 rfl (fun _ => True) (fun _ => [(Ty.str.fact a0.Tag [str a0.Tag]), ((Ty.slice ty66).fact a0.Subs [s1885])]) (fun F w h => ⟨(), trivial, ex69 h⟩) (fun _ _ => ?_)
 refine s_sr ?_
 refine at_hv rfl ?_
 refine hv_box (cs := [str a0.Tag, .int .u8 (a0.Ind_0.toNat : Int), .int .u8 (a0.Ind_1.toNat : Int), s1885]) rfl rfl rfl (fun b1886 => ?_)
 refine s_as rfl ?_
 refine s_nt ?_
 refine at_seq ?_
 refine s_sr ?_
 refine at_lt (lt_fieldAddr 0 rfl fld69_0 rfl) rfl ?_
 refine at_lt (lt_load_box 0 rfl ti9 rfl rfl rfl rfl rfl) rfl ?_
 replace hr := obind hr
 obtain ⟨x1887, h1888, hr⟩ := hr
 refine at_hv rfl ?_
 refine hv_call0 [0] (f87_spec h1888) rfl rfl rfl rfl ?_
 rintro _ _ ⟨rfl, rfl⟩
 refine at_lt (lt_not rfl) rfl ?_
 refine s_mv rfl ?_
 by_cases h1889 : x1887 = true
 ·replace hr := ipos h1889 hr
  refine at_on rfl rfl (nt h1889) ?_
  refine at_lt (lt_fieldAddr 3 rfl fld69_2 rfl) rfl ?_
  refine at_on rfl rfl (nt h1889) ?_
  refine at_lt (lt_load_box 0 rfl ti67 rfl rfl rfl rfl rfl) rfl ?_
  refine at_inv 1 rfl (fun i1890 => ?_)
  have l1891 := slice_len i1890
  refine at_on rfl rfl (nt h1889) ?_
  refine at_lt (lt_flen 1 rfl rfl und67) rfl ?_
  refine at_on rfl rfl (nt h1889) ?_
  refine at_lt (lt_lss rfl rfl) rfl ?_
  refine at_lt (lt_pick false rfl (nt h1889) rfl) rfl ?_
  refine s_mv rfl ?_
  by_cases h1892 : a0.Subs.length < 1
  ·replace hr := ipos h1892 hr
   refine at_off rfl rfl (decide_eq_true (by omega)) rfl ?_
   refine at_off rfl rfl (decide_eq_true (by omega)) rfl ?_
   refine at_off rfl rfl (decide_eq_true (by omega)) rfl ?_
   refine at_off rfl rfl (decide_eq_true (by omega)) rfl ?_
   refine at_lt (lt_pick true rfl (decide_eq_true (by omega)) rfl) rfl ?_
   refine s_nt ?_
   refine at_true rfl rfl ?_
   refine s_sr ?_
   refine s_as rfl ?_
   refine s_nt ?_
   refine at_ret ?_
   have hq := oinj hr
   clear hr
   subst hq
   refine at_then_ret ?_
   exact at_return (.bool false) [] hS Tryz.results56 (.cons (.tmp rfl) .nil) rfl rfl ⟨rfl, rfl⟩
  replace hr := ineg h1892 hr
  refine at_on rfl rfl (decide_eq_false (by omega)) ?_
  refine at_lt (lt_fieldAddr 3 rfl fld69_2 rfl) rfl ?_
  refine at_on rfl rfl (decide_eq_false (by omega)) ?_
  refine at_lt (lt_load_box 0 rfl ti67 rfl rfl rfl rfl rfl) rfl ?_
  refine at_on rfl rfl (decide_eq_false (by omega)) ?_
  refine at_lt (lt_flen 1 rfl rfl und67) rfl ?_
  refine at_on rfl rfl (decide_eq_false (by omega)) ?_
  refine at_lt (lt_gtr rfl rfl) rfl ?_
  refine at_lt (lt_pick false rfl (decide_eq_false (by omega)) rfl) rfl ?_
  refine s_nt ?_
  by_cases h1893 : 20 < a0.Subs.length
  ·replace hr := ipos h1893 hr
   refine at_true rfl (decide_eq_true (by omega)) ?_
   refine s_sr ?_
   refine s_as rfl ?_
   refine s_nt ?_
   refine at_ret ?_
   have hq := oinj hr
   clear hr
   subst hq
   refine at_then_ret ?_
   exact at_return (.bool false) [] hS Tryz.results56 (.cons (.tmp rfl) .nil) rfl rfl ⟨rfl, rfl⟩
  replace hr := ineg h1893 hr
  refine at_false rfl (decide_eq_false (by omega)) ?_
  refine at_skip ?_
  refine at_then ?_
  refine at_seq ?_
  refine s_sr ?_
  refine s_as rfl ?_
  refine s_nt ?_
  refine at_int .i64 0 (by simp only [lo, hi]; omega) ?_
  replace hr := obind hr
  obtain ⟨r1895, hl1896, hk1897⟩ := hr
  refine at_cutP (V := (Unit) × (Unit)) (fun v => r1895 = Fl.go v.1) (fun v => (⟨[(1, .pointer (some (Addr.add ⟨b1886, 0, none⟩ 0)))], [⟨b1886, [str a0.Tag, .int .u8 (a0.Ind_0.toNat : Int), .int .u8 (a0.Ind_1.toNat : Int), s1885], 69⟩], [], [(Ty.str.fact a0.Tag [str a0.Tag]), ((Ty.slice ty66).fact a0.Subs [s1885])]⟩ : St)) ?_ ?_
  ·refine at_block ?_
   refine at_loopW (σ := Nat) (V := Unit) (r := r1895) (fun n s => m56_l1 a0 n s) (fun s e => (⟨[(1, .pointer (some (Addr.add ⟨b1886, 0, none⟩ 0))), (3, .int .i64 (s : Int))], [⟨b1886, [str a0.Tag, .int .u8 (a0.Ind_0.toNat : Int), .int .u8 (a0.Ind_1.toNat : Int), s1885], 69⟩], [], [((Ty.int .i64).fact (s : Int) [.int .i64 (s : Int)]), (Ty.str.fact a0.Tag [str a0.Tag]), ((Ty.slice ty66).fact a0.Subs [s1885])]⟩ : St)) (fun _ => rfl) _ 0 () hl1896 ⟨⟨rfl, ⟨rfl, trivial⟩⟩, ⟨[true], rfl⟩, ⟨[], rfl⟩, ⟨[0, 1, 2], rfl⟩⟩ ?_
   clear hl1896
   intro n x1894 hr e
   skip
   skip
   change m56_l1 a0 (n + 1) x1894 = some r1895 at hr
   change At _ _ (⟨[(1, .pointer (some (Addr.add ⟨b1886, 0, none⟩ 0))), (3, .int .i64 (x1894 : Int))], [⟨b1886, [str a0.Tag, .int .u8 (a0.Ind_0.toNat : Int), .int .u8 (a0.Ind_1.toNat : Int), s1885], 69⟩], [], [((Ty.int .i64).fact (x1894 : Int) [.int .i64 (x1894 : Int)]), (Ty.str.fact a0.Tag [str a0.Tag]), ((Ty.slice ty66).fact a0.Subs [s1885])]⟩ : St) _
   rw [m56_l1] at hr
   refine at_seq ?_
   refine s_sr ?_
   refine s_mv rfl ?_
   refine at_lt (lt_lss rfl rfl) rfl ?_
   refine s_nt ?_
   by_cases h1898 : x1894 < 2
   ·replace hr := ipos h1898 hr
    refine at_true rfl (decide_eq_true (by omega)) ?_
    refine at_skip ?_
    refine at_then ?_
    refine at_seq ?_
    refine at_block ?_
    refine at_seq ?_
    replace hr := obind hr
    obtain ⟨x1899, hc1900, hr⟩ := hr
    refine at_cut (V := Unit) (fun e => (⟨[(1, .pointer (some (Addr.add ⟨b1886, 0, none⟩ 0))), (3, .int .i64 (x1894 : Int)), (37, .bool x1899)], [⟨b1886, [str a0.Tag, .int .u8 (a0.Ind_0.toNat : Int), .int .u8 (a0.Ind_1.toNat : Int), s1885], 69⟩], [], [((Ty.int .i64).fact (x1894 : Int) [.int .i64 (x1894 : Int)]), (Ty.str.fact a0.Tag [str a0.Tag]), ((Ty.slice ty66).fact a0.Subs [s1885])]⟩ : St)) ?_ ?_
    ·clear hr
     have hr := hc1900
     clear hc1900
     refine at_region ?_
     refine s_mv rfl ?_
     refine at_lt (lt_fieldAddr 1 rfl fld69_1 rfl) rfl ?_
     by_cases h1901 : x1894 = 0
     ·replace hr := ipos h1901 hr
      refine at_lt (lt_aidx 0 rfl rfl (by omega) rfl und64 ti5 rfl) rfl ?_
      refine at_lt (lt_load_box 0 rfl ti5 rfl rfl rfl rfl rfl) rfl ?_
      refine at_lt (lt_neq rfl rfl) rfl ?_
      refine s_mv rfl ?_
      by_cases h1902 : a0.Ind_0.toNat = 32
      ·replace hr := ipos h1902 hr
       refine at_off rfl rfl (nt (decide_eq_true (by omega))) rfl ?_
       refine at_off rfl rfl (nt (decide_eq_true (by omega))) rfl ?_
       refine at_off rfl rfl (nt (decide_eq_true (by omega))) rfl ?_
       refine at_off rfl rfl (nt (decide_eq_true (by omega))) rfl ?_
       refine at_off rfl rfl (nt (decide_eq_true (by omega))) rfl ?_
       refine at_off rfl rfl (nt (decide_eq_true (by omega))) rfl ?_
       refine at_lt (lt_pick false rfl (nt (decide_eq_true (by omega))) rfl) rfl ?_
       refine at_nil ?_
       have hq := oinj hr
       clear hr
       subst hq
       exact at_leaf () ⟨⟨rfl, ⟨rfl, ⟨rfl, trivial⟩⟩⟩, ⟨[true], rfl⟩, ⟨[], rfl⟩, ⟨[0, 1, 2], rfl⟩⟩
      replace hr := ineg h1902 hr
      refine at_on rfl rfl (nf (decide_eq_false (by omega))) ?_
      refine s_mv rfl ?_
      refine at_on rfl rfl (nf (decide_eq_false (by omega))) ?_
      refine at_lt (lt_fieldAddr 1 rfl fld69_1 rfl) rfl ?_
      refine at_on rfl rfl (nf (decide_eq_false (by omega))) ?_
      refine at_lt (lt_aidx 0 rfl rfl (by omega) rfl und64 ti5 rfl) rfl ?_
      refine at_on rfl rfl (nf (decide_eq_false (by omega))) ?_
      refine at_lt (lt_load_box 0 rfl ti5 rfl rfl rfl rfl rfl) rfl ?_
      replace hr := obind hr
      obtain ⟨x1903, h1904, hr⟩ := hr
      refine at_on rfl rfl (nf (decide_eq_false (by omega))) ?_
      refine at_hv rfl ?_
      refine hv_call0 [] (f89_spec h1904) rfl rfl rfl rfl ?_
      rintro _ _ ⟨rfl, rfl⟩
      refine at_on rfl rfl (nf (decide_eq_false (by omega))) ?_
      refine at_lt (lt_not rfl) rfl ?_
      refine at_lt (lt_pick true rfl (nf (decide_eq_false (by omega))) rfl) rfl ?_
      refine at_nil ?_
      have hq := oinj hr
      clear hr
      subst hq
      exact at_leaf () ⟨⟨rfl, ⟨rfl, ⟨rfl, trivial⟩⟩⟩, ⟨[true], rfl⟩, ⟨[], rfl⟩, ⟨[0, 1, 2], rfl⟩⟩
     replace hr := ineg h1901 hr
     by_cases h1905 : x1894 = 1
     ·replace hr := ipos h1905 hr
      refine at_lt (lt_aidx 1 rfl rfl (by omega) rfl und64 ti5 rfl) rfl ?_
      refine at_lt (lt_load_box 0 rfl ti5 rfl rfl rfl rfl rfl) rfl ?_
      refine at_lt (lt_neq rfl rfl) rfl ?_
      refine s_mv rfl ?_
      by_cases h1906 : a0.Ind_1.toNat = 32
      ·replace hr := ipos h1906 hr
       refine at_off rfl rfl (nt (decide_eq_true (by omega))) rfl ?_
       refine at_off rfl rfl (nt (decide_eq_true (by omega))) rfl ?_
       refine at_off rfl rfl (nt (decide_eq_true (by omega))) rfl ?_
       refine at_off rfl rfl (nt (decide_eq_true (by omega))) rfl ?_
       refine at_off rfl rfl (nt (decide_eq_true (by omega))) rfl ?_
       refine at_off rfl rfl (nt (decide_eq_true (by omega))) rfl ?_
       refine at_lt (lt_pick false rfl (nt (decide_eq_true (by omega))) rfl) rfl ?_
       refine at_nil ?_
       have hq := oinj hr
       clear hr
       subst hq
       exact at_leaf () ⟨⟨rfl, ⟨rfl, ⟨rfl, trivial⟩⟩⟩, ⟨[true], rfl⟩, ⟨[], rfl⟩, ⟨[0, 1, 2], rfl⟩⟩
      replace hr := ineg h1906 hr
      refine at_on rfl rfl (nf (decide_eq_false (by omega))) ?_
      refine s_mv rfl ?_
      refine at_on rfl rfl (nf (decide_eq_false (by omega))) ?_
      refine at_lt (lt_fieldAddr 1 rfl fld69_1 rfl) rfl ?_
      refine at_on rfl rfl (nf (decide_eq_false (by omega))) ?_
      refine at_lt (lt_aidx 1 rfl rfl (by omega) rfl und64 ti5 rfl) rfl ?_
      refine at_on rfl rfl (nf (decide_eq_false (by omega))) ?_
      refine at_lt (lt_load_box 0 rfl ti5 rfl rfl rfl rfl rfl) rfl ?_
      replace hr := obind hr
      obtain ⟨x1907, h1908, hr⟩ := hr
      refine at_on rfl rfl (nf (decide_eq_false (by omega))) ?_
      refine at_hv rfl ?_
      refine hv_call0 [] (f89_spec h1908) rfl rfl rfl rfl ?_
      rintro _ _ ⟨rfl, rfl⟩
      refine at_on rfl rfl (nf (decide_eq_false (by omega))) ?_
      refine at_lt (lt_not rfl) rfl ?_
      refine at_lt (lt_pick true rfl (nf (decide_eq_false (by omega))) rfl) rfl ?_
      refine at_nil ?_
      have hq := oinj hr
      clear hr
      subst hq
      exact at_leaf () ⟨⟨rfl, ⟨rfl, ⟨rfl, trivial⟩⟩⟩, ⟨[true], rfl⟩, ⟨[], rfl⟩, ⟨[0, 1, 2], rfl⟩⟩
     replace hr := ineg h1905 hr
     cases hr
    clear hc1900
    intro _
    change At _ _ (⟨[(1, .pointer (some (Addr.add ⟨b1886, 0, none⟩ 0))), (3, .int .i64 (x1894 : Int)), (37, .bool x1899)], [⟨b1886, [str a0.Tag, .int .u8 (a0.Ind_0.toNat : Int), .int .u8 (a0.Ind_1.toNat : Int), s1885], 69⟩], [], [((Ty.int .i64).fact (x1894 : Int) [.int .i64 (x1894 : Int)]), (Ty.str.fact a0.Tag [str a0.Tag]), ((Ty.slice ty66).fact a0.Subs [s1885])]⟩ : St) _
    refine at_then ?_
    by_cases h1909 : x1899 = true
    ·replace hr := ipos h1909 hr
     refine at_true rfl h1909 ?_
     refine s_sr ?_
     refine s_as rfl ?_
     refine s_nt ?_
     refine at_ret ?_
     have hq := oinj hr
     clear hr
     subst hq
     have hq := oinj hk1897
     clear hk1897
     subst hq
     refine at_in_ret ?_
     refine at_then_ret ?_
     refine at_then_ret ?_
     refine at_in_ret ?_
     refine at_then_ret ?_
     refine at_then_ret ?_
     exact at_return (.bool false) [] hS Tryz.results56 (.cons (.tmp rfl) .nil) rfl rfl ⟨rfl, rfl⟩
    replace hr := ineg h1909 hr
    refine at_false rfl (bf h1909) ?_
    refine at_skip ?_
    refine at_in ?_
    refine s_tr ?_
    refine s_mv rfl ?_
    replace hr := imust hr
    obtain ⟨h1910, hr⟩ := hr
    refine at_lt (lt_add rfl rfl (by simp only [lo, hi]; omega)) rfl ?_
    refine s_as rfl ?_
    refine at_nil ?_
    refine at_int .i64 (x1894 + 1 : Int) (by simp only [lo, hi]; omega) ?_
    exact at_again (σ := Nat) (V := Unit) (lp := fun n s => m56_l1 a0 n s) (S := fun s e => (⟨[(1, .pointer (some (Addr.add ⟨b1886, 0, none⟩ 0))), (3, .int .i64 (s : Int))], [⟨b1886, [str a0.Tag, .int .u8 (a0.Ind_0.toNat : Int), .int .u8 (a0.Ind_1.toNat : Int), s1885], 69⟩], [], [((Ty.int .i64).fact (s : Int) [.int .i64 (s : Int)]), (Ty.str.fact a0.Tag [str a0.Tag]), ((Ty.slice ty66).fact a0.Subs [s1885])]⟩ : St)) (x1894 + 1) () hr ⟨⟨rfl, ⟨rfl, trivial⟩⟩, ⟨[true], rfl⟩, ⟨[], rfl⟩, ⟨[0, 2, 3], rfl⟩⟩
   replace hr := ineg h1898 hr
   refine at_false rfl (decide_eq_false (by omega)) ?_
   refine at_exit ?_
   refine at_then_exit ?_
   refine at_then_exit ?_
   refine at_in_exit ?_
   have hq := oinj hr
   clear hr
   subst hq
   exact at_leafP ((), ()) rfl ⟨⟨rfl, trivial⟩, ⟨[true], rfl⟩, ⟨[], rfl⟩, ⟨[1, 2], rfl⟩⟩
  rintro ⟨_, _⟩ hp
  replace hr := hk1897
  subst hp
  clear hl1896
  change At _ _ (⟨[(1, .pointer (some (Addr.add ⟨b1886, 0, none⟩ 0)))], [⟨b1886, [str a0.Tag, .int .u8 (a0.Ind_0.toNat : Int), .int .u8 (a0.Ind_1.toNat : Int), s1885], 69⟩], [], [(Ty.str.fact a0.Tag [str a0.Tag]), ((Ty.slice ty66).fact a0.Subs [s1885])]⟩ : St) _
  refine at_then ?_
  refine at_seq ?_
  refine s_sr ?_
  refine s_as rfl ?_
  refine s_nt ?_
  refine at_int .i64 0 (by simp only [lo, hi]; omega) ?_
  replace hr := obind hr
  obtain ⟨r1912, hl1913, hk1914⟩ := hr
  refine at_cutP (V := (Unit) × (Unit)) (fun v => r1912 = Fl.go v.1) (fun v => (⟨[], [], [], []⟩ : St)) ?_ ?_
  ·refine at_block ?_
   refine at_loopW (σ := Nat) (V := Unit) (r := r1912) (fun n s => m56_l2 a0 n s) (fun s e => (⟨[(1, .pointer (some (Addr.add ⟨b1886, 0, none⟩ 0))), (4, .int .i64 (s : Int))], [⟨b1886, [str a0.Tag, .int .u8 (a0.Ind_0.toNat : Int), .int .u8 (a0.Ind_1.toNat : Int), s1885], 69⟩], [], [((Ty.int .i64).fact (s : Int) [.int .i64 (s : Int)]), (Ty.str.fact a0.Tag [str a0.Tag]), ((Ty.slice ty66).fact a0.Subs [s1885])]⟩ : St)) (fun _ => rfl) _ 0 () hl1913 ⟨⟨rfl, ⟨rfl, trivial⟩⟩, ⟨[true], rfl⟩, ⟨[], rfl⟩, ⟨[0, 1, 2], rfl⟩⟩ ?_
   clear hl1913
   intro n x1911 hr e
   skip
   skip
   change m56_l2 a0 (n + 1) x1911 = some r1912 at hr
   change At _ _ (⟨[(1, .pointer (some (Addr.add ⟨b1886, 0, none⟩ 0))), (4, .int .i64 (x1911 : Int))], [⟨b1886, [str a0.Tag, .int .u8 (a0.Ind_0.toNat : Int), .int .u8 (a0.Ind_1.toNat : Int), s1885], 69⟩], [], [((Ty.int .i64).fact (x1911 : Int) [.int .i64 (x1911 : Int)]), (Ty.str.fact a0.Tag [str a0.Tag]), ((Ty.slice ty66).fact a0.Subs [s1885])]⟩ : St) _
   rw [m56_l2] at hr
   refine at_seq ?_
   refine s_sr ?_
   refine s_mv rfl ?_
   refine at_lt (lt_fieldAddr 3 rfl fld69_2 rfl) rfl ?_
   refine at_lt (lt_load_box 0 rfl ti67 rfl rfl rfl rfl rfl) rfl ?_
   refine at_lt (lt_flen 2 rfl rfl und67) rfl ?_
   refine at_lt (lt_lss rfl rfl) rfl ?_
   refine s_nt ?_
   by_cases h1915 : x1911 < a0.Subs.length
   ·replace hr := ipos h1915 hr
    refine at_true rfl (decide_eq_true (by omega)) ?_
    refine at_skip ?_
    refine at_then ?_
    refine at_seq ?_
    refine at_block ?_
    refine s_sr ?_
    refine at_lt (lt_fieldAddr 3 rfl fld69_2 rfl) rfl ?_
    refine at_lt (lt_load_box 0 rfl ti67 rfl rfl rfl rfl rfl) rfl ?_
    refine s_mv rfl ?_
    replace hr := obind hr
    obtain ⟨x1916, h1917, hr⟩ := hr
    have := (List.getElem?_eq_some_iff.1 h1917).1
    refine at_elem 2 rfl (nat_at' h1917) (fun p1918 ec pa1919 => ?_)
    refine at_open (A := Unit) 0 rfl _ _ (fun F w h => op66 h) ?_
    rintro _ rfl
    refine at_lt (lt_idx rfl rfl pa1919 und67 ti66) rfl ?_
    refine at_lt (lt_fieldAddr 0 rfl fld66_0 rfl) rfl ?_
    refine at_lt (lt_load_peek 2 rfl ti5 rfl rfl rfl rfl rfl) rfl ?_
    replace hr := obind hr
    obtain ⟨x1920, h1921, hr⟩ := hr
    refine at_hv rfl ?_
    refine hv_call0 [] (f89_spec h1921) rfl rfl rfl rfl ?_
    rintro _ _ ⟨rfl, rfl⟩
    refine at_lt (lt_not rfl) rfl ?_
    refine s_mv rfl ?_
    by_cases h1922 : x1920 = true
    ·replace hr := ipos h1922 hr
     refine at_on rfl rfl (nt h1922) ?_
     refine at_lt (lt_fieldAddr 3 rfl fld69_2 rfl) rfl ?_
     refine at_on rfl rfl (nt h1922) ?_
     refine at_lt (lt_load_box 0 rfl ti67 rfl rfl rfl rfl rfl) rfl ?_
     refine at_on rfl rfl (nt h1922) ?_
     refine s_mv rfl ?_
     replace hr := obind hr
     obtain ⟨x1923, h1924, hr⟩ := hr
     have := (List.getElem?_eq_some_iff.1 h1924).1
     refine at_elem 5 rfl (nat_at' h1924) (fun p1925 ec pa1926 => ?_)
     refine at_open (A := Unit) 0 rfl _ _ (fun F w h => op66 h) ?_
     rintro _ rfl
     refine at_on rfl rfl (nt h1922) ?_
     refine at_lt (lt_idx rfl rfl pa1926 und67 ti66) rfl ?_
     refine at_on rfl rfl (nt h1922) ?_
     refine at_lt (lt_fieldAddr 1 rfl fld66_1 rfl) rfl ?_
     refine at_on rfl rfl (nt h1922) ?_
     refine at_lt (lt_load_peek 2 rfl ti9 rfl rfl rfl rfl rfl) rfl ?_
     replace hr := obind hr
     obtain ⟨x1927, h1928, hr⟩ := hr
     refine at_on rfl rfl (nt h1922) ?_
     refine at_hv rfl ?_
     refine hv_call0 [0] (f90_spec h1928) rfl rfl rfl rfl ?_
     rintro _ _ ⟨rfl, rfl⟩
     refine at_on rfl rfl (nt h1922) ?_
     refine at_lt (lt_not rfl) rfl ?_
     refine at_lt (lt_pick false rfl (nt h1922) rfl) rfl ?_
     refine s_nt ?_
     by_cases h1929 : x1927 = true
     ·replace hr := ipos h1929 hr
      refine at_false rfl (nt h1929) ?_
      refine at_skip ?_
      refine at_in ?_
      refine s_tr ?_
      refine s_mv rfl ?_
      refine at_lt (lt_add rfl rfl (by simp only [lo, hi]; omega)) rfl ?_
      refine s_as rfl ?_
      refine at_nil ?_
      refine at_int .i64 (x1911 + 1 : Int) (by simp only [lo, hi]; omega) ?_
      exact at_again (σ := Nat) (V := Unit) (lp := fun n s => m56_l2 a0 n s) (S := fun s e => (⟨[(1, .pointer (some (Addr.add ⟨b1886, 0, none⟩ 0))), (4, .int .i64 (s : Int))], [⟨b1886, [str a0.Tag, .int .u8 (a0.Ind_0.toNat : Int), .int .u8 (a0.Ind_1.toNat : Int), s1885], 69⟩], [], [((Ty.int .i64).fact (s : Int) [.int .i64 (s : Int)]), (Ty.str.fact a0.Tag [str a0.Tag]), ((Ty.slice ty66).fact a0.Subs [s1885])]⟩ : St)) (x1911 + 1) () hr ⟨⟨rfl, ⟨rfl, trivial⟩⟩, ⟨[true], rfl⟩, ⟨[], rfl⟩, ⟨[0, 8, 9], rfl⟩⟩
     replace hr := ineg h1929 hr
     refine at_true rfl (nf (bf h1929)) ?_
     refine s_sr ?_
     refine s_as rfl ?_
     refine s_nt ?_
     refine at_ret ?_
     have hq := oinj hr
     clear hr
     subst hq
     have hq := oinj hk1914
     clear hk1914
     subst hq
     refine at_in_ret ?_
     refine at_then_ret ?_
     refine at_then_ret ?_
     refine at_in_ret ?_
     refine at_then_ret ?_
     refine at_then_ret ?_
     exact at_return (.bool false) [] hS Tryz.results56 (.cons (.tmp rfl) .nil) rfl rfl ⟨rfl, rfl⟩
    replace hr := ineg h1922 hr
    refine at_off rfl rfl (nf (bf h1922)) rfl ?_
    refine at_off rfl rfl (nf (bf h1922)) rfl ?_
    refine at_off rfl rfl (nf (bf h1922)) rfl ?_
    refine at_off rfl rfl (nf (bf h1922)) rfl ?_
    refine at_off rfl rfl (nf (bf h1922)) rfl ?_
    refine at_off rfl rfl (nf (bf h1922)) rfl ?_
    refine at_off rfl rfl (nf (bf h1922)) rfl ?_
    refine at_off rfl rfl (nf (bf h1922)) rfl ?_
    refine at_lt (lt_pick true rfl (nf (bf h1922)) rfl) rfl ?_
    refine s_nt ?_
    refine at_true rfl rfl ?_
    refine s_sr ?_
    refine s_as rfl ?_
    refine s_nt ?_
    refine at_ret ?_
    have hq := oinj hr
    clear hr
    subst hq
    have hq := oinj hk1914
    clear hk1914
    subst hq
    refine at_in_ret ?_
    refine at_then_ret ?_
    refine at_then_ret ?_
    refine at_in_ret ?_
    refine at_then_ret ?_
    refine at_then_ret ?_
    exact at_return (.bool false) [] hS Tryz.results56 (.cons (.tmp rfl) .nil) rfl rfl ⟨rfl, rfl⟩
   replace hr := ineg h1915 hr
   refine at_false rfl (decide_eq_false (by omega)) ?_
   refine at_exit ?_
   refine at_then_exit ?_
   refine at_then_exit ?_
   refine at_in_exit ?_
   have hq := oinj hr
   clear hr
   subst hq
   exact at_leafP ((), ()) rfl ⟨trivial, ⟨[false], rfl⟩, ⟨[], rfl⟩, ⟨[], rfl⟩⟩
  rintro ⟨_, _⟩ hp
  replace hr := hk1914
  subst hp
  clear hl1913
  change At _ _ (⟨[], [], [], []⟩ : St) _
  refine s_tsr ?_
  refine s_as rfl ?_
  refine s_nt ?_
  refine at_ret ?_
  have hq := oinj hr
  clear hr
  subst hq
  exact at_return (.bool true) [] hS Tryz.results56 (.cons (.tmp rfl) .nil) rfl rfl ⟨rfl, rfl⟩
 replace hr := ineg h1889 hr
 refine at_off rfl rfl (nf (bf h1889)) rfl ?_
 refine at_off rfl rfl (nf (bf h1889)) rfl ?_
 refine at_off rfl rfl (nf (bf h1889)) rfl ?_
 refine at_off rfl rfl (nf (bf h1889)) rfl ?_
 refine at_lt (lt_pick true rfl (nf (bf h1889)) rfl) rfl ?_
 refine s_mv rfl ?_
 refine at_off rfl rfl rfl rfl ?_
 refine at_off rfl rfl rfl rfl ?_
 refine at_off rfl rfl rfl rfl ?_
 refine at_off rfl rfl rfl rfl ?_
 refine at_lt (lt_pick true rfl rfl rfl) rfl ?_
 refine s_nt ?_
 refine at_true rfl rfl ?_
 refine s_sr ?_
 refine s_as rfl ?_
 refine s_nt ?_
 refine at_ret ?_
 have hq := oinj hr
 clear hr
 subst hq
 refine at_then_ret ?_
 exact at_return (.bool false) [] hS Tryz.results56 (.cons (.tmp rfl) .nil) rfl rfl ⟨rfl, rfl⟩
/-! 25 bookplate/bookplateref12.Valid -/
def m25_l1 (a0 : D_api_Record) : Nat → Nat → Option (Fl Bool Unit)
  | 0, _ => none
  | k + 1, x1939 =>
    if x1939 < a0.Fields.length then
     (a0.Fields[x1939]?).bind fun x1944 =>
     (m56 x1944).bind fun x1949 =>
     if x1949 = true then
      m25_l1 a0 k (x1939 + 1)
     else
      some (Fl.ret false)
    else
     some (Fl.go ())
def m25 (a0 : D_api_Record) : Option Bool :=
  if a0.ID < 1 then
   some false
  else
   if (1000000000 : Int) < a0.ID then
    some false
   else
    if a0.Fields.length < 1 then
     some false
    else
     if 60 < a0.Fields.length then
      some false
     else
      (m25_l1 a0 (a0.Fields.length + 1) 0).bind fun r => match r with
      | .ret x => some x
      | .go _ =>
       some true
def post25 (r : Bool) (v : Value) (fs : List Fact) : Prop := v = .bool r ∧ fs = []
theorem en25 : Enters Tryz.prog 25 := ⟨_, Tryz.func25, by kernel_rfl, rfl⟩
theorem f25_spec {a0 : D_api_Record} {s1930 : Value} {r : Bool} (hr : m25 a0 = some r) : Spec Tryz.prog 25 [.agg #[.int .i64 a0.ID, s1930]] [(ty25.fact a0 [.int .i64 a0.ID, s1930])] (post25 r) := by
 refine spec_start (N := 38) Tryz.func25 (by kernel_rfl) rfl rfl rfl ?_
 intro g hS
 unfold m25 at hr
 refine at_open (A := Unit) 0 rfl (fun _ => True) (fun _ => [((Ty.int .i64).fact a0.ID [.int .i64 a0.ID]), ((Ty.slice ty69).fact a0.Fields [s1930])]) (fun F w h => ⟨(), trivial, ex25 h⟩) (fun _ _ => ?_)
 refine at_inv 0 rfl (fun l1931 => ?_)
 replace l1931 : (-9223372036854775808) ≤ a0.ID ∧ a0.ID ≤ 9223372036854775807 := l1931
 refine s_sr ?_
 refine at_hv rfl ?_
 refine hv_box (cs := [.int .i64 a0.ID, s1930]) rfl rfl rfl (fun b1932 => ?_)
 refine s_as rfl ?_
 refine s_nt ?_
 refine at_seq ?_
 refine s_sr ?_
 refine at_lt (lt_fieldAddr 0 rfl fld25_0 rfl) rfl ?_
 refine at_lt (lt_load_box 0 rfl ti3 rfl rfl rfl rfl rfl) rfl ?_
 refine at_lt (lt_lss rfl rfl) rfl ?_
 refine s_mv rfl ?_
 by_cases h1933 : a0.ID < 1
 ·replace hr := ipos h1933 hr
  refine at_off rfl rfl (decide_eq_true (by first | exact h1933 | omega)) rfl ?_
  refine at_off rfl rfl (decide_eq_true (by first | exact h1933 | omega)) rfl ?_
  refine at_off rfl rfl (decide_eq_true (by first | exact h1933 | omega)) rfl ?_
  refine at_lt (lt_pick true rfl (decide_eq_true (by first | exact h1933 | omega)) rfl) rfl ?_
  refine s_mv rfl ?_
  refine at_off rfl rfl rfl rfl ?_
  refine at_off rfl rfl rfl rfl ?_
  refine at_off rfl rfl rfl rfl ?_
  refine at_off rfl rfl rfl rfl ?_
  refine at_lt (lt_pick true rfl rfl rfl) rfl ?_
  refine s_mv rfl ?_
  refine at_off rfl rfl rfl rfl ?_
  refine at_off rfl rfl rfl rfl ?_
  refine at_off rfl rfl rfl rfl ?_
  refine at_off rfl rfl rfl rfl ?_
  refine at_lt (lt_pick true rfl rfl rfl) rfl ?_
  refine s_nt ?_
  refine at_true rfl rfl ?_
  refine s_sr ?_
  refine s_as rfl ?_
  refine s_nt ?_
  refine at_ret ?_
  have hq := oinj hr
  clear hr
  subst hq
  refine at_then_ret ?_
  exact at_return (.bool false) [] hS Tryz.results25 (.cons (.tmp rfl) .nil) rfl rfl ⟨rfl, rfl⟩
 replace hr := ineg h1933 hr
 refine at_on rfl rfl (decide_eq_false (by first | exact h1933 | omega)) ?_
 refine at_lt (lt_fieldAddr 0 rfl fld25_0 rfl) rfl ?_
 refine at_on rfl rfl (decide_eq_false (by first | exact h1933 | omega)) ?_
 refine at_lt (lt_load_box 0 rfl ti3 rfl rfl rfl rfl rfl) rfl ?_
 refine at_on rfl rfl (decide_eq_false (by first | exact h1933 | omega)) ?_
 refine at_lt (lt_gtr rfl rfl) rfl ?_
 refine at_lt (lt_pick false rfl (decide_eq_false (by first | exact h1933 | omega)) rfl) rfl ?_
 refine s_mv rfl ?_
 by_cases h1934 : (1000000000 : Int) < a0.ID
 ·replace hr := ipos h1934 hr
  refine at_off rfl rfl (decide_eq_true (by first | exact h1934 | omega)) rfl ?_
  refine at_off rfl rfl (decide_eq_true (by first | exact h1934 | omega)) rfl ?_
  refine at_off rfl rfl (decide_eq_true (by first | exact h1934 | omega)) rfl ?_
  refine at_off rfl rfl (decide_eq_true (by first | exact h1934 | omega)) rfl ?_
  refine at_lt (lt_pick true rfl (decide_eq_true (by first | exact h1934 | omega)) rfl) rfl ?_
  refine s_mv rfl ?_
  refine at_off rfl rfl rfl rfl ?_
  refine at_off rfl rfl rfl rfl ?_
  refine at_off rfl rfl rfl rfl ?_
  refine at_off rfl rfl rfl rfl ?_
  refine at_lt (lt_pick true rfl rfl rfl) rfl ?_
  refine s_nt ?_
  refine at_true rfl rfl ?_
  refine s_sr ?_
  refine s_as rfl ?_
  refine s_nt ?_
  refine at_ret ?_
  have hq := oinj hr
  clear hr
  subst hq
  refine at_then_ret ?_
  exact at_return (.bool false) [] hS Tryz.results25 (.cons (.tmp rfl) .nil) rfl rfl ⟨rfl, rfl⟩
 replace hr := ineg h1934 hr
 refine at_on rfl rfl (decide_eq_false (by first | exact h1934 | omega)) ?_
 refine at_lt (lt_fieldAddr 1 rfl fld25_1 rfl) rfl ?_
 refine at_on rfl rfl (decide_eq_false (by first | exact h1934 | omega)) ?_
 refine at_lt (lt_load_box 0 rfl ti23 rfl rfl rfl rfl rfl) rfl ?_
 refine at_inv 1 rfl (fun i1935 => ?_)
 have l1936 := slice_len i1935
 refine at_on rfl rfl (decide_eq_false (by first | exact h1934 | omega)) ?_
 refine at_lt (lt_flen 1 rfl rfl und23) rfl ?_
 refine at_on rfl rfl (decide_eq_false (by first | exact h1934 | omega)) ?_
 refine at_lt (lt_lss rfl rfl) rfl ?_
 refine at_lt (lt_pick false rfl (decide_eq_false (by first | exact h1934 | omega)) rfl) rfl ?_
 refine s_mv rfl ?_
 by_cases h1937 : a0.Fields.length < 1
 ·replace hr := ipos h1937 hr
  refine at_off rfl rfl (decide_eq_true (by omega)) rfl ?_
  refine at_off rfl rfl (decide_eq_true (by omega)) rfl ?_
  refine at_off rfl rfl (decide_eq_true (by omega)) rfl ?_
  refine at_off rfl rfl (decide_eq_true (by omega)) rfl ?_
  refine at_lt (lt_pick true rfl (decide_eq_true (by omega)) rfl) rfl ?_
  refine s_nt ?_
  refine at_true rfl rfl ?_
  refine s_sr ?_
  refine s_as rfl ?_
  refine s_nt ?_
  refine at_ret ?_
  have hq := oinj hr
  clear hr
  subst hq
  refine at_then_ret ?_
  exact at_return (.bool false) [] hS Tryz.results25 (.cons (.tmp rfl) .nil) rfl rfl ⟨rfl, rfl⟩
 replace hr := ineg h1937 hr
 refine at_on rfl rfl (decide_eq_false (by omega)) ?_
 refine at_lt (lt_fieldAddr 1 rfl fld25_1 rfl) rfl ?_
 refine at_on rfl rfl (decide_eq_false (by omega)) ?_
 refine at_lt (lt_load_box 0 rfl ti23 rfl rfl rfl rfl rfl) rfl ?_
 refine at_on rfl rfl (decide_eq_false (by omega)) ?_
 refine at_lt (lt_flen 1 rfl rfl und23) rfl ?_
 refine at_on rfl rfl (decide_eq_false (by omega)) ?_
 refine at_lt (lt_gtr rfl rfl) rfl ?_
 refine at_lt (lt_pick false rfl (decide_eq_false (by omega)) rfl) rfl ?_
 refine s_nt ?_
 by_cases h1938 : 60 < a0.Fields.length
 ·replace hr := ipos h1938 hr
  refine at_true rfl (decide_eq_true (by omega)) ?_
  refine s_sr ?_
  refine s_as rfl ?_
  refine s_nt ?_
  refine at_ret ?_
  have hq := oinj hr
  clear hr
  subst hq
  refine at_then_ret ?_
  exact at_return (.bool false) [] hS Tryz.results25 (.cons (.tmp rfl) .nil) rfl rfl ⟨rfl, rfl⟩
 replace hr := ineg h1938 hr
 refine at_false rfl (decide_eq_false (by omega)) ?_
 refine at_skip ?_
 refine at_then ?_
 refine at_seq ?_
 refine s_sr ?_
 refine s_as rfl ?_
 refine s_nt ?_
 refine at_int .i64 0 (by simp only [lo, hi]; omega) ?_
 replace hr := obind hr
 obtain ⟨r1940, hl1941, hk1942⟩ := hr
 refine at_cutP (V := (Unit) × (Unit)) (fun v => r1940 = Fl.go v.1) (fun v => (⟨[], [], [], []⟩ : St)) ?_ ?_
 ·refine at_block ?_
  refine at_loopW (σ := Nat) (V := Unit) (r := r1940) (fun n s => m25_l1 a0 n s) (fun s e => (⟨[(1, .pointer (some (Addr.add ⟨b1932, 0, none⟩ 0))), (3, .int .i64 (s : Int))], [⟨b1932, [.int .i64 a0.ID, s1930], 25⟩], [], [((Ty.int .i64).fact (s : Int) [.int .i64 (s : Int)]), ((Ty.int .i64).fact a0.ID [.int .i64 a0.ID]), ((Ty.slice ty69).fact a0.Fields [s1930])]⟩ : St)) (fun _ => rfl) _ 0 () hl1941 ⟨⟨rfl, ⟨rfl, trivial⟩⟩, ⟨[true], rfl⟩, ⟨[], rfl⟩, ⟨[0, 1, 2], rfl⟩⟩ ?_
  clear hl1941
  intro n x1939 hr e
  skip
  skip
  change m25_l1 a0 (n + 1) x1939 = some r1940 at hr
  change At _ _ (⟨[(1, .pointer (some (Addr.add ⟨b1932, 0, none⟩ 0))), (3, .int .i64 (x1939 : Int))], [⟨b1932, [.int .i64 a0.ID, s1930], 25⟩], [], [((Ty.int .i64).fact (x1939 : Int) [.int .i64 (x1939 : Int)]), ((Ty.int .i64).fact a0.ID [.int .i64 a0.ID]), ((Ty.slice ty69).fact a0.Fields [s1930])]⟩ : St) _
  rw [m25_l1] at hr
  refine at_seq ?_
  refine s_sr ?_
  refine s_mv rfl ?_
  refine at_lt (lt_fieldAddr 1 rfl fld25_1 rfl) rfl ?_
  refine at_lt (lt_load_box 0 rfl ti23 rfl rfl rfl rfl rfl) rfl ?_
  refine at_lt (lt_flen 2 rfl rfl und23) rfl ?_
  refine at_lt (lt_lss rfl rfl) rfl ?_
  refine s_nt ?_
  by_cases h1943 : x1939 < a0.Fields.length
  ·replace hr := ipos h1943 hr
   refine at_true rfl (decide_eq_true (by omega)) ?_
   refine at_skip ?_
   refine at_then ?_
   refine at_seq ?_
   refine at_block ?_
   refine s_sr ?_
   refine at_lt (lt_fieldAddr 1 rfl fld25_1 rfl) rfl ?_
   refine at_lt (lt_load_box 0 rfl ti23 rfl rfl rfl rfl rfl) rfl ?_
   refine s_mv rfl ?_
   replace hr := obind hr
   obtain ⟨x1944, h1945, hr⟩ := hr
   have := (List.getElem?_eq_some_iff.1 h1945).1
   refine at_elem 2 rfl (nat_at' h1945) (fun p1947 ec pa1948 => ?_)
   refine at_open (A := Value) 0 rfl _ _ (fun F w h => op69 h) ?_
   rintro s1946 rfl
   refine at_lt (lt_idx rfl rfl pa1948 und23 ti69) rfl ?_
   refine at_lt (lt_load_peek 3 rfl ti69 rfl rfl rfl rfl rfl) rfl ?_
   replace hr := obind hr
   obtain ⟨x1949, h1950, hr⟩ := hr
   refine at_hv rfl ?_
   refine hv_call0 [2] (f56_spec h1950) rfl rfl rfl rfl ?_
   rintro _ _ ⟨rfl, rfl⟩
   refine at_lt (lt_not rfl) rfl ?_
   refine s_nt ?_
   by_cases h1951 : x1949 = true
   ·replace hr := ipos h1951 hr
    refine at_false rfl (nt h1951) ?_
    refine at_skip ?_
    refine at_in ?_
    refine s_tr ?_
    refine s_mv rfl ?_
    refine at_lt (lt_add rfl rfl (by simp only [lo, hi]; omega)) rfl ?_
    refine s_as rfl ?_
    refine at_nil ?_
    refine at_int .i64 (x1939 + 1 : Int) (by simp only [lo, hi]; omega) ?_
    exact at_again (σ := Nat) (V := Unit) (lp := fun n s => m25_l1 a0 n s) (S := fun s e => (⟨[(1, .pointer (some (Addr.add ⟨b1932, 0, none⟩ 0))), (3, .int .i64 (s : Int))], [⟨b1932, [.int .i64 a0.ID, s1930], 25⟩], [], [((Ty.int .i64).fact (s : Int) [.int .i64 (s : Int)]), ((Ty.int .i64).fact a0.ID [.int .i64 a0.ID]), ((Ty.slice ty69).fact a0.Fields [s1930])]⟩ : St)) (x1939 + 1) () hr ⟨⟨rfl, ⟨rfl, trivial⟩⟩, ⟨[true], rfl⟩, ⟨[], rfl⟩, ⟨[0, 6, 7], rfl⟩⟩
   replace hr := ineg h1951 hr
   refine at_true rfl (nf (bf h1951)) ?_
   refine s_sr ?_
   refine s_as rfl ?_
   refine s_nt ?_
   refine at_ret ?_
   have hq := oinj hr
   clear hr
   subst hq
   have hq := oinj hk1942
   clear hk1942
   subst hq
   refine at_in_ret ?_
   refine at_then_ret ?_
   refine at_then_ret ?_
   refine at_in_ret ?_
   refine at_then_ret ?_
   refine at_then_ret ?_
   exact at_return (.bool false) [] hS Tryz.results25 (.cons (.tmp rfl) .nil) rfl rfl ⟨rfl, rfl⟩
  replace hr := ineg h1943 hr
  refine at_false rfl (decide_eq_false (by omega)) ?_
  refine at_exit ?_
  refine at_then_exit ?_
  refine at_then_exit ?_
  refine at_in_exit ?_
  have hq := oinj hr
  clear hr
  subst hq
  exact at_leafP ((), ()) rfl ⟨trivial, ⟨[false], rfl⟩, ⟨[], rfl⟩, ⟨[], rfl⟩⟩
 rintro ⟨_, _⟩ hp
 replace hr := hk1942
 subst hp
 clear hl1941
 change At _ _ (⟨[], [], [], []⟩ : St) _
 refine s_tsr ?_
 refine s_as rfl ?_
 refine s_nt ?_
 refine at_ret ?_
 have hq := oinj hr
 clear hr
 subst hq
 exact at_return (.bool true) [] hS Tryz.results25 (.cons (.tmp rfl) .nil) rfl rfl ⟨rfl, rfl⟩
end Go.WK.S
