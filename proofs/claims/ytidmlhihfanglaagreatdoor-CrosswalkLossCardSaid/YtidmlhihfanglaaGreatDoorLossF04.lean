/- What functions of this program compute: a model of each, and the proof that it is kept. -/
import Derived.Test.YtidmlhihfanglaaGreatDoorLossF03
import Derived.KernelRfl
set_option linter.unusedSimpArgs false
set_option linter.unusedVariables false
namespace Go.WK.S
open Go Go.Proofs Go.WK Go.RowKit
set_option linter.unusedVariables false
set_option maxRecDepth 100000
set_option maxHeartbeats 4000000
/-! 152 bookplate/bookplateref04.at -/
def m152 (a0 : Str) (a1 : Int) : Option (Int × Int) :=
  (at? a0 a1).bind fun c1540 =>
  if c1540.toNat < 128 then
   some ((c1540.toNat : Int), 1)
  else
   Option.bind (α := Bool) (
    if 194 ≤ c1540.toNat then
     if c1540.toNat < 224 then
      if IntKind.i64.wrap (a1 + 1) < (a0.length : Int) then
       (at? a0 (IntKind.i64.wrap (a1 + 1))).bind fun c1549 =>
       some (decide (Int.fdiv (c1549.toNat : Int) (2 ^ (min 6 8)) = 2))
      else
       some false
     else
      some false
    else
     some false
   ) fun x1543 =>
   if x1543 = true then
    (at? a0 (IntKind.i64.wrap (a1 + 1))).bind fun c1552 =>
    some (IntKind.i64.wrap ((IntKind.i64.wrap (((c1540.toNat : Int) - 192) * 64)) + ((w8 ((c1552.toNat : Int) - 128)).toNat : Int)), 2)
   else
    Option.bind (α := Bool) (
     if 224 ≤ c1540.toNat then
      if c1540.toNat < 240 then
       if IntKind.i64.wrap (a1 + 2) < (a0.length : Int) then
        (at? a0 (IntKind.i64.wrap (a1 + 1))).bind fun c1560 =>
        if Int.fdiv (c1560.toNat : Int) (2 ^ (min 6 8)) = 2 then
         (at? a0 (IntKind.i64.wrap (a1 + 2))).bind fun c1563 =>
         some (decide (Int.fdiv (c1563.toNat : Int) (2 ^ (min 6 8)) = 2))
        else
         some false
       else
        some false
      else
       some false
     else
      some false
    ) fun x1554 =>
    if x1554 = true then
     (at? a0 (IntKind.i64.wrap (a1 + 1))).bind fun c1566 =>
     if (w8 ((c1566.toNat : Int) - 128)).toNat * 64 ≤ 9223372036854775807 then
      (at? a0 (IntKind.i64.wrap (a1 + 2))).bind fun c1569 =>
      if (2048 : Int) ≤ IntKind.i64.wrap ((IntKind.i64.wrap ((IntKind.i64.wrap (((c1540.toNat : Int) - 224) * 4096)) + (((w8 ((c1566.toNat : Int) - 128)).toNat : Int) * 64))) + ((w8 ((c1569.toNat : Int) - 128)).toNat : Int)) then
       some (IntKind.i64.wrap ((IntKind.i64.wrap ((IntKind.i64.wrap (((c1540.toNat : Int) - 224) * 4096)) + (((w8 ((c1566.toNat : Int) - 128)).toNat : Int) * 64))) + ((w8 ((c1569.toNat : Int) - 128)).toNat : Int)), 3)
      else
       some (0, 0)
     else none
    else
     some (0, 0)
def post152 (r : (Int × Int)) (v : Value) (fs : List Fact) : Prop := v = .tuple #[.int .i64 r.1, .int .i64 r.2] ∧ fs = [((Ty.int .i64).fact r.1 [.int .i64 r.1]), ((Ty.int .i64).fact r.2 [.int .i64 r.2])]
theorem en152 : Enters Tryz.prog 152 := ⟨_, Tryz.func152, by kernel_rfl, rfl⟩
theorem f152_spec {a0 : Str} {a1 : Int} {r : (Int × Int)} (hr : m152 a0 a1 = some r) : Spec Tryz.prog 152 [str a0, .int .i64 a1] [(Ty.str.fact a0 [str a0]), ((Ty.int .i64).fact a1 [.int .i64 a1])] (post152 r) := by
 refine spec_start (N := 96) Tryz.func152 (by kernel_rfl) rfl rfl rfl ?_
 intro g hS
 unfold m152 at hr
 refine at_inv 1 rfl (fun l1539 => ?_)
 replace l1539 : (-9223372036854775808) ≤ a1 ∧ a1 ≤ 9223372036854775807 := l1539
 refine s_sr ?_
 refine s_as rfl ?_
 refine s_as rfl ?_
 refine s_ntsr ?_
 refine s_mv rfl ?_
 refine s_mv rfl ?_
 replace hr := obind hr
 obtain ⟨c1540, h1541, hr⟩ := hr
 have := at?_lt h1541
 have := c1540.toNat_lt
 refine at_lt (lt_sidx rfl rfl und9 (at?_lt h1541).1 (at?_get h1541)) rfl ?_
 refine at_lt (lt_convint rfl (iso und5) und3 (u8_in_i64 c1540)) rfl ?_
 refine s_as rfl ?_
 refine s_nt ?_
 refine at_seq ?_
 refine s_sr ?_
 refine s_mv rfl ?_
 refine at_lt (lt_lss rfl rfl) rfl ?_
 refine s_nt ?_
 by_cases h1542 : c1540.toNat < 128
 ·replace hr := ipos h1542 hr
  refine at_true rfl (decide_eq_true (by omega)) ?_
  refine s_sr ?_
  refine s_mv rfl ?_
  refine s_as rfl ?_
  refine s_as rfl ?_
  refine s_nt ?_
  refine at_ret ?_
  have hq := oinj hr
  clear hr
  subst hq
  refine at_then_ret ?_
  refine at_int .i64 (c1540.toNat : Int) (u8_in_i64 c1540) ?_
  refine at_int .i64 1 (by simp only [lo, hi]; omega) ?_
  exact at_return (.tuple #[.int .i64 (c1540.toNat : Int), .int .i64 1]) [1, 0] hS Tryz.results152 (.cons (.tmp rfl) (.cons (.tmp rfl) .nil)) rfl rfl ⟨rfl, rfl⟩
 replace hr := ineg h1542 hr
 refine at_false rfl (decide_eq_false (by omega)) ?_
 refine at_skip ?_
 refine at_then ?_
 refine at_seq ?_
 refine at_seq ?_
 replace hr := obind hr
 obtain ⟨x1543, hc1544, hr⟩ := hr
 refine at_cut (V := Unit) (fun e => (⟨[(0, str a0), (1, .int .i64 a1), (6, .int .i64 (c1540.toNat : Int)), (35, .bool x1543)], [], [], [(Ty.str.fact a0 [str a0]), ((Ty.int .i64).fact a1 [.int .i64 a1])]⟩ : St)) ?_ ?_
 ·clear hr
  have hr := hc1544
  clear hc1544
  refine at_region ?_
  refine s_mv rfl ?_
  refine at_lt (lt_geq rfl rfl) rfl ?_
  refine s_mv rfl ?_
  by_cases h1545 : 194 ≤ c1540.toNat
  ·replace hr := ipos h1545 hr
   refine at_on rfl rfl (decide_eq_true (by omega)) ?_
   refine s_mv rfl ?_
   refine at_on rfl rfl (decide_eq_true (by omega)) ?_
   refine at_lt (lt_lss rfl rfl) rfl ?_
   refine at_lt (lt_pick true rfl (decide_eq_true (by omega)) rfl) rfl ?_
   refine s_mv rfl ?_
   by_cases h1546 : c1540.toNat < 224
   ·replace hr := ipos h1546 hr
    refine at_on rfl rfl (decide_eq_true (by omega)) ?_
    refine s_mv rfl ?_
    refine at_on rfl rfl (decide_eq_true (by omega)) ?_
    refine at_lt (lt_addw rfl rfl) rfl ?_
    refine at_on rfl rfl (decide_eq_true (by omega)) ?_
    refine s_mv rfl ?_
    refine at_inv 0 rfl (fun l1547 => ?_)
    replace l1547 : a0.length ≤ 9223372036854775807 := l1547
    refine at_on rfl rfl (decide_eq_true (by omega)) ?_
    refine at_lt (lt_slen rfl und9) rfl ?_
    refine at_on rfl rfl (decide_eq_true (by omega)) ?_
    refine at_lt (lt_lss rfl rfl) rfl ?_
    refine at_lt (lt_pick true rfl (decide_eq_true (by omega)) rfl) rfl ?_
    refine s_mv rfl ?_
    by_cases h1548 : IntKind.i64.wrap (a1 + 1) < (a0.length : Int)
    ·replace hr := ipos h1548 hr
     refine at_on rfl rfl (decide_eq_true (by first | exact h1548 | omega)) ?_
     refine s_mv rfl ?_
     refine at_on rfl rfl (decide_eq_true (by first | exact h1548 | omega)) ?_
     refine s_mv rfl ?_
     refine at_on rfl rfl (decide_eq_true (by first | exact h1548 | omega)) ?_
     refine at_lt (lt_addw rfl rfl) rfl ?_
     replace hr := obind hr
     obtain ⟨c1549, h1550, hr⟩ := hr
     have := at?_lt h1550
     have := c1549.toNat_lt
     refine at_on rfl rfl (decide_eq_true (by first | exact h1548 | omega)) ?_
     refine at_lt (lt_sidx rfl rfl und9 (at?_lt h1550).1 (at?_get h1550)) rfl ?_
     refine at_on rfl rfl (decide_eq_true (by first | exact h1548 | omega)) ?_
     refine at_lt (lt_shr rfl rfl (by decide)) rfl ?_
     refine at_on rfl rfl (decide_eq_true (by first | exact h1548 | omega)) ?_
     refine at_lt (lt_eql rfl rfl) rfl ?_
     refine at_lt (lt_pick true rfl (decide_eq_true (by first | exact h1548 | omega)) rfl) rfl ?_
     refine at_nil ?_
     have hq := oinj hr
     clear hr
     subst hq
     exact at_leaf () ⟨⟨rfl, ⟨rfl, ⟨rfl, ⟨rfl, trivial⟩⟩⟩⟩, ⟨[], rfl⟩, ⟨[], rfl⟩, ⟨[0, 1], rfl⟩⟩
    replace hr := ineg h1548 hr
    refine at_off rfl rfl (decide_eq_false (by first | exact h1548 | omega)) rfl ?_
    refine at_off rfl rfl (decide_eq_false (by first | exact h1548 | omega)) rfl ?_
    refine at_off rfl rfl (decide_eq_false (by first | exact h1548 | omega)) rfl ?_
    refine at_off rfl rfl (decide_eq_false (by first | exact h1548 | omega)) rfl ?_
    refine at_off rfl rfl (decide_eq_false (by first | exact h1548 | omega)) rfl ?_
    refine at_off rfl rfl (decide_eq_false (by first | exact h1548 | omega)) rfl ?_
    refine at_lt (lt_pick false rfl (decide_eq_false (by first | exact h1548 | omega)) rfl) rfl ?_
    refine at_nil ?_
    have hq := oinj hr
    clear hr
    subst hq
    exact at_leaf () ⟨⟨rfl, ⟨rfl, ⟨rfl, ⟨rfl, trivial⟩⟩⟩⟩, ⟨[], rfl⟩, ⟨[], rfl⟩, ⟨[0, 1], rfl⟩⟩
   replace hr := ineg h1546 hr
   refine at_off rfl rfl (decide_eq_false (by omega)) rfl ?_
   refine at_off rfl rfl (decide_eq_false (by omega)) rfl ?_
   refine at_off rfl rfl (decide_eq_false (by omega)) rfl ?_
   refine at_off rfl rfl (decide_eq_false (by omega)) rfl ?_
   refine at_off rfl rfl (decide_eq_false (by omega)) rfl ?_
   refine at_lt (lt_pick false rfl (decide_eq_false (by omega)) rfl) rfl ?_
   refine s_mv rfl ?_
   refine at_off rfl rfl rfl rfl ?_
   refine at_off rfl rfl rfl rfl ?_
   refine at_off rfl rfl rfl rfl ?_
   refine at_off rfl rfl rfl rfl ?_
   refine at_off rfl rfl rfl rfl ?_
   refine at_off rfl rfl rfl rfl ?_
   refine at_lt (lt_pick false rfl rfl rfl) rfl ?_
   refine at_nil ?_
   have hq := oinj hr
   clear hr
   subst hq
   exact at_leaf () ⟨⟨rfl, ⟨rfl, ⟨rfl, ⟨rfl, trivial⟩⟩⟩⟩, ⟨[], rfl⟩, ⟨[], rfl⟩, ⟨[0, 1], rfl⟩⟩
  replace hr := ineg h1545 hr
  refine at_off rfl rfl (decide_eq_false (by omega)) rfl ?_
  refine at_off rfl rfl (decide_eq_false (by omega)) rfl ?_
  refine at_lt (lt_pick false rfl (decide_eq_false (by omega)) rfl) rfl ?_
  refine s_mv rfl ?_
  refine at_off rfl rfl rfl rfl ?_
  refine at_off rfl rfl rfl rfl ?_
  refine at_off rfl rfl rfl rfl ?_
  refine at_off rfl rfl rfl rfl ?_
  refine at_off rfl rfl rfl rfl ?_
  refine at_lt (lt_pick false rfl rfl rfl) rfl ?_
  refine s_mv rfl ?_
  refine at_off rfl rfl rfl rfl ?_
  refine at_off rfl rfl rfl rfl ?_
  refine at_off rfl rfl rfl rfl ?_
  refine at_off rfl rfl rfl rfl ?_
  refine at_off rfl rfl rfl rfl ?_
  refine at_off rfl rfl rfl rfl ?_
  refine at_lt (lt_pick false rfl rfl rfl) rfl ?_
  refine at_nil ?_
  have hq := oinj hr
  clear hr
  subst hq
  exact at_leaf () ⟨⟨rfl, ⟨rfl, ⟨rfl, ⟨rfl, trivial⟩⟩⟩⟩, ⟨[], rfl⟩, ⟨[], rfl⟩, ⟨[0, 1], rfl⟩⟩
 clear hc1544
 intro _
 change At _ _ (⟨[(0, str a0), (1, .int .i64 a1), (6, .int .i64 (c1540.toNat : Int)), (35, .bool x1543)], [], [], [(Ty.str.fact a0 [str a0]), ((Ty.int .i64).fact a1 [.int .i64 a1])]⟩ : St) _
 refine at_then ?_
 by_cases h1551 : x1543 = true
 ·replace hr := ipos h1551 hr
  refine at_true rfl h1551 ?_
  refine s_sr ?_
  refine s_mv rfl ?_
  refine at_lt (lt_sub rfl rfl (by simp only [lo, hi]; omega)) rfl ?_
  refine at_lt (lt_mulw rfl rfl) rfl ?_
  refine s_mv rfl ?_
  refine s_mv rfl ?_
  refine at_lt (lt_addw rfl rfl) rfl ?_
  replace hr := obind hr
  obtain ⟨c1552, h1553, hr⟩ := hr
  have := at?_lt h1553
  have := c1552.toNat_lt
  refine at_lt (lt_sidx rfl rfl und9 (at?_lt h1553).1 (at?_get h1553)) rfl ?_
  refine at_lt (lt_u8 (lt_subw rfl rfl)) rfl ?_
  refine at_lt (lt_convint rfl (iso und5) und3 (u8_in_i64 (w8 ((c1552.toNat : Int) - 128)))) rfl ?_
  refine at_lt (lt_addw rfl rfl) rfl ?_
  refine s_as rfl ?_
  refine s_as rfl ?_
  refine s_nt ?_
  refine at_ret ?_
  have hq := oinj hr
  clear hr
  subst hq
  refine at_then_ret ?_
  refine at_int .i64 (IntKind.i64.wrap ((IntKind.i64.wrap (((c1540.toNat : Int) - 192) * 64)) + ((w8 ((c1552.toNat : Int) - 128)).toNat : Int))) (wrap_bd .i64 _) ?_
  refine at_int .i64 2 (by simp only [lo, hi]; omega) ?_
  exact at_return (.tuple #[.int .i64 (IntKind.i64.wrap ((IntKind.i64.wrap (((c1540.toNat : Int) - 192) * 64)) + ((w8 ((c1552.toNat : Int) - 128)).toNat : Int))), .int .i64 2]) [1, 0] hS Tryz.results152 (.cons (.tmp rfl) (.cons (.tmp rfl) .nil)) rfl rfl ⟨rfl, rfl⟩
 replace hr := ineg h1551 hr
 refine at_false rfl (bf h1551) ?_
 refine at_skip ?_
 refine at_then ?_
 refine at_seq ?_
 refine at_seq ?_
 replace hr := obind hr
 obtain ⟨x1554, hc1555, hr⟩ := hr
 refine at_cut (V := Unit) (fun e => (⟨[(0, str a0), (1, .int .i64 a1), (6, .int .i64 (c1540.toNat : Int)), (74, .bool x1554)], [], [], [(Ty.str.fact a0 [str a0]), ((Ty.int .i64).fact a1 [.int .i64 a1])]⟩ : St)) ?_ ?_
 ·clear hr
  have hr := hc1555
  clear hc1555
  refine at_region ?_
  refine s_mv rfl ?_
  refine at_lt (lt_geq rfl rfl) rfl ?_
  refine s_mv rfl ?_
  by_cases h1556 : 224 ≤ c1540.toNat
  ·replace hr := ipos h1556 hr
   refine at_on rfl rfl (decide_eq_true (by omega)) ?_
   refine s_mv rfl ?_
   refine at_on rfl rfl (decide_eq_true (by omega)) ?_
   refine at_lt (lt_lss rfl rfl) rfl ?_
   refine at_lt (lt_pick true rfl (decide_eq_true (by omega)) rfl) rfl ?_
   refine s_mv rfl ?_
   by_cases h1557 : c1540.toNat < 240
   ·replace hr := ipos h1557 hr
    refine at_on rfl rfl (decide_eq_true (by omega)) ?_
    refine s_mv rfl ?_
    refine at_on rfl rfl (decide_eq_true (by omega)) ?_
    refine at_lt (lt_addw rfl rfl) rfl ?_
    refine at_on rfl rfl (decide_eq_true (by omega)) ?_
    refine s_mv rfl ?_
    refine at_inv 0 rfl (fun l1558 => ?_)
    replace l1558 : a0.length ≤ 9223372036854775807 := l1558
    refine at_on rfl rfl (decide_eq_true (by omega)) ?_
    refine at_lt (lt_slen rfl und9) rfl ?_
    refine at_on rfl rfl (decide_eq_true (by omega)) ?_
    refine at_lt (lt_lss rfl rfl) rfl ?_
    refine at_lt (lt_pick true rfl (decide_eq_true (by omega)) rfl) rfl ?_
    refine s_mv rfl ?_
    by_cases h1559 : IntKind.i64.wrap (a1 + 2) < (a0.length : Int)
    ·replace hr := ipos h1559 hr
     refine at_on rfl rfl (decide_eq_true (by first | exact h1559 | omega)) ?_
     refine s_mv rfl ?_
     refine at_on rfl rfl (decide_eq_true (by first | exact h1559 | omega)) ?_
     refine s_mv rfl ?_
     refine at_on rfl rfl (decide_eq_true (by first | exact h1559 | omega)) ?_
     refine at_lt (lt_addw rfl rfl) rfl ?_
     replace hr := obind hr
     obtain ⟨c1560, h1561, hr⟩ := hr
     have := at?_lt h1561
     have := c1560.toNat_lt
     refine at_on rfl rfl (decide_eq_true (by first | exact h1559 | omega)) ?_
     refine at_lt (lt_sidx rfl rfl und9 (at?_lt h1561).1 (at?_get h1561)) rfl ?_
     refine at_on rfl rfl (decide_eq_true (by first | exact h1559 | omega)) ?_
     refine at_lt (lt_shr rfl rfl (by decide)) rfl ?_
     refine at_on rfl rfl (decide_eq_true (by first | exact h1559 | omega)) ?_
     refine at_lt (lt_eql rfl rfl) rfl ?_
     refine at_lt (lt_pick true rfl (decide_eq_true (by first | exact h1559 | omega)) rfl) rfl ?_
     refine s_mv rfl ?_
     by_cases h1562 : Int.fdiv (c1560.toNat : Int) (2 ^ (min 6 8)) = 2
     ·replace hr := ipos h1562 hr
      refine at_on rfl rfl (decide_eq_true (by first | exact h1562 | omega)) ?_
      refine s_mv rfl ?_
      refine at_on rfl rfl (decide_eq_true (by first | exact h1562 | omega)) ?_
      refine s_mv rfl ?_
      refine at_on rfl rfl (decide_eq_true (by first | exact h1562 | omega)) ?_
      refine at_lt (lt_addw rfl rfl) rfl ?_
      replace hr := obind hr
      obtain ⟨c1563, h1564, hr⟩ := hr
      have := at?_lt h1564
      have := c1563.toNat_lt
      refine at_on rfl rfl (decide_eq_true (by first | exact h1562 | omega)) ?_
      refine at_lt (lt_sidx rfl rfl und9 (at?_lt h1564).1 (at?_get h1564)) rfl ?_
      refine at_on rfl rfl (decide_eq_true (by first | exact h1562 | omega)) ?_
      refine at_lt (lt_shr rfl rfl (by decide)) rfl ?_
      refine at_on rfl rfl (decide_eq_true (by first | exact h1562 | omega)) ?_
      refine at_lt (lt_eql rfl rfl) rfl ?_
      refine at_lt (lt_pick true rfl (decide_eq_true (by first | exact h1562 | omega)) rfl) rfl ?_
      refine at_nil ?_
      have hq := oinj hr
      clear hr
      subst hq
      exact at_leaf () ⟨⟨rfl, ⟨rfl, ⟨rfl, ⟨rfl, trivial⟩⟩⟩⟩, ⟨[], rfl⟩, ⟨[], rfl⟩, ⟨[0, 1], rfl⟩⟩
     replace hr := ineg h1562 hr
     refine at_off rfl rfl (decide_eq_false (by first | exact h1562 | omega)) rfl ?_
     refine at_off rfl rfl (decide_eq_false (by first | exact h1562 | omega)) rfl ?_
     refine at_off rfl rfl (decide_eq_false (by first | exact h1562 | omega)) rfl ?_
     refine at_off rfl rfl (decide_eq_false (by first | exact h1562 | omega)) rfl ?_
     refine at_off rfl rfl (decide_eq_false (by first | exact h1562 | omega)) rfl ?_
     refine at_off rfl rfl (decide_eq_false (by first | exact h1562 | omega)) rfl ?_
     refine at_lt (lt_pick false rfl (decide_eq_false (by first | exact h1562 | omega)) rfl) rfl ?_
     refine at_nil ?_
     have hq := oinj hr
     clear hr
     subst hq
     exact at_leaf () ⟨⟨rfl, ⟨rfl, ⟨rfl, ⟨rfl, trivial⟩⟩⟩⟩, ⟨[], rfl⟩, ⟨[], rfl⟩, ⟨[0, 1], rfl⟩⟩
    replace hr := ineg h1559 hr
    refine at_off rfl rfl (decide_eq_false (by first | exact h1559 | omega)) rfl ?_
    refine at_off rfl rfl (decide_eq_false (by first | exact h1559 | omega)) rfl ?_
    refine at_off rfl rfl (decide_eq_false (by first | exact h1559 | omega)) rfl ?_
    refine at_off rfl rfl (decide_eq_false (by first | exact h1559 | omega)) rfl ?_
    refine at_off rfl rfl (decide_eq_false (by first | exact h1559 | omega)) rfl ?_
    refine at_off rfl rfl (decide_eq_false (by first | exact h1559 | omega)) rfl ?_
    refine at_lt (lt_pick false rfl (decide_eq_false (by first | exact h1559 | omega)) rfl) rfl ?_
    refine s_mv rfl ?_
    refine at_off rfl rfl rfl rfl ?_
    refine at_off rfl rfl rfl rfl ?_
    refine at_off rfl rfl rfl rfl ?_
    refine at_off rfl rfl rfl rfl ?_
    refine at_off rfl rfl rfl rfl ?_
    refine at_off rfl rfl rfl rfl ?_
    refine at_lt (lt_pick false rfl rfl rfl) rfl ?_
    refine at_nil ?_
    have hq := oinj hr
    clear hr
    subst hq
    exact at_leaf () ⟨⟨rfl, ⟨rfl, ⟨rfl, ⟨rfl, trivial⟩⟩⟩⟩, ⟨[], rfl⟩, ⟨[], rfl⟩, ⟨[0, 1], rfl⟩⟩
   replace hr := ineg h1557 hr
   refine at_off rfl rfl (decide_eq_false (by omega)) rfl ?_
   refine at_off rfl rfl (decide_eq_false (by omega)) rfl ?_
   refine at_off rfl rfl (decide_eq_false (by omega)) rfl ?_
   refine at_off rfl rfl (decide_eq_false (by omega)) rfl ?_
   refine at_off rfl rfl (decide_eq_false (by omega)) rfl ?_
   refine at_lt (lt_pick false rfl (decide_eq_false (by omega)) rfl) rfl ?_
   refine s_mv rfl ?_
   refine at_off rfl rfl rfl rfl ?_
   refine at_off rfl rfl rfl rfl ?_
   refine at_off rfl rfl rfl rfl ?_
   refine at_off rfl rfl rfl rfl ?_
   refine at_off rfl rfl rfl rfl ?_
   refine at_off rfl rfl rfl rfl ?_
   refine at_lt (lt_pick false rfl rfl rfl) rfl ?_
   refine s_mv rfl ?_
   refine at_off rfl rfl rfl rfl ?_
   refine at_off rfl rfl rfl rfl ?_
   refine at_off rfl rfl rfl rfl ?_
   refine at_off rfl rfl rfl rfl ?_
   refine at_off rfl rfl rfl rfl ?_
   refine at_off rfl rfl rfl rfl ?_
   refine at_lt (lt_pick false rfl rfl rfl) rfl ?_
   refine at_nil ?_
   have hq := oinj hr
   clear hr
   subst hq
   exact at_leaf () ⟨⟨rfl, ⟨rfl, ⟨rfl, ⟨rfl, trivial⟩⟩⟩⟩, ⟨[], rfl⟩, ⟨[], rfl⟩, ⟨[0, 1], rfl⟩⟩
  replace hr := ineg h1556 hr
  refine at_off rfl rfl (decide_eq_false (by omega)) rfl ?_
  refine at_off rfl rfl (decide_eq_false (by omega)) rfl ?_
  refine at_lt (lt_pick false rfl (decide_eq_false (by omega)) rfl) rfl ?_
  refine s_mv rfl ?_
  refine at_off rfl rfl rfl rfl ?_
  refine at_off rfl rfl rfl rfl ?_
  refine at_off rfl rfl rfl rfl ?_
  refine at_off rfl rfl rfl rfl ?_
  refine at_off rfl rfl rfl rfl ?_
  refine at_lt (lt_pick false rfl rfl rfl) rfl ?_
  refine s_mv rfl ?_
  refine at_off rfl rfl rfl rfl ?_
  refine at_off rfl rfl rfl rfl ?_
  refine at_off rfl rfl rfl rfl ?_
  refine at_off rfl rfl rfl rfl ?_
  refine at_off rfl rfl rfl rfl ?_
  refine at_off rfl rfl rfl rfl ?_
  refine at_lt (lt_pick false rfl rfl rfl) rfl ?_
  refine s_mv rfl ?_
  refine at_off rfl rfl rfl rfl ?_
  refine at_off rfl rfl rfl rfl ?_
  refine at_off rfl rfl rfl rfl ?_
  refine at_off rfl rfl rfl rfl ?_
  refine at_off rfl rfl rfl rfl ?_
  refine at_off rfl rfl rfl rfl ?_
  refine at_lt (lt_pick false rfl rfl rfl) rfl ?_
  refine at_nil ?_
  have hq := oinj hr
  clear hr
  subst hq
  exact at_leaf () ⟨⟨rfl, ⟨rfl, ⟨rfl, ⟨rfl, trivial⟩⟩⟩⟩, ⟨[], rfl⟩, ⟨[], rfl⟩, ⟨[0, 1], rfl⟩⟩
 clear hc1555
 intro _
 change At _ _ (⟨[(0, str a0), (1, .int .i64 a1), (6, .int .i64 (c1540.toNat : Int)), (74, .bool x1554)], [], [], [(Ty.str.fact a0 [str a0]), ((Ty.int .i64).fact a1 [.int .i64 a1])]⟩ : St) _
 refine at_then ?_
 by_cases h1565 : x1554 = true
 ·replace hr := ipos h1565 hr
  refine at_true rfl h1565 ?_
  refine at_seq ?_
  replace hr := obind hr
  obtain ⟨c1566, h1567, hr⟩ := hr
  have := at?_lt h1567
  have := c1566.toNat_lt
  replace hr := imust hr
  obtain ⟨h1568, hr⟩ := hr
  replace hr := obind hr
  obtain ⟨c1569, h1570, hr⟩ := hr
  have := at?_lt h1570
  have := c1569.toNat_lt
  refine aa_start 19 (by kernel_rfl) ?_
  refine aa_p 0 rfl (lt_move rfl) ?_
  refine aa_p 1 rfl (lt_sub rfl rfl (by simp only [lo, hi]; omega)) ?_
  refine aa_p 2 rfl (lt_mulw rfl rfl) ?_
  refine aa_p 3 rfl (lt_move rfl) ?_
  refine aa_p 4 rfl (lt_move rfl) ?_
  refine aa_p 5 rfl (lt_addw rfl rfl) ?_
  refine aa_p 6 rfl (lt_sidx rfl rfl und9 (at?_lt h1567).1 (at?_get h1567)) ?_
  refine aa_p 7 rfl (lt_u8 (lt_subw rfl rfl)) ?_
  refine aa_p 8 rfl (lt_convint rfl (iso und5) und3 (u8_in_i64 (w8 ((c1566.toNat : Int) - 128)))) ?_
  refine aa_p 9 rfl (lt_mul rfl rfl (by simp only [lo, hi]; omega)) ?_
  refine aa_p 10 rfl (lt_addw rfl rfl) ?_
  refine aa_p 11 rfl (lt_move rfl) ?_
  refine aa_p 12 rfl (lt_move rfl) ?_
  refine aa_p 13 rfl (lt_addw rfl rfl) ?_
  refine aa_p 14 rfl (lt_sidx rfl rfl und9 (at?_lt h1570).1 (at?_get h1570)) ?_
  refine aa_p 15 rfl (lt_u8 (lt_subw rfl rfl)) ?_
  refine aa_p 16 rfl (lt_convint rfl (iso und5) und3 (u8_in_i64 (w8 ((c1569.toNat : Int) - 128)))) ?_
  refine aa_p 17 rfl (lt_addw rfl rfl) ?_
  refine aa_p 18 rfl (lt_assign rfl) ?_
  refine aa_done (by kernel_rfl) (ts_in 0 0 rfl rfl) ?_
  refine s_tsr ?_
  refine s_mv rfl ?_
  refine at_lt (lt_geq rfl rfl) rfl ?_
  refine s_nt ?_
  by_cases h1571 : (2048 : Int) ≤ IntKind.i64.wrap ((IntKind.i64.wrap ((IntKind.i64.wrap (((c1540.toNat : Int) - 224) * 4096)) + (((w8 ((c1566.toNat : Int) - 128)).toNat : Int) * 64))) + ((w8 ((c1569.toNat : Int) - 128)).toNat : Int))
  ·replace hr := ipos h1571 hr
   refine at_true rfl (decide_eq_true (by first | exact h1571 | omega)) ?_
   refine s_sr ?_
   refine s_mv rfl ?_
   refine s_as rfl ?_
   refine s_as rfl ?_
   refine s_nt ?_
   refine at_ret ?_
   have hq := oinj hr
   clear hr
   subst hq
   refine at_then_ret ?_
   refine at_int .i64 (IntKind.i64.wrap ((IntKind.i64.wrap ((IntKind.i64.wrap (((c1540.toNat : Int) - 224) * 4096)) + (((w8 ((c1566.toNat : Int) - 128)).toNat : Int) * 64))) + ((w8 ((c1569.toNat : Int) - 128)).toNat : Int))) (wrap_bd .i64 _) ?_
   refine at_int .i64 3 (by simp only [lo, hi]; omega) ?_
   exact at_return (.tuple #[.int .i64 (IntKind.i64.wrap ((IntKind.i64.wrap ((IntKind.i64.wrap (((c1540.toNat : Int) - 224) * 4096)) + (((w8 ((c1566.toNat : Int) - 128)).toNat : Int) * 64))) + ((w8 ((c1569.toNat : Int) - 128)).toNat : Int))), .int .i64 3]) [1, 0] hS Tryz.results152 (.cons (.tmp rfl) (.cons (.tmp rfl) .nil)) rfl rfl ⟨rfl, rfl⟩
  replace hr := ineg h1571 hr
  refine at_false rfl (decide_eq_false (by first | exact h1571 | omega)) ?_
  refine at_skip ?_
  refine s_tsr ?_
  refine s_as rfl ?_
  refine s_as rfl ?_
  refine s_nt ?_
  refine at_ret ?_
  have hq := oinj hr
  clear hr
  subst hq
  refine at_int .i64 0 (by simp only [lo, hi]; omega) ?_
  exact at_return (.tuple #[.int .i64 0, .int .i64 0]) [0, 0] hS Tryz.results152 (.cons (.tmp rfl) (.cons (.tmp rfl) .nil)) rfl rfl ⟨rfl, rfl⟩
 replace hr := ineg h1565 hr
 refine at_false rfl (bf h1565) ?_
 refine at_skip ?_
 refine s_tsr ?_
 refine s_as rfl ?_
 refine s_as rfl ?_
 refine s_nt ?_
 refine at_ret ?_
 have hq := oinj hr
 clear hr
 subst hq
 refine at_int .i64 0 (by simp only [lo, hi]; omega) ?_
 exact at_return (.tuple #[.int .i64 0, .int .i64 0]) [0, 0] hS Tryz.results152 (.cons (.tmp rfl) (.cons (.tmp rfl) .nil)) rfl rfl ⟨rfl, rfl⟩
/-! 186 bookplate/bookplateref04.in -/
def m186 (a0 : Int) (a1 : Int) (a2 : Int) : Option Bool :=
  if a1 ≤ a0 then
   some (decide (a0 ≤ a2))
  else
   some false
def post186 (r : Bool) (v : Value) (fs : List Fact) : Prop := v = .bool r ∧ fs = []
theorem en186 : Enters Tryz.prog 186 := ⟨_, Tryz.func186, by kernel_rfl, rfl⟩
theorem f186_spec {a0 : Int} {a1 : Int} {a2 : Int} {r : Bool} (hr : m186 a0 a1 a2 = some r) : Spec Tryz.prog 186 [.int .i64 a0, .int .i64 a1, .int .i64 a2] [((Ty.int .i64).fact a0 [.int .i64 a0]), ((Ty.int .i64).fact a1 [.int .i64 a1]), ((Ty.int .i64).fact a2 [.int .i64 a2])] (post186 r) := by
 refine spec_start (N := 15) Tryz.func186 (by kernel_rfl) rfl rfl rfl ?_
 intro g hS
 unfold m186 at hr
 refine at_inv 0 rfl (fun l1572 => ?_)
 replace l1572 : (-9223372036854775808) ≤ a0 ∧ a0 ≤ 9223372036854775807 := l1572
 refine at_inv 1 rfl (fun l1573 => ?_)
 replace l1573 : (-9223372036854775808) ≤ a1 ∧ a1 ≤ 9223372036854775807 := l1573
 refine at_inv 2 rfl (fun l1574 => ?_)
 replace l1574 : (-9223372036854775808) ≤ a2 ∧ a2 ≤ 9223372036854775807 := l1574
 refine s_sr ?_
 refine s_as rfl ?_
 refine s_ntsr ?_
 refine s_mv rfl ?_
 refine s_mv rfl ?_
 refine at_lt (lt_geq rfl rfl) rfl ?_
 refine s_mv rfl ?_
 by_cases h1575 : a1 ≤ a0
 ·replace hr := ipos h1575 hr
  refine at_on rfl rfl (decide_eq_true (by first | exact h1575 | omega)) ?_
  refine s_mv rfl ?_
  refine at_on rfl rfl (decide_eq_true (by first | exact h1575 | omega)) ?_
  refine s_mv rfl ?_
  refine at_on rfl rfl (decide_eq_true (by first | exact h1575 | omega)) ?_
  refine at_lt (lt_leq rfl rfl) rfl ?_
  refine at_lt (lt_pick true rfl (decide_eq_true (by first | exact h1575 | omega)) rfl) rfl ?_
  refine s_as rfl ?_
  refine s_nt ?_
  refine at_ret ?_
  have hq := oinj hr
  clear hr
  subst hq
  exact at_return (.bool (decide (a0 ≤ a2))) [] hS Tryz.results186 (.cons (.tmp rfl) .nil) rfl rfl ⟨rfl, rfl⟩
 replace hr := ineg h1575 hr
 refine at_off rfl rfl (decide_eq_false (by first | exact h1575 | omega)) rfl ?_
 refine at_off rfl rfl (decide_eq_false (by first | exact h1575 | omega)) rfl ?_
 refine at_off rfl rfl (decide_eq_false (by first | exact h1575 | omega)) rfl ?_
 refine at_lt (lt_pick false rfl (decide_eq_false (by first | exact h1575 | omega)) rfl) rfl ?_
 refine s_as rfl ?_
 refine s_nt ?_
 refine at_ret ?_
 have hq := oinj hr
 clear hr
 subst hq
 exact at_return (.bool false) [] hS Tryz.results186 (.cons (.tmp rfl) .nil) rfl rfl ⟨rfl, rfl⟩
/-! 187 bookplate/bookplateref04.listed -/
def m187_l1 (a0 : Str) (a1 : Int) : Nat → Int → Option (Fl Bool Unit)
  | 0, _ => none
  | k + 1, x1577 =>
    if x1577 < (a0.length : Int) then
     (m152 a0 x1577).bind fun x1584 =>
     if x1584.1 = a1 then
      some (Fl.ret true)
     else
      m187_l1 a0 a1 k (IntKind.i64.wrap (x1577 + x1584.2))
    else
     some (Fl.go ())
def m187 (a0 : Str) (a1 : Int) : Option Bool :=
  (m187_l1 a0 a1 (a0.length + 1) 0).bind fun r => match r with
  | .ret x => some x
  | .go _ =>
   some false
def post187 (r : Bool) (v : Value) (fs : List Fact) : Prop := v = .bool r ∧ fs = []
theorem en187 : Enters Tryz.prog 187 := ⟨_, Tryz.func187, by kernel_rfl, rfl⟩
theorem f187_spec {a0 : Str} {a1 : Int} {r : Bool} (hr : m187 a0 a1 = some r) : Spec Tryz.prog 187 [str a0, .int .i64 a1] [(Ty.str.fact a0 [str a0]), ((Ty.int .i64).fact a1 [.int .i64 a1])] (post187 r) := by
 refine spec_start (N := 24) Tryz.func187 (by kernel_rfl) rfl rfl rfl ?_
 intro g hS
 unfold m187 at hr
 refine at_inv 1 rfl (fun l1576 => ?_)
 replace l1576 : (-9223372036854775808) ≤ a1 ∧ a1 ≤ 9223372036854775807 := l1576
 refine s_sr ?_
 refine s_as rfl ?_
 refine s_nt ?_
 refine at_seq ?_
 refine s_sr ?_
 refine s_as rfl ?_
 refine s_nt ?_
 refine at_int .i64 0 (by simp only [lo, hi]; omega) ?_
 replace hr := obind hr
 obtain ⟨r1578, hl1579, hk1580⟩ := hr
 refine at_cutP (V := (Unit) × (Unit)) (fun v => r1578 = Fl.go v.1) (fun v => (⟨[], [], [], []⟩ : St)) ?_ ?_
 ·refine at_block ?_
  refine at_loopW (σ := Int) (V := Unit) (r := r1578) (fun n s => m187_l1 a0 a1 n s) (fun s e => (⟨[(0, str a0), (1, .int .i64 a1), (5, .int .i64 s)], [], [], [((Ty.int .i64).fact s [.int .i64 s]), (Ty.str.fact a0 [str a0]), ((Ty.int .i64).fact a1 [.int .i64 a1])]⟩ : St)) (fun _ => rfl) _ 0 () hl1579 ⟨⟨rfl, ⟨rfl, ⟨rfl, trivial⟩⟩⟩, ⟨[], rfl⟩, ⟨[], rfl⟩, ⟨[0, 1, 2], rfl⟩⟩ ?_
  clear hl1579
  intro n x1577 hr e
  skip
  skip
  change m187_l1 a0 a1 (n + 1) x1577 = some r1578 at hr
  change At _ _ (⟨[(0, str a0), (1, .int .i64 a1), (5, .int .i64 x1577)], [], [], [((Ty.int .i64).fact x1577 [.int .i64 x1577]), (Ty.str.fact a0 [str a0]), ((Ty.int .i64).fact a1 [.int .i64 a1])]⟩ : St) _
  rw [m187_l1] at hr
  refine at_inv 0 rfl (fun l1581 => ?_)
  replace l1581 : (-9223372036854775808) ≤ x1577 ∧ x1577 ≤ 9223372036854775807 := l1581
  refine at_seq ?_
  refine s_sr ?_
  refine s_mv rfl ?_
  refine s_mv rfl ?_
  refine at_inv 1 rfl (fun l1582 => ?_)
  replace l1582 : a0.length ≤ 9223372036854775807 := l1582
  refine at_lt (lt_slen rfl und9) rfl ?_
  refine at_lt (lt_lss rfl rfl) rfl ?_
  refine s_nt ?_
  by_cases h1583 : x1577 < (a0.length : Int)
  ·replace hr := ipos h1583 hr
   refine at_true rfl (decide_eq_true (by first | exact h1583 | omega)) ?_
   refine at_skip ?_
   refine at_then ?_
   refine at_block ?_
   refine s_sr ?_
   refine s_mv rfl ?_
   refine s_mv rfl ?_
   replace hr := obind hr
   obtain ⟨x1584, h1585, hr⟩ := hr
   refine at_hv rfl ?_
   refine hv_call0 [1, 0] (f152_spec h1585) rfl rfl rfl rfl ?_
   rintro _ _ ⟨rfl, rfl⟩
   refine at_inv 0 rfl (fun l1586 => ?_)
   replace l1586 : (-9223372036854775808) ≤ x1584.1 ∧ x1584.1 ≤ 9223372036854775807 := l1586
   refine at_inv 1 rfl (fun l1587 => ?_)
   replace l1587 : (-9223372036854775808) ≤ x1584.2 ∧ x1584.2 ≤ 9223372036854775807 := l1587
   refine s_mv rfl ?_
   refine at_lt (lt_extract rfl rfl) rfl ?_
   refine at_lt (lt_extract rfl rfl) rfl ?_
   refine s_as rfl ?_
   refine s_as rfl ?_
   refine s_nt ?_
   refine at_seq ?_
   refine s_sr ?_
   refine s_mv rfl ?_
   refine s_mv rfl ?_
   refine at_lt (lt_eql rfl rfl) rfl ?_
   refine s_nt ?_
   by_cases h1588 : x1584.1 = a1
   ·replace hr := ipos h1588 hr
    refine at_true rfl (decide_eq_true (by first | exact h1588 | omega)) ?_
    refine s_sr ?_
    refine s_as rfl ?_
    refine s_nt ?_
    refine at_ret ?_
    have hq := oinj hr
    clear hr
    subst hq
    have hq := oinj hk1580
    clear hk1580
    subst hq
    refine at_then_ret ?_
    refine at_in_ret ?_
    refine at_then_ret ?_
    refine at_in_ret ?_
    refine at_then_ret ?_
    refine at_then_ret ?_
    exact at_return (.bool true) [] hS Tryz.results187 (.cons (.tmp rfl) .nil) rfl rfl ⟨rfl, rfl⟩
   replace hr := ineg h1588 hr
   refine at_false rfl (decide_eq_false (by first | exact h1588 | omega)) ?_
   refine at_skip ?_
   refine s_tr ?_
   refine s_mv rfl ?_
   refine s_mv rfl ?_
   refine at_lt (lt_addw rfl rfl) rfl ?_
   refine s_as rfl ?_
   refine at_nil ?_
   refine at_in ?_
   refine at_int .i64 (IntKind.i64.wrap (x1577 + x1584.2)) (wrap_bd .i64 _) ?_
   exact at_again (σ := Int) (V := Unit) (lp := fun n s => m187_l1 a0 a1 n s) (S := fun s e => (⟨[(0, str a0), (1, .int .i64 a1), (5, .int .i64 s)], [], [], [((Ty.int .i64).fact s [.int .i64 s]), (Ty.str.fact a0 [str a0]), ((Ty.int .i64).fact a1 [.int .i64 a1])]⟩ : St)) (IntKind.i64.wrap (x1577 + x1584.2)) () hr ⟨⟨rfl, ⟨rfl, ⟨rfl, trivial⟩⟩⟩, ⟨[], rfl⟩, ⟨[], rfl⟩, ⟨[0, 4, 5], rfl⟩⟩
  replace hr := ineg h1583 hr
  refine at_false rfl (decide_eq_false (by first | exact h1583 | omega)) ?_
  refine at_exit ?_
  refine at_then_exit ?_
  refine at_then_exit ?_
  refine at_in_exit ?_
  have hq := oinj hr
  clear hr
  subst hq
  exact at_leafP ((), ()) rfl ⟨trivial, ⟨[], rfl⟩, ⟨[], rfl⟩, ⟨[], rfl⟩⟩
 rintro ⟨_, _⟩ hp
 replace hr := hk1580
 subst hp
 clear hl1579
 change At _ _ (⟨[], [], [], []⟩ : St) _
 refine s_tsr ?_
 refine s_as rfl ?_
 refine s_nt ?_
 refine at_ret ?_
 have hq := oinj hr
 clear hr
 subst hq
 exact at_return (.bool false) [] hS Tryz.results187 (.cons (.tmp rfl) .nil) rfl rfl ⟨rfl, rfl⟩
/-! 173 bookplate/bookplateref04.Class -/
def m173 (a0 : Int) : Option (Int × Int) :=
  (m186 a0 65281 65374).bind fun x1590 =>
  Option.bind (α := Int) (
   if x1590 = true then
    some (IntKind.i64.wrap (a0 - 65248))
   else
    some a0
  ) fun x1592 =>
  if x1592 = 32 then
   some (0, 4)
  else
   if x1592 = 160 then
    some (0, 4)
   else
    (m186 x1592 48 57).bind fun x1598 =>
    if x1598 = true then
     some (0, 3)
    else
     if x1592 = 178 then
      some (0, 3)
     else
      if x1592 = 179 then
       some (0, 3)
      else
       if x1592 = 185 then
        some (0, 3)
       else
        (m186 x1592 65 90).bind fun x1604 =>
        if x1604 = true then
         some (1, 1)
        else
         (m186 x1592 97 122).bind fun x1607 =>
         if x1607 = true then
          some (1, 1)
         else
          if x1592 = 383 then
           some (1, 1)
          else
           if x1592 = 64257 then
            some (1, 1)
           else
            if x1592 = 64258 then
             some (1, 1)
            else
             (m187 ([195, 128, 195, 136, 195, 140, 195, 146, 195, 153, 195, 160, 195, 168, 195, 172, 195, 178, 195, 185, 195, 129, 195, 137, 195, 141, 195, 147, 195, 154, 195, 157, 195, 161, 195, 169, 195, 173, 195, 179, 195, 186, 195, 189, 196, 134, 196, 135, 196, 185, 196, 186, 197, 131, 197, 132, 197, 148, 197, 149, 197, 154, 197, 155, 197, 185, 197, 186, 195, 130, 195, 138, 195, 142, 195, 148, 195, 155, 195, 162, 195, 170, 195, 174, 195, 180, 195, 187, 196, 136, 196, 137, 196, 156, 196, 157, 196, 164, 196, 165, 196, 180, 196, 181, 197, 156, 197, 157, 197, 180, 197, 181, 197, 182, 197, 183, 195, 131, 195, 145, 195, 149, 195, 163, 195, 177, 195, 181, 196, 168, 196, 169, 197, 168, 197, 169, 196, 128, 196, 129, 196, 146, 196, 147, 196, 170, 196, 171, 197, 140, 197, 141, 197, 170, 197, 171, 196, 130, 196, 131, 196, 148, 196, 149, 196, 158, 196, 159, 196, 172, 196, 173, 197, 142, 197, 143, 197, 172, 197, 173, 196, 138, 196, 139, 196, 150, 196, 151, 196, 160, 196, 161, 196, 176, 197, 187, 197, 188, 195, 132, 195, 139, 195, 143, 195, 150, 195, 156, 195, 164, 195, 171, 195, 175, 195, 182, 195, 188, 195, 191, 197, 184, 195, 133, 195, 165, 197, 174, 197, 175, 197, 144, 197, 145, 197, 176, 197, 177, 196, 140, 196, 141, 196, 142, 196, 143, 196, 154, 196, 155, 197, 135, 197, 136, 197, 152, 197, 153, 197, 160, 197, 161, 197, 164, 197, 165, 197, 189, 197, 190, 196, 189, 196, 190, 195, 135, 195, 167, 196, 162, 196, 163, 196, 182, 196, 183, 196, 187, 196, 188, 197, 133, 197, 134, 197, 150, 197, 151, 197, 158, 197, 159, 197, 162, 197, 163, 196, 132, 196, 133, 196, 152, 196, 153, 196, 174, 196, 175, 197, 178, 197, 179, 195, 134, 195, 166, 195, 152, 195, 184, 195, 144, 195, 176, 195, 158, 195, 190, 195, 159, 196, 144, 196, 145, 196, 166, 196, 167, 196, 177, 197, 129, 197, 130, 197, 146, 197, 147, 197, 138, 197, 139, 197, 166, 197, 167] : Str) x1592).bind fun x1613 =>
             if x1613 = true then
              some (1, 1)
             else
              (m186 x1592 768 772).bind fun x1616 =>
              if x1616 = true then
               some (0, 2)
              else
               (m186 x1592 774 776).bind fun x1619 =>
               if x1619 = true then
                some (0, 2)
               else
                (m186 x1592 778 780).bind fun x1622 =>
                if x1622 = true then
                 some (0, 2)
                else
                 if x1592 = 803 then
                  some (0, 2)
                 else
                  if x1592 = 807 then
                   some (0, 2)
                  else
                   if x1592 = 808 then
                    some (0, 2)
                   else
                    (m186 x1592 913 929).bind fun x1628 =>
                    if x1628 = true then
                     some (2, 1)
                    else
                     (m186 x1592 931 937).bind fun x1631 =>
                     if x1631 = true then
                      some (2, 1)
                     else
                      (m186 x1592 945 969).bind fun x1634 =>
                      if x1634 = true then
                       some (2, 1)
                      else
                       (m187 ([206, 134, 206, 136, 206, 137, 206, 138, 206, 140, 206, 142, 206, 143, 206, 172, 206, 173, 206, 174, 206, 175, 207, 140, 207, 141, 207, 142, 206, 170, 206, 171, 207, 138, 207, 139] : Str) x1592).bind fun x1637 =>
                       if x1637 = true then
                        some (2, 1)
                       else
                        (m186 x1592 1040 1103).bind fun x1640 =>
                        if x1640 = true then
                         some (3, 1)
                        else
                         (m187 ([208, 129, 209, 145, 208, 135, 209, 151, 208, 132, 209, 148, 210, 144, 210, 145, 208, 142, 209, 158, 208, 134, 209, 150] : Str) x1592).bind fun x1643 =>
                         if x1643 = true then
                          some (3, 1)
                         else
                          (m186 x1592 33 126).bind fun x1646 =>
                          if x1646 = true then
                           some (0, 5)
                          else
                           some (0, 0)
def post173 (r : (Int × Int)) (v : Value) (fs : List Fact) : Prop := v = .tuple #[.int .i64 r.1, .int .i64 r.2] ∧ fs = [((Ty.int .i64).fact r.1 [.int .i64 r.1]), ((Ty.int .i64).fact r.2 [.int .i64 r.2])]
theorem en173 : Enters Tryz.prog 173 := ⟨_, Tryz.func173, by kernel_rfl, rfl⟩
theorem f173_spec {a0 : Int} {r : (Int × Int)} (hr : m173 a0 = some r) : Spec Tryz.prog 173 [.int .i64 a0] [((Ty.int .i64).fact a0 [.int .i64 a0])] (post173 r) := by
 refine spec_start (N := 101) Tryz.func173 (by kernel_rfl) rfl rfl rfl ?_
 intro g hS
 unfold m173 at hr
 refine at_inv 0 rfl (fun l1589 => ?_)
 replace l1589 : (-9223372036854775808) ≤ a0 ∧ a0 ≤ 9223372036854775807 := l1589
 refine s_sr ?_
 refine s_as rfl ?_
 refine s_as rfl ?_
 refine s_nt ?_
 refine at_seq ?_
 refine s_sr ?_
 refine s_mv rfl ?_
 replace hr := obind hr
 obtain ⟨x1590, h1591, hr⟩ := hr
 refine at_int .i64 65281 (by simp only [lo, hi]; omega) ?_
 refine at_int .i64 65374 (by simp only [lo, hi]; omega) ?_
 refine at_hv rfl ?_
 refine hv_call0 [2, 1, 0] (f186_spec h1591) rfl rfl rfl rfl ?_
 rintro _ _ ⟨rfl, rfl⟩
 refine s_nt ?_
 replace hr := obind hr
 obtain ⟨x1592, hc1593, hr⟩ := hr
 refine at_cut (V := Unit) (fun e => (⟨[(0, .int .i64 x1592)], [], [], [((Ty.int .i64).fact x1592 [.int .i64 x1592])]⟩ : St)) ?_ ?_
 ·clear hr
  have hr := hc1593
  clear hc1593
  by_cases h1594 : x1590 = true
  ·replace hr := ipos h1594 hr
   refine at_true rfl h1594 ?_
   refine at_region ?_
   refine s_mv rfl ?_
   refine at_lt (lt_subw rfl rfl) rfl ?_
   refine s_as rfl ?_
   refine at_nil ?_
   have hq := oinj hr
   clear hr
   subst hq
   refine at_int .i64 (IntKind.i64.wrap (a0 - 65248)) (wrap_bd .i64 _) ?_
   exact at_leaf () ⟨⟨rfl, trivial⟩, ⟨[], rfl⟩, ⟨[], rfl⟩, ⟨[0], rfl⟩⟩
  replace hr := ineg h1594 hr
  refine at_false rfl (bf h1594) ?_
  refine at_skip ?_
  have hq := oinj hr
  clear hr
  subst hq
  exact at_leaf () ⟨⟨rfl, trivial⟩, ⟨[], rfl⟩, ⟨[], rfl⟩, ⟨[2], rfl⟩⟩
 clear hc1593
 intro _
 change At _ _ (⟨[(0, .int .i64 x1592)], [], [], [((Ty.int .i64).fact x1592 [.int .i64 x1592])]⟩ : St) _
 refine at_inv 0 rfl (fun l1595 => ?_)
 replace l1595 : (-9223372036854775808) ≤ x1592 ∧ x1592 ≤ 9223372036854775807 := l1595
 refine at_then ?_
 refine at_seq ?_
 refine at_block ?_
 refine s_sr ?_
 refine s_mv rfl ?_
 refine at_lt (lt_eql rfl rfl) rfl ?_
 refine s_mv rfl ?_
 by_cases h1596 : x1592 = 32
 ·replace hr := ipos h1596 hr
  refine at_off rfl rfl (decide_eq_true (by first | exact h1596 | omega)) rfl ?_
  refine at_off rfl rfl (decide_eq_true (by first | exact h1596 | omega)) rfl ?_
  refine at_lt (lt_pick true rfl (decide_eq_true (by first | exact h1596 | omega)) rfl) rfl ?_
  refine s_as rfl ?_
  refine s_nt ?_
  refine at_true rfl rfl ?_
  refine s_sr ?_
  refine s_as rfl ?_
  refine s_as rfl ?_
  refine s_nt ?_
  refine at_ret ?_
  have hq := oinj hr
  clear hr
  subst hq
  refine at_in_ret ?_
  refine at_then_ret ?_
  refine at_int .i64 0 (by simp only [lo, hi]; omega) ?_
  refine at_int .i64 4 (by simp only [lo, hi]; omega) ?_
  exact at_return (.tuple #[.int .i64 0, .int .i64 4]) [1, 0] hS Tryz.results173 (.cons (.tmp rfl) (.cons (.tmp rfl) .nil)) rfl rfl ⟨rfl, rfl⟩
 replace hr := ineg h1596 hr
 refine at_on rfl rfl (decide_eq_false (by first | exact h1596 | omega)) ?_
 refine s_mv rfl ?_
 refine at_on rfl rfl (decide_eq_false (by first | exact h1596 | omega)) ?_
 refine at_lt (lt_eql rfl rfl) rfl ?_
 refine at_lt (lt_pick false rfl (decide_eq_false (by first | exact h1596 | omega)) rfl) rfl ?_
 refine s_as rfl ?_
 refine s_nt ?_
 by_cases h1597 : x1592 = 160
 ·replace hr := ipos h1597 hr
  refine at_true rfl (decide_eq_true (by first | exact h1597 | omega)) ?_
  refine s_sr ?_
  refine s_as rfl ?_
  refine s_as rfl ?_
  refine s_nt ?_
  refine at_ret ?_
  have hq := oinj hr
  clear hr
  subst hq
  refine at_in_ret ?_
  refine at_then_ret ?_
  refine at_int .i64 0 (by simp only [lo, hi]; omega) ?_
  refine at_int .i64 4 (by simp only [lo, hi]; omega) ?_
  exact at_return (.tuple #[.int .i64 0, .int .i64 4]) [1, 0] hS Tryz.results173 (.cons (.tmp rfl) (.cons (.tmp rfl) .nil)) rfl rfl ⟨rfl, rfl⟩
 replace hr := ineg h1597 hr
 refine at_false rfl (decide_eq_false (by first | exact h1597 | omega)) ?_
 refine s_sr ?_
 refine s_mv rfl ?_
 replace hr := obind hr
 obtain ⟨x1598, h1599, hr⟩ := hr
 refine at_int .i64 48 (by simp only [lo, hi]; omega) ?_
 refine at_int .i64 57 (by simp only [lo, hi]; omega) ?_
 refine at_hv rfl ?_
 refine hv_call0 [2, 1, 0] (f186_spec h1599) rfl rfl rfl rfl ?_
 rintro _ _ ⟨rfl, rfl⟩
 refine s_mv rfl ?_
 by_cases h1600 : x1598 = true
 ·replace hr := ipos h1600 hr
  refine at_off rfl rfl h1600 rfl ?_
  refine at_off rfl rfl h1600 rfl ?_
  refine at_lt (lt_pick true rfl h1600 rfl) rfl ?_
  refine s_mv rfl ?_
  refine at_off rfl rfl rfl rfl ?_
  refine at_off rfl rfl rfl rfl ?_
  refine at_lt (lt_pick true rfl rfl rfl) rfl ?_
  refine s_mv rfl ?_
  refine at_off rfl rfl rfl rfl ?_
  refine at_off rfl rfl rfl rfl ?_
  refine at_lt (lt_pick true rfl rfl rfl) rfl ?_
  refine s_as rfl ?_
  refine s_nt ?_
  refine at_true rfl rfl ?_
  refine s_sr ?_
  refine s_as rfl ?_
  refine s_as rfl ?_
  refine s_nt ?_
  refine at_ret ?_
  have hq := oinj hr
  clear hr
  subst hq
  refine at_in_ret ?_
  refine at_then_ret ?_
  refine at_int .i64 0 (by simp only [lo, hi]; omega) ?_
  refine at_int .i64 3 (by simp only [lo, hi]; omega) ?_
  exact at_return (.tuple #[.int .i64 0, .int .i64 3]) [1, 0] hS Tryz.results173 (.cons (.tmp rfl) (.cons (.tmp rfl) .nil)) rfl rfl ⟨rfl, rfl⟩
 replace hr := ineg h1600 hr
 refine at_on rfl rfl (bf h1600) ?_
 refine s_mv rfl ?_
 refine at_on rfl rfl (bf h1600) ?_
 refine at_lt (lt_eql rfl rfl) rfl ?_
 refine at_lt (lt_pick false rfl (bf h1600) rfl) rfl ?_
 refine s_mv rfl ?_
 by_cases h1601 : x1592 = 178
 ·replace hr := ipos h1601 hr
  refine at_off rfl rfl (decide_eq_true (by first | exact h1601 | omega)) rfl ?_
  refine at_off rfl rfl (decide_eq_true (by first | exact h1601 | omega)) rfl ?_
  refine at_lt (lt_pick true rfl (decide_eq_true (by first | exact h1601 | omega)) rfl) rfl ?_
  refine s_mv rfl ?_
  refine at_off rfl rfl rfl rfl ?_
  refine at_off rfl rfl rfl rfl ?_
  refine at_lt (lt_pick true rfl rfl rfl) rfl ?_
  refine s_as rfl ?_
  refine s_nt ?_
  refine at_true rfl rfl ?_
  refine s_sr ?_
  refine s_as rfl ?_
  refine s_as rfl ?_
  refine s_nt ?_
  refine at_ret ?_
  have hq := oinj hr
  clear hr
  subst hq
  refine at_in_ret ?_
  refine at_then_ret ?_
  refine at_int .i64 0 (by simp only [lo, hi]; omega) ?_
  refine at_int .i64 3 (by simp only [lo, hi]; omega) ?_
  exact at_return (.tuple #[.int .i64 0, .int .i64 3]) [1, 0] hS Tryz.results173 (.cons (.tmp rfl) (.cons (.tmp rfl) .nil)) rfl rfl ⟨rfl, rfl⟩
 replace hr := ineg h1601 hr
 refine at_on rfl rfl (decide_eq_false (by first | exact h1601 | omega)) ?_
 refine s_mv rfl ?_
 refine at_on rfl rfl (decide_eq_false (by first | exact h1601 | omega)) ?_
 refine at_lt (lt_eql rfl rfl) rfl ?_
 refine at_lt (lt_pick false rfl (decide_eq_false (by first | exact h1601 | omega)) rfl) rfl ?_
 refine s_mv rfl ?_
 by_cases h1602 : x1592 = 179
 ·replace hr := ipos h1602 hr
  refine at_off rfl rfl (decide_eq_true (by first | exact h1602 | omega)) rfl ?_
  refine at_off rfl rfl (decide_eq_true (by first | exact h1602 | omega)) rfl ?_
  refine at_lt (lt_pick true rfl (decide_eq_true (by first | exact h1602 | omega)) rfl) rfl ?_
  refine s_as rfl ?_
  refine s_nt ?_
  refine at_true rfl rfl ?_
  refine s_sr ?_
  refine s_as rfl ?_
  refine s_as rfl ?_
  refine s_nt ?_
  refine at_ret ?_
  have hq := oinj hr
  clear hr
  subst hq
  refine at_in_ret ?_
  refine at_then_ret ?_
  refine at_int .i64 0 (by simp only [lo, hi]; omega) ?_
  refine at_int .i64 3 (by simp only [lo, hi]; omega) ?_
  exact at_return (.tuple #[.int .i64 0, .int .i64 3]) [1, 0] hS Tryz.results173 (.cons (.tmp rfl) (.cons (.tmp rfl) .nil)) rfl rfl ⟨rfl, rfl⟩
 replace hr := ineg h1602 hr
 refine at_on rfl rfl (decide_eq_false (by first | exact h1602 | omega)) ?_
 refine s_mv rfl ?_
 refine at_on rfl rfl (decide_eq_false (by first | exact h1602 | omega)) ?_
 refine at_lt (lt_eql rfl rfl) rfl ?_
 refine at_lt (lt_pick false rfl (decide_eq_false (by first | exact h1602 | omega)) rfl) rfl ?_
 refine s_as rfl ?_
 refine s_nt ?_
 by_cases h1603 : x1592 = 185
 ·replace hr := ipos h1603 hr
  refine at_true rfl (decide_eq_true (by first | exact h1603 | omega)) ?_
  refine s_sr ?_
  refine s_as rfl ?_
  refine s_as rfl ?_
  refine s_nt ?_
  refine at_ret ?_
  have hq := oinj hr
  clear hr
  subst hq
  refine at_in_ret ?_
  refine at_then_ret ?_
  refine at_int .i64 0 (by simp only [lo, hi]; omega) ?_
  refine at_int .i64 3 (by simp only [lo, hi]; omega) ?_
  exact at_return (.tuple #[.int .i64 0, .int .i64 3]) [1, 0] hS Tryz.results173 (.cons (.tmp rfl) (.cons (.tmp rfl) .nil)) rfl rfl ⟨rfl, rfl⟩
 replace hr := ineg h1603 hr
 refine at_false rfl (decide_eq_false (by first | exact h1603 | omega)) ?_
 refine s_sr ?_
 refine s_mv rfl ?_
 replace hr := obind hr
 obtain ⟨x1604, h1605, hr⟩ := hr
 refine at_int .i64 65 (by simp only [lo, hi]; omega) ?_
 refine at_int .i64 90 (by simp only [lo, hi]; omega) ?_
 refine at_hv rfl ?_
 refine hv_call0 [4, 1, 0] (f186_spec h1605) rfl rfl rfl rfl ?_
 rintro _ _ ⟨rfl, rfl⟩
 refine s_mv rfl ?_
 by_cases h1606 : x1604 = true
 ·replace hr := ipos h1606 hr
  refine at_off rfl rfl h1606 rfl ?_
  refine at_off rfl rfl h1606 rfl ?_
  refine at_lt (lt_pick true rfl h1606 rfl) rfl ?_
  refine s_mv rfl ?_
  refine at_off rfl rfl rfl rfl ?_
  refine at_off rfl rfl rfl rfl ?_
  refine at_lt (lt_pick true rfl rfl rfl) rfl ?_
  refine s_mv rfl ?_
  refine at_off rfl rfl rfl rfl ?_
  refine at_off rfl rfl rfl rfl ?_
  refine at_lt (lt_pick true rfl rfl rfl) rfl ?_
  refine s_mv rfl ?_
  refine at_off rfl rfl rfl rfl ?_
  refine at_off rfl rfl rfl rfl ?_
  refine at_lt (lt_pick true rfl rfl rfl) rfl ?_
  refine s_mv rfl ?_
  refine at_off rfl rfl rfl rfl ?_
  refine at_off rfl rfl rfl rfl ?_
  refine at_lt (lt_pick true rfl rfl rfl) rfl ?_
  refine s_as rfl ?_
  refine s_nt ?_
  refine at_true rfl rfl ?_
  refine s_sr ?_
  refine s_as rfl ?_
  refine s_as rfl ?_
  refine s_nt ?_
  refine at_ret ?_
  have hq := oinj hr
  clear hr
  subst hq
  refine at_in_ret ?_
  refine at_then_ret ?_
  refine at_int .i64 1 (by simp only [lo, hi]; omega) ?_
  exact at_return (.tuple #[.int .i64 1, .int .i64 1]) [0, 0] hS Tryz.results173 (.cons (.tmp rfl) (.cons (.tmp rfl) .nil)) rfl rfl ⟨rfl, rfl⟩
 replace hr := ineg h1606 hr
 refine at_on rfl rfl (bf h1606) ?_
 refine s_mv rfl ?_
 replace hr := obind hr
 obtain ⟨x1607, h1608, hr⟩ := hr
 refine at_int .i64 97 (by simp only [lo, hi]; omega) ?_
 refine at_int .i64 122 (by simp only [lo, hi]; omega) ?_
 refine at_on rfl rfl (bf h1606) ?_
 refine at_hv rfl ?_
 refine hv_call0 [6, 1, 0] (f186_spec h1608) rfl rfl rfl rfl ?_
 rintro _ _ ⟨rfl, rfl⟩
 refine at_lt (lt_pick false rfl (bf h1606) rfl) rfl ?_
 refine s_mv rfl ?_
 by_cases h1609 : x1607 = true
 ·replace hr := ipos h1609 hr
  refine at_off rfl rfl h1609 rfl ?_
  refine at_off rfl rfl h1609 rfl ?_
  refine at_lt (lt_pick true rfl h1609 rfl) rfl ?_
  refine s_mv rfl ?_
  refine at_off rfl rfl rfl rfl ?_
  refine at_off rfl rfl rfl rfl ?_
  refine at_lt (lt_pick true rfl rfl rfl) rfl ?_
  refine s_mv rfl ?_
  refine at_off rfl rfl rfl rfl ?_
  refine at_off rfl rfl rfl rfl ?_
  refine at_lt (lt_pick true rfl rfl rfl) rfl ?_
  refine s_mv rfl ?_
  refine at_off rfl rfl rfl rfl ?_
  refine at_off rfl rfl rfl rfl ?_
  refine at_lt (lt_pick true rfl rfl rfl) rfl ?_
  refine s_as rfl ?_
  refine s_nt ?_
  refine at_true rfl rfl ?_
  refine s_sr ?_
  refine s_as rfl ?_
  refine s_as rfl ?_
  refine s_nt ?_
  refine at_ret ?_
  have hq := oinj hr
  clear hr
  subst hq
  refine at_in_ret ?_
  refine at_then_ret ?_
  refine at_int .i64 1 (by simp only [lo, hi]; omega) ?_
  exact at_return (.tuple #[.int .i64 1, .int .i64 1]) [0, 0] hS Tryz.results173 (.cons (.tmp rfl) (.cons (.tmp rfl) .nil)) rfl rfl ⟨rfl, rfl⟩
 replace hr := ineg h1609 hr
 refine at_on rfl rfl (bf h1609) ?_
 refine s_mv rfl ?_
 refine at_on rfl rfl (bf h1609) ?_
 refine at_lt (lt_eql rfl rfl) rfl ?_
 refine at_lt (lt_pick false rfl (bf h1609) rfl) rfl ?_
 refine s_mv rfl ?_
 by_cases h1610 : x1592 = 383
 ·replace hr := ipos h1610 hr
  refine at_off rfl rfl (decide_eq_true (by first | exact h1610 | omega)) rfl ?_
  refine at_off rfl rfl (decide_eq_true (by first | exact h1610 | omega)) rfl ?_
  refine at_lt (lt_pick true rfl (decide_eq_true (by first | exact h1610 | omega)) rfl) rfl ?_
  refine s_mv rfl ?_
  refine at_off rfl rfl rfl rfl ?_
  refine at_off rfl rfl rfl rfl ?_
  refine at_lt (lt_pick true rfl rfl rfl) rfl ?_
  refine s_mv rfl ?_
  refine at_off rfl rfl rfl rfl ?_
  refine at_off rfl rfl rfl rfl ?_
  refine at_lt (lt_pick true rfl rfl rfl) rfl ?_
  refine s_as rfl ?_
  refine s_nt ?_
  refine at_true rfl rfl ?_
  refine s_sr ?_
  refine s_as rfl ?_
  refine s_as rfl ?_
  refine s_nt ?_
  refine at_ret ?_
  have hq := oinj hr
  clear hr
  subst hq
  refine at_in_ret ?_
  refine at_then_ret ?_
  refine at_int .i64 1 (by simp only [lo, hi]; omega) ?_
  exact at_return (.tuple #[.int .i64 1, .int .i64 1]) [0, 0] hS Tryz.results173 (.cons (.tmp rfl) (.cons (.tmp rfl) .nil)) rfl rfl ⟨rfl, rfl⟩
 replace hr := ineg h1610 hr
 refine at_on rfl rfl (decide_eq_false (by first | exact h1610 | omega)) ?_
 refine s_mv rfl ?_
 refine at_on rfl rfl (decide_eq_false (by first | exact h1610 | omega)) ?_
 refine at_lt (lt_eql rfl rfl) rfl ?_
 refine at_lt (lt_pick false rfl (decide_eq_false (by first | exact h1610 | omega)) rfl) rfl ?_
 refine s_mv rfl ?_
 by_cases h1611 : x1592 = 64257
 ·replace hr := ipos h1611 hr
  refine at_off rfl rfl (decide_eq_true (by first | exact h1611 | omega)) rfl ?_
  refine at_off rfl rfl (decide_eq_true (by first | exact h1611 | omega)) rfl ?_
  refine at_lt (lt_pick true rfl (decide_eq_true (by first | exact h1611 | omega)) rfl) rfl ?_
  refine s_mv rfl ?_
  refine at_off rfl rfl rfl rfl ?_
  refine at_off rfl rfl rfl rfl ?_
  refine at_lt (lt_pick true rfl rfl rfl) rfl ?_
  refine s_as rfl ?_
  refine s_nt ?_
  refine at_true rfl rfl ?_
  refine s_sr ?_
  refine s_as rfl ?_
  refine s_as rfl ?_
  refine s_nt ?_
  refine at_ret ?_
  have hq := oinj hr
  clear hr
  subst hq
  refine at_in_ret ?_
  refine at_then_ret ?_
  refine at_int .i64 1 (by simp only [lo, hi]; omega) ?_
  exact at_return (.tuple #[.int .i64 1, .int .i64 1]) [0, 0] hS Tryz.results173 (.cons (.tmp rfl) (.cons (.tmp rfl) .nil)) rfl rfl ⟨rfl, rfl⟩
 replace hr := ineg h1611 hr
 refine at_on rfl rfl (decide_eq_false (by first | exact h1611 | omega)) ?_
 refine s_mv rfl ?_
 refine at_on rfl rfl (decide_eq_false (by first | exact h1611 | omega)) ?_
 refine at_lt (lt_eql rfl rfl) rfl ?_
 refine at_lt (lt_pick false rfl (decide_eq_false (by first | exact h1611 | omega)) rfl) rfl ?_
 refine s_mv rfl ?_
 by_cases h1612 : x1592 = 64258
 ·replace hr := ipos h1612 hr
  refine at_off rfl rfl (decide_eq_true (by first | exact h1612 | omega)) rfl ?_
  refine at_off rfl rfl (decide_eq_true (by first | exact h1612 | omega)) rfl ?_
  refine at_lt (lt_pick true rfl (decide_eq_true (by first | exact h1612 | omega)) rfl) rfl ?_
  refine s_as rfl ?_
  refine s_nt ?_
  refine at_true rfl rfl ?_
  refine s_sr ?_
  refine s_as rfl ?_
  refine s_as rfl ?_
  refine s_nt ?_
  refine at_ret ?_
  have hq := oinj hr
  clear hr
  subst hq
  refine at_in_ret ?_
  refine at_then_ret ?_
  refine at_int .i64 1 (by simp only [lo, hi]; omega) ?_
  exact at_return (.tuple #[.int .i64 1, .int .i64 1]) [0, 0] hS Tryz.results173 (.cons (.tmp rfl) (.cons (.tmp rfl) .nil)) rfl rfl ⟨rfl, rfl⟩
 replace hr := ineg h1612 hr
 refine at_on rfl rfl (decide_eq_false (by first | exact h1612 | omega)) ?_
 refine s_mv rfl ?_
 replace hr := obind hr
 obtain ⟨x1613, h1614, hr⟩ := hr
 refine at_str ([195, 128, 195, 136, 195, 140, 195, 146, 195, 153, 195, 160, 195, 168, 195, 172, 195, 178, 195, 185, 195, 129, 195, 137, 195, 141, 195, 147, 195, 154, 195, 157, 195, 161, 195, 169, 195, 173, 195, 179, 195, 186, 195, 189, 196, 134, 196, 135, 196, 185, 196, 186, 197, 131, 197, 132, 197, 148, 197, 149, 197, 154, 197, 155, 197, 185, 197, 186, 195, 130, 195, 138, 195, 142, 195, 148, 195, 155, 195, 162, 195, 170, 195, 174, 195, 180, 195, 187, 196, 136, 196, 137, 196, 156, 196, 157, 196, 164, 196, 165, 196, 180, 196, 181, 197, 156, 197, 157, 197, 180, 197, 181, 197, 182, 197, 183, 195, 131, 195, 145, 195, 149, 195, 163, 195, 177, 195, 181, 196, 168, 196, 169, 197, 168, 197, 169, 196, 128, 196, 129, 196, 146, 196, 147, 196, 170, 196, 171, 197, 140, 197, 141, 197, 170, 197, 171, 196, 130, 196, 131, 196, 148, 196, 149, 196, 158, 196, 159, 196, 172, 196, 173, 197, 142, 197, 143, 197, 172, 197, 173, 196, 138, 196, 139, 196, 150, 196, 151, 196, 160, 196, 161, 196, 176, 197, 187, 197, 188, 195, 132, 195, 139, 195, 143, 195, 150, 195, 156, 195, 164, 195, 171, 195, 175, 195, 182, 195, 188, 195, 191, 197, 184, 195, 133, 195, 165, 197, 174, 197, 175, 197, 144, 197, 145, 197, 176, 197, 177, 196, 140, 196, 141, 196, 142, 196, 143, 196, 154, 196, 155, 197, 135, 197, 136, 197, 152, 197, 153, 197, 160, 197, 161, 197, 164, 197, 165, 197, 189, 197, 190, 196, 189, 196, 190, 195, 135, 195, 167, 196, 162, 196, 163, 196, 182, 196, 183, 196, 187, 196, 188, 197, 133, 197, 134, 197, 150, 197, 151, 197, 158, 197, 159, 197, 162, 197, 163, 196, 132, 196, 133, 196, 152, 196, 153, 196, 174, 196, 175, 197, 178, 197, 179, 195, 134, 195, 166, 195, 152, 195, 184, 195, 144, 195, 176, 195, 158, 195, 190, 195, 159, 196, 144, 196, 145, 196, 166, 196, 167, 196, 177, 197, 129, 197, 130, 197, 146, 197, 147, 197, 138, 197, 139, 197, 166, 197, 167] : Str) (by decide) ?_
 refine at_on rfl rfl (decide_eq_false (by first | exact h1612 | omega)) ?_
 refine at_hv rfl ?_
 refine hv_call0 [0, 7] (f187_spec h1614) rfl rfl rfl rfl ?_
 rintro _ _ ⟨rfl, rfl⟩
 refine at_lt (lt_pick false rfl (decide_eq_false (by first | exact h1612 | omega)) rfl) rfl ?_
 refine s_as rfl ?_
 refine s_nt ?_
 by_cases h1615 : x1613 = true
 ·replace hr := ipos h1615 hr
  refine at_true rfl h1615 ?_
  refine s_sr ?_
  refine s_as rfl ?_
  refine s_as rfl ?_
  refine s_nt ?_
  refine at_ret ?_
  have hq := oinj hr
  clear hr
  subst hq
  refine at_in_ret ?_
  refine at_then_ret ?_
  refine at_int .i64 1 (by simp only [lo, hi]; omega) ?_
  exact at_return (.tuple #[.int .i64 1, .int .i64 1]) [0, 0] hS Tryz.results173 (.cons (.tmp rfl) (.cons (.tmp rfl) .nil)) rfl rfl ⟨rfl, rfl⟩
 replace hr := ineg h1615 hr
 refine at_false rfl (bf h1615) ?_
 refine s_sr ?_
 refine s_mv rfl ?_
 replace hr := obind hr
 obtain ⟨x1616, h1617, hr⟩ := hr
 refine at_int .i64 768 (by simp only [lo, hi]; omega) ?_
 refine at_int .i64 772 (by simp only [lo, hi]; omega) ?_
 refine at_hv rfl ?_
 refine hv_call0 [9, 1, 0] (f186_spec h1617) rfl rfl rfl rfl ?_
 rintro _ _ ⟨rfl, rfl⟩
 refine s_mv rfl ?_
 by_cases h1618 : x1616 = true
 ·replace hr := ipos h1618 hr
  refine at_off rfl rfl h1618 rfl ?_
  refine at_off rfl rfl h1618 rfl ?_
  refine at_lt (lt_pick true rfl h1618 rfl) rfl ?_
  refine s_mv rfl ?_
  refine at_off rfl rfl rfl rfl ?_
  refine at_off rfl rfl rfl rfl ?_
  refine at_lt (lt_pick true rfl rfl rfl) rfl ?_
  refine s_mv rfl ?_
  refine at_off rfl rfl rfl rfl ?_
  refine at_off rfl rfl rfl rfl ?_
  refine at_lt (lt_pick true rfl rfl rfl) rfl ?_
  refine s_mv rfl ?_
  refine at_off rfl rfl rfl rfl ?_
  refine at_off rfl rfl rfl rfl ?_
  refine at_lt (lt_pick true rfl rfl rfl) rfl ?_
  refine s_mv rfl ?_
  refine at_off rfl rfl rfl rfl ?_
  refine at_off rfl rfl rfl rfl ?_
  refine at_lt (lt_pick true rfl rfl rfl) rfl ?_
  refine s_as rfl ?_
  refine s_nt ?_
  refine at_true rfl rfl ?_
  refine s_sr ?_
  refine s_as rfl ?_
  refine s_as rfl ?_
  refine s_nt ?_
  refine at_ret ?_
  have hq := oinj hr
  clear hr
  subst hq
  refine at_in_ret ?_
  refine at_then_ret ?_
  refine at_int .i64 0 (by simp only [lo, hi]; omega) ?_
  refine at_int .i64 2 (by simp only [lo, hi]; omega) ?_
  exact at_return (.tuple #[.int .i64 0, .int .i64 2]) [1, 0] hS Tryz.results173 (.cons (.tmp rfl) (.cons (.tmp rfl) .nil)) rfl rfl ⟨rfl, rfl⟩
 replace hr := ineg h1618 hr
 refine at_on rfl rfl (bf h1618) ?_
 refine s_mv rfl ?_
 replace hr := obind hr
 obtain ⟨x1619, h1620, hr⟩ := hr
 refine at_int .i64 774 (by simp only [lo, hi]; omega) ?_
 refine at_int .i64 776 (by simp only [lo, hi]; omega) ?_
 refine at_on rfl rfl (bf h1618) ?_
 refine at_hv rfl ?_
 refine hv_call0 [11, 1, 0] (f186_spec h1620) rfl rfl rfl rfl ?_
 rintro _ _ ⟨rfl, rfl⟩
 refine at_lt (lt_pick false rfl (bf h1618) rfl) rfl ?_
 refine s_mv rfl ?_
 by_cases h1621 : x1619 = true
 ·replace hr := ipos h1621 hr
  refine at_off rfl rfl h1621 rfl ?_
  refine at_off rfl rfl h1621 rfl ?_
  refine at_lt (lt_pick true rfl h1621 rfl) rfl ?_
  refine s_mv rfl ?_
  refine at_off rfl rfl rfl rfl ?_
  refine at_off rfl rfl rfl rfl ?_
  refine at_lt (lt_pick true rfl rfl rfl) rfl ?_
  refine s_mv rfl ?_
  refine at_off rfl rfl rfl rfl ?_
  refine at_off rfl rfl rfl rfl ?_
  refine at_lt (lt_pick true rfl rfl rfl) rfl ?_
  refine s_mv rfl ?_
  refine at_off rfl rfl rfl rfl ?_
  refine at_off rfl rfl rfl rfl ?_
  refine at_lt (lt_pick true rfl rfl rfl) rfl ?_
  refine s_as rfl ?_
  refine s_nt ?_
  refine at_true rfl rfl ?_
  refine s_sr ?_
  refine s_as rfl ?_
  refine s_as rfl ?_
  refine s_nt ?_
  refine at_ret ?_
  have hq := oinj hr
  clear hr
  subst hq
  refine at_in_ret ?_
  refine at_then_ret ?_
  refine at_int .i64 0 (by simp only [lo, hi]; omega) ?_
  refine at_int .i64 2 (by simp only [lo, hi]; omega) ?_
  exact at_return (.tuple #[.int .i64 0, .int .i64 2]) [1, 0] hS Tryz.results173 (.cons (.tmp rfl) (.cons (.tmp rfl) .nil)) rfl rfl ⟨rfl, rfl⟩
 replace hr := ineg h1621 hr
 refine at_on rfl rfl (bf h1621) ?_
 refine s_mv rfl ?_
 replace hr := obind hr
 obtain ⟨x1622, h1623, hr⟩ := hr
 refine at_int .i64 778 (by simp only [lo, hi]; omega) ?_
 refine at_int .i64 780 (by simp only [lo, hi]; omega) ?_
 refine at_on rfl rfl (bf h1621) ?_
 refine at_hv rfl ?_
 refine hv_call0 [13, 1, 0] (f186_spec h1623) rfl rfl rfl rfl ?_
 rintro _ _ ⟨rfl, rfl⟩
 refine at_lt (lt_pick false rfl (bf h1621) rfl) rfl ?_
 refine s_mv rfl ?_
 by_cases h1624 : x1622 = true
 ·replace hr := ipos h1624 hr
  refine at_off rfl rfl h1624 rfl ?_
  refine at_off rfl rfl h1624 rfl ?_
  refine at_lt (lt_pick true rfl h1624 rfl) rfl ?_
  refine s_mv rfl ?_
  refine at_off rfl rfl rfl rfl ?_
  refine at_off rfl rfl rfl rfl ?_
  refine at_lt (lt_pick true rfl rfl rfl) rfl ?_
  refine s_mv rfl ?_
  refine at_off rfl rfl rfl rfl ?_
  refine at_off rfl rfl rfl rfl ?_
  refine at_lt (lt_pick true rfl rfl rfl) rfl ?_
  refine s_as rfl ?_
  refine s_nt ?_
  refine at_true rfl rfl ?_
  refine s_sr ?_
  refine s_as rfl ?_
  refine s_as rfl ?_
  refine s_nt ?_
  refine at_ret ?_
  have hq := oinj hr
  clear hr
  subst hq
  refine at_in_ret ?_
  refine at_then_ret ?_
  refine at_int .i64 0 (by simp only [lo, hi]; omega) ?_
  refine at_int .i64 2 (by simp only [lo, hi]; omega) ?_
  exact at_return (.tuple #[.int .i64 0, .int .i64 2]) [1, 0] hS Tryz.results173 (.cons (.tmp rfl) (.cons (.tmp rfl) .nil)) rfl rfl ⟨rfl, rfl⟩
 replace hr := ineg h1624 hr
 refine at_on rfl rfl (bf h1624) ?_
 refine s_mv rfl ?_
 refine at_on rfl rfl (bf h1624) ?_
 refine at_lt (lt_eql rfl rfl) rfl ?_
 refine at_lt (lt_pick false rfl (bf h1624) rfl) rfl ?_
 refine s_mv rfl ?_
 by_cases h1625 : x1592 = 803
 ·replace hr := ipos h1625 hr
  refine at_off rfl rfl (decide_eq_true (by first | exact h1625 | omega)) rfl ?_
  refine at_off rfl rfl (decide_eq_true (by first | exact h1625 | omega)) rfl ?_
  refine at_lt (lt_pick true rfl (decide_eq_true (by first | exact h1625 | omega)) rfl) rfl ?_
  refine s_mv rfl ?_
  refine at_off rfl rfl rfl rfl ?_
  refine at_off rfl rfl rfl rfl ?_
  refine at_lt (lt_pick true rfl rfl rfl) rfl ?_
  refine s_as rfl ?_
  refine s_nt ?_
  refine at_true rfl rfl ?_
  refine s_sr ?_
  refine s_as rfl ?_
  refine s_as rfl ?_
  refine s_nt ?_
  refine at_ret ?_
  have hq := oinj hr
  clear hr
  subst hq
  refine at_in_ret ?_
  refine at_then_ret ?_
  refine at_int .i64 0 (by simp only [lo, hi]; omega) ?_
  refine at_int .i64 2 (by simp only [lo, hi]; omega) ?_
  exact at_return (.tuple #[.int .i64 0, .int .i64 2]) [1, 0] hS Tryz.results173 (.cons (.tmp rfl) (.cons (.tmp rfl) .nil)) rfl rfl ⟨rfl, rfl⟩
 replace hr := ineg h1625 hr
 refine at_on rfl rfl (decide_eq_false (by first | exact h1625 | omega)) ?_
 refine s_mv rfl ?_
 refine at_on rfl rfl (decide_eq_false (by first | exact h1625 | omega)) ?_
 refine at_lt (lt_eql rfl rfl) rfl ?_
 refine at_lt (lt_pick false rfl (decide_eq_false (by first | exact h1625 | omega)) rfl) rfl ?_
 refine s_mv rfl ?_
 by_cases h1626 : x1592 = 807
 ·replace hr := ipos h1626 hr
  refine at_off rfl rfl (decide_eq_true (by first | exact h1626 | omega)) rfl ?_
  refine at_off rfl rfl (decide_eq_true (by first | exact h1626 | omega)) rfl ?_
  refine at_lt (lt_pick true rfl (decide_eq_true (by first | exact h1626 | omega)) rfl) rfl ?_
  refine s_as rfl ?_
  refine s_nt ?_
  refine at_true rfl rfl ?_
  refine s_sr ?_
  refine s_as rfl ?_
  refine s_as rfl ?_
  refine s_nt ?_
  refine at_ret ?_
  have hq := oinj hr
  clear hr
  subst hq
  refine at_in_ret ?_
  refine at_then_ret ?_
  refine at_int .i64 0 (by simp only [lo, hi]; omega) ?_
  refine at_int .i64 2 (by simp only [lo, hi]; omega) ?_
  exact at_return (.tuple #[.int .i64 0, .int .i64 2]) [1, 0] hS Tryz.results173 (.cons (.tmp rfl) (.cons (.tmp rfl) .nil)) rfl rfl ⟨rfl, rfl⟩
 replace hr := ineg h1626 hr
 refine at_on rfl rfl (decide_eq_false (by first | exact h1626 | omega)) ?_
 refine s_mv rfl ?_
 refine at_on rfl rfl (decide_eq_false (by first | exact h1626 | omega)) ?_
 refine at_lt (lt_eql rfl rfl) rfl ?_
 refine at_lt (lt_pick false rfl (decide_eq_false (by first | exact h1626 | omega)) rfl) rfl ?_
 refine s_as rfl ?_
 refine s_nt ?_
 by_cases h1627 : x1592 = 808
 ·replace hr := ipos h1627 hr
  refine at_true rfl (decide_eq_true (by first | exact h1627 | omega)) ?_
  refine s_sr ?_
  refine s_as rfl ?_
  refine s_as rfl ?_
  refine s_nt ?_
  refine at_ret ?_
  have hq := oinj hr
  clear hr
  subst hq
  refine at_in_ret ?_
  refine at_then_ret ?_
  refine at_int .i64 0 (by simp only [lo, hi]; omega) ?_
  refine at_int .i64 2 (by simp only [lo, hi]; omega) ?_
  exact at_return (.tuple #[.int .i64 0, .int .i64 2]) [1, 0] hS Tryz.results173 (.cons (.tmp rfl) (.cons (.tmp rfl) .nil)) rfl rfl ⟨rfl, rfl⟩
 replace hr := ineg h1627 hr
 refine at_false rfl (decide_eq_false (by first | exact h1627 | omega)) ?_
 refine s_sr ?_
 refine s_mv rfl ?_
 replace hr := obind hr
 obtain ⟨x1628, h1629, hr⟩ := hr
 refine at_int .i64 913 (by simp only [lo, hi]; omega) ?_
 refine at_int .i64 929 (by simp only [lo, hi]; omega) ?_
 refine at_hv rfl ?_
 refine hv_call0 [15, 1, 0] (f186_spec h1629) rfl rfl rfl rfl ?_
 rintro _ _ ⟨rfl, rfl⟩
 refine s_mv rfl ?_
 by_cases h1630 : x1628 = true
 ·replace hr := ipos h1630 hr
  refine at_off rfl rfl h1630 rfl ?_
  refine at_off rfl rfl h1630 rfl ?_
  refine at_lt (lt_pick true rfl h1630 rfl) rfl ?_
  refine s_mv rfl ?_
  refine at_off rfl rfl rfl rfl ?_
  refine at_off rfl rfl rfl rfl ?_
  refine at_lt (lt_pick true rfl rfl rfl) rfl ?_
  refine s_mv rfl ?_
  refine at_off rfl rfl rfl rfl ?_
  refine at_off rfl rfl rfl rfl ?_
  refine at_lt (lt_pick true rfl rfl rfl) rfl ?_
  refine s_as rfl ?_
  refine s_nt ?_
  refine at_true rfl rfl ?_
  refine s_sr ?_
  refine s_as rfl ?_
  refine s_as rfl ?_
  refine s_nt ?_
  refine at_ret ?_
  have hq := oinj hr
  clear hr
  subst hq
  refine at_in_ret ?_
  refine at_then_ret ?_
  refine at_int .i64 2 (by simp only [lo, hi]; omega) ?_
  refine at_int .i64 1 (by simp only [lo, hi]; omega) ?_
  exact at_return (.tuple #[.int .i64 2, .int .i64 1]) [1, 0] hS Tryz.results173 (.cons (.tmp rfl) (.cons (.tmp rfl) .nil)) rfl rfl ⟨rfl, rfl⟩
 replace hr := ineg h1630 hr
 refine at_on rfl rfl (bf h1630) ?_
 refine s_mv rfl ?_
 replace hr := obind hr
 obtain ⟨x1631, h1632, hr⟩ := hr
 refine at_int .i64 931 (by simp only [lo, hi]; omega) ?_
 refine at_int .i64 937 (by simp only [lo, hi]; omega) ?_
 refine at_on rfl rfl (bf h1630) ?_
 refine at_hv rfl ?_
 refine hv_call0 [17, 1, 0] (f186_spec h1632) rfl rfl rfl rfl ?_
 rintro _ _ ⟨rfl, rfl⟩
 refine at_lt (lt_pick false rfl (bf h1630) rfl) rfl ?_
 refine s_mv rfl ?_
 by_cases h1633 : x1631 = true
 ·replace hr := ipos h1633 hr
  refine at_off rfl rfl h1633 rfl ?_
  refine at_off rfl rfl h1633 rfl ?_
  refine at_lt (lt_pick true rfl h1633 rfl) rfl ?_
  refine s_mv rfl ?_
  refine at_off rfl rfl rfl rfl ?_
  refine at_off rfl rfl rfl rfl ?_
  refine at_lt (lt_pick true rfl rfl rfl) rfl ?_
  refine s_as rfl ?_
  refine s_nt ?_
  refine at_true rfl rfl ?_
  refine s_sr ?_
  refine s_as rfl ?_
  refine s_as rfl ?_
  refine s_nt ?_
  refine at_ret ?_
  have hq := oinj hr
  clear hr
  subst hq
  refine at_in_ret ?_
  refine at_then_ret ?_
  refine at_int .i64 2 (by simp only [lo, hi]; omega) ?_
  refine at_int .i64 1 (by simp only [lo, hi]; omega) ?_
  exact at_return (.tuple #[.int .i64 2, .int .i64 1]) [1, 0] hS Tryz.results173 (.cons (.tmp rfl) (.cons (.tmp rfl) .nil)) rfl rfl ⟨rfl, rfl⟩
 replace hr := ineg h1633 hr
 refine at_on rfl rfl (bf h1633) ?_
 refine s_mv rfl ?_
 replace hr := obind hr
 obtain ⟨x1634, h1635, hr⟩ := hr
 refine at_int .i64 945 (by simp only [lo, hi]; omega) ?_
 refine at_int .i64 969 (by simp only [lo, hi]; omega) ?_
 refine at_on rfl rfl (bf h1633) ?_
 refine at_hv rfl ?_
 refine hv_call0 [19, 1, 0] (f186_spec h1635) rfl rfl rfl rfl ?_
 rintro _ _ ⟨rfl, rfl⟩
 refine at_lt (lt_pick false rfl (bf h1633) rfl) rfl ?_
 refine s_mv rfl ?_
 by_cases h1636 : x1634 = true
 ·replace hr := ipos h1636 hr
  refine at_off rfl rfl h1636 rfl ?_
  refine at_off rfl rfl h1636 rfl ?_
  refine at_lt (lt_pick true rfl h1636 rfl) rfl ?_
  refine s_as rfl ?_
  refine s_nt ?_
  refine at_true rfl rfl ?_
  refine s_sr ?_
  refine s_as rfl ?_
  refine s_as rfl ?_
  refine s_nt ?_
  refine at_ret ?_
  have hq := oinj hr
  clear hr
  subst hq
  refine at_in_ret ?_
  refine at_then_ret ?_
  refine at_int .i64 2 (by simp only [lo, hi]; omega) ?_
  refine at_int .i64 1 (by simp only [lo, hi]; omega) ?_
  exact at_return (.tuple #[.int .i64 2, .int .i64 1]) [1, 0] hS Tryz.results173 (.cons (.tmp rfl) (.cons (.tmp rfl) .nil)) rfl rfl ⟨rfl, rfl⟩
 replace hr := ineg h1636 hr
 refine at_on rfl rfl (bf h1636) ?_
 refine s_mv rfl ?_
 replace hr := obind hr
 obtain ⟨x1637, h1638, hr⟩ := hr
 refine at_str ([206, 134, 206, 136, 206, 137, 206, 138, 206, 140, 206, 142, 206, 143, 206, 172, 206, 173, 206, 174, 206, 175, 207, 140, 207, 141, 207, 142, 206, 170, 206, 171, 207, 138, 207, 139] : Str) (by decide) ?_
 refine at_on rfl rfl (bf h1636) ?_
 refine at_hv rfl ?_
 refine hv_call0 [0, 20] (f187_spec h1638) rfl rfl rfl rfl ?_
 rintro _ _ ⟨rfl, rfl⟩
 refine at_lt (lt_pick false rfl (bf h1636) rfl) rfl ?_
 refine s_as rfl ?_
 refine s_nt ?_
 by_cases h1639 : x1637 = true
 ·replace hr := ipos h1639 hr
  refine at_true rfl h1639 ?_
  refine s_sr ?_
  refine s_as rfl ?_
  refine s_as rfl ?_
  refine s_nt ?_
  refine at_ret ?_
  have hq := oinj hr
  clear hr
  subst hq
  refine at_in_ret ?_
  refine at_then_ret ?_
  refine at_int .i64 2 (by simp only [lo, hi]; omega) ?_
  refine at_int .i64 1 (by simp only [lo, hi]; omega) ?_
  exact at_return (.tuple #[.int .i64 2, .int .i64 1]) [1, 0] hS Tryz.results173 (.cons (.tmp rfl) (.cons (.tmp rfl) .nil)) rfl rfl ⟨rfl, rfl⟩
 replace hr := ineg h1639 hr
 refine at_false rfl (bf h1639) ?_
 refine s_sr ?_
 refine s_mv rfl ?_
 replace hr := obind hr
 obtain ⟨x1640, h1641, hr⟩ := hr
 refine at_int .i64 1040 (by simp only [lo, hi]; omega) ?_
 refine at_int .i64 1103 (by simp only [lo, hi]; omega) ?_
 refine at_hv rfl ?_
 refine hv_call0 [22, 1, 0] (f186_spec h1641) rfl rfl rfl rfl ?_
 rintro _ _ ⟨rfl, rfl⟩
 refine s_mv rfl ?_
 by_cases h1642 : x1640 = true
 ·replace hr := ipos h1642 hr
  refine at_off rfl rfl h1642 rfl ?_
  refine at_off rfl rfl h1642 rfl ?_
  refine at_lt (lt_pick true rfl h1642 rfl) rfl ?_
  refine s_as rfl ?_
  refine s_nt ?_
  refine at_true rfl rfl ?_
  refine s_sr ?_
  refine s_as rfl ?_
  refine s_as rfl ?_
  refine s_nt ?_
  refine at_ret ?_
  have hq := oinj hr
  clear hr
  subst hq
  refine at_in_ret ?_
  refine at_then_ret ?_
  refine at_int .i64 3 (by simp only [lo, hi]; omega) ?_
  refine at_int .i64 1 (by simp only [lo, hi]; omega) ?_
  exact at_return (.tuple #[.int .i64 3, .int .i64 1]) [1, 0] hS Tryz.results173 (.cons (.tmp rfl) (.cons (.tmp rfl) .nil)) rfl rfl ⟨rfl, rfl⟩
 replace hr := ineg h1642 hr
 refine at_on rfl rfl (bf h1642) ?_
 refine s_mv rfl ?_
 replace hr := obind hr
 obtain ⟨x1643, h1644, hr⟩ := hr
 refine at_str ([208, 129, 209, 145, 208, 135, 209, 151, 208, 132, 209, 148, 210, 144, 210, 145, 208, 142, 209, 158, 208, 134, 209, 150] : Str) (by decide) ?_
 refine at_on rfl rfl (bf h1642) ?_
 refine at_hv rfl ?_
 refine hv_call0 [0, 23] (f187_spec h1644) rfl rfl rfl rfl ?_
 rintro _ _ ⟨rfl, rfl⟩
 refine at_lt (lt_pick false rfl (bf h1642) rfl) rfl ?_
 refine s_as rfl ?_
 refine s_nt ?_
 by_cases h1645 : x1643 = true
 ·replace hr := ipos h1645 hr
  refine at_true rfl h1645 ?_
  refine s_sr ?_
  refine s_as rfl ?_
  refine s_as rfl ?_
  refine s_nt ?_
  refine at_ret ?_
  have hq := oinj hr
  clear hr
  subst hq
  refine at_in_ret ?_
  refine at_then_ret ?_
  refine at_int .i64 3 (by simp only [lo, hi]; omega) ?_
  refine at_int .i64 1 (by simp only [lo, hi]; omega) ?_
  exact at_return (.tuple #[.int .i64 3, .int .i64 1]) [1, 0] hS Tryz.results173 (.cons (.tmp rfl) (.cons (.tmp rfl) .nil)) rfl rfl ⟨rfl, rfl⟩
 replace hr := ineg h1645 hr
 refine at_false rfl (bf h1645) ?_
 refine s_sr ?_
 refine s_mv rfl ?_
 replace hr := obind hr
 obtain ⟨x1646, h1647, hr⟩ := hr
 refine at_int .i64 33 (by simp only [lo, hi]; omega) ?_
 refine at_int .i64 126 (by simp only [lo, hi]; omega) ?_
 refine at_hv rfl ?_
 refine hv_call0 [25, 1, 0] (f186_spec h1647) rfl rfl rfl rfl ?_
 rintro _ _ ⟨rfl, rfl⟩
 refine s_as rfl ?_
 refine s_nt ?_
 by_cases h1648 : x1646 = true
 ·replace hr := ipos h1648 hr
  refine at_true rfl h1648 ?_
  refine s_sr ?_
  refine s_as rfl ?_
  refine s_as rfl ?_
  refine s_nt ?_
  refine at_ret ?_
  have hq := oinj hr
  clear hr
  subst hq
  refine at_in_ret ?_
  refine at_then_ret ?_
  refine at_int .i64 0 (by simp only [lo, hi]; omega) ?_
  refine at_int .i64 5 (by simp only [lo, hi]; omega) ?_
  exact at_return (.tuple #[.int .i64 0, .int .i64 5]) [1, 0] hS Tryz.results173 (.cons (.tmp rfl) (.cons (.tmp rfl) .nil)) rfl rfl ⟨rfl, rfl⟩
 replace hr := ineg h1648 hr
 refine at_false rfl (bf h1648) ?_
 refine at_skip ?_
 refine at_in ?_
 refine s_tsr ?_
 refine s_as rfl ?_
 refine s_as rfl ?_
 refine s_nt ?_
 refine at_ret ?_
 have hq := oinj hr
 clear hr
 subst hq
 refine at_int .i64 0 (by simp only [lo, hi]; omega) ?_
 exact at_return (.tuple #[.int .i64 0, .int .i64 0]) [0, 0] hS Tryz.results173 (.cons (.tmp rfl) (.cons (.tmp rfl) .nil)) rfl rfl ⟨rfl, rfl⟩
/-! 153 bookplate/bookplateref04.Has -/
def m153 (a0 : Int) : Option Bool :=
  (m173 a0).bind fun x1650 =>
  some (!decide (x1650.2 = 0))
def post153 (r : Bool) (v : Value) (fs : List Fact) : Prop := v = .bool r ∧ fs = []
theorem en153 : Enters Tryz.prog 153 := ⟨_, Tryz.func153, by kernel_rfl, rfl⟩
theorem f153_spec {a0 : Int} {r : Bool} (hr : m153 a0 = some r) : Spec Tryz.prog 153 [.int .i64 a0] [((Ty.int .i64).fact a0 [.int .i64 a0])] (post153 r) := by
 refine spec_start (N := 12) Tryz.func153 (by kernel_rfl) rfl rfl rfl ?_
 intro g hS
 unfold m153 at hr
 refine at_inv 0 rfl (fun l1649 => ?_)
 replace l1649 : (-9223372036854775808) ≤ a0 ∧ a0 ≤ 9223372036854775807 := l1649
 refine s_sr ?_
 refine s_as rfl ?_
 refine s_ntsr ?_
 refine s_mv rfl ?_
 replace hr := obind hr
 obtain ⟨x1650, h1651, hr⟩ := hr
 refine at_hv rfl ?_
 refine hv_call0 [0] (f173_spec h1651) rfl rfl rfl rfl ?_
 rintro _ _ ⟨rfl, rfl⟩
 refine at_inv 0 rfl (fun l1652 => ?_)
 replace l1652 : (-9223372036854775808) ≤ x1650.1 ∧ x1650.1 ≤ 9223372036854775807 := l1652
 refine at_inv 1 rfl (fun l1653 => ?_)
 replace l1653 : (-9223372036854775808) ≤ x1650.2 ∧ x1650.2 ≤ 9223372036854775807 := l1653
 refine s_mv rfl ?_
 refine at_lt (lt_extract rfl rfl) rfl ?_
 refine at_lt (lt_extract rfl rfl) rfl ?_
 refine s_as rfl ?_
 refine s_as rfl ?_
 refine s_ntsr ?_
 refine s_mv rfl ?_
 refine at_lt (lt_neq rfl rfl) rfl ?_
 refine s_as rfl ?_
 refine s_nt ?_
 refine at_ret ?_
 have hq := oinj hr
 clear hr
 subst hq
 exact at_return (.bool (!decide (x1650.2 = 0))) [] hS Tryz.results153 (.cons (.tmp rfl) .nil) rfl rfl ⟨rfl, rfl⟩
/-! 116 bookplate/bookplateref04.Decode -/
def m116_l1 (a0 : Str) : Nat → (List Int) → Int → Option (Fl ((List Int) × Bool) (List Int))
  | 0, _, _ => none
  | k + 1, x1654, x1655 =>
    if x1655 < (a0.length : Int) then
     (m152 a0 x1655).bind fun x1669 =>
     if x1669.2 = 0 then
      some (Fl.ret (([] : (List Int)), false))
     else
      (m153 x1669.1).bind fun x1674 =>
      if x1674 = true then
       if x1654.length + 1 ≤ 17592186044416 then
        m116_l1 a0 k (x1654 ++ [x1669.1]) (IntKind.i64.wrap (x1655 + x1669.2))
       else none
      else
       some (Fl.ret (([] : (List Int)), false))
    else
     some (Fl.go x1654)
def m116 (a0 : Str) : Option ((List Int) × Bool) :=
  (m116_l1 a0 (a0.length + 1) ([] : (List Int)) 0).bind fun r => match r with
  | .ret x => some x
  | .go x1659 =>
   some (x1659, true)
def post116 (r : ((List Int) × Bool)) (v : Value) (fs : List Fact) : Prop := ∃ s1682 : Value, v = .tuple #[s1682, .bool r.2] ∧ fs = [((Ty.slice (Ty.int .i64)).fact r.1 [s1682])]
theorem en116 : Enters Tryz.prog 116 := ⟨_, Tryz.func116, by kernel_rfl, rfl⟩
theorem f116_spec {a0 : Str} {r : ((List Int) × Bool)} (hr : m116 a0 = some r) : Spec Tryz.prog 116 [str a0] [(Ty.str.fact a0 [str a0])] (post116 r) := by
 refine spec_start (N := 33) Tryz.func116 (by kernel_rfl) rfl rfl rfl ?_
 intro g hS
 unfold m116 at hr
 refine s_sr ?_
 refine s_as rfl ?_
 refine s_as rfl ?_
 refine s_ntsr ?_
 refine s_as rfl ?_
 refine s_nt ?_
 refine at_seq ?_
 refine s_sr ?_
 refine s_as rfl ?_
 refine s_nt ?_
 refine at_rownew none 3 1 ?_
 refine at_rownil (Ty.int .i64) ?_
 refine at_mkpure (q := (([] : (List Int)).length * (Ty.int .i64).bytes ≤ 140737488355328)) (by simp only [List.nil_append, List.cons_append, List.length_cons, List.length_nil, Ty.int_bytes, Ty.u8_bytes, Ty.str_bytes, Ty.slice_bytes, Ty.bool_bytes, nb] <;> omega) ?_
 refine at_int .i64 0 (by simp only [lo, hi]; omega) ?_
 replace hr := obind hr
 obtain ⟨r1663, hl1664, hk1665⟩ := hr
 refine at_cutP (V := ((List Int)) × (Value × Nat × (List Value))) (fun v => r1663 = Fl.go v.1) (fun v => (⟨[(4, v.2.1)], [], [⟨v.2.1, 3, 1, v.2.2.1, v.2.2.2⟩], [((Ty.int .i64).row v.1 v.2.2.2), (pureF (v.1.length * (Ty.int .i64).bytes ≤ 140737488355328))]⟩ : St)) ?_ ?_
 ·refine at_block ?_
  refine at_loopW (σ := ((List Int) × Int)) (V := Value × Nat × (List Value)) (r := r1663) (fun n s => m116_l1 a0 n s.1 s.2) (fun s e => (⟨[(0, str a0), (4, e.1), (5, .int .i64 s.2)], [], [⟨e.1, 3, 1, e.2.1, e.2.2⟩], [((Ty.int .i64).row s.1 e.2.2), (pureF (s.1.length * (Ty.int .i64).bytes ≤ 140737488355328)), ((Ty.int .i64).fact s.2 [.int .i64 s.2]), (Ty.str.fact a0 [str a0])]⟩ : St)) (fun _ => rfl) _ (([] : (List Int)), 0) ((.slice none 0 0), 0, []) hl1664 ⟨⟨rfl, ⟨rfl, ⟨rfl, trivial⟩⟩⟩, ⟨[], rfl⟩, ⟨[true], rfl⟩, ⟨[2, 1, 0, 3], rfl⟩⟩ ?_
  clear hl1664
  intro n s hr e
  obtain ⟨x1654, x1655⟩ := s
  obtain ⟨v1656, n1657, i1658⟩ := e
  change m116_l1 a0 (n + 1) x1654 x1655 = some r1663 at hr
  change At _ _ (⟨[(0, str a0), (4, v1656), (5, .int .i64 x1655)], [], [⟨v1656, 3, 1, n1657, i1658⟩], [((Ty.int .i64).row x1654 i1658), (pureF (x1654.length * (Ty.int .i64).bytes ≤ 140737488355328)), ((Ty.int .i64).fact x1655 [.int .i64 x1655]), (Ty.str.fact a0 [str a0])]⟩ : St) _
  rw [m116_l1] at hr
  refine at_inv 2 rfl (fun l1666 => ?_)
  replace l1666 : (-9223372036854775808) ≤ x1655 ∧ x1655 ≤ 9223372036854775807 := l1666
  refine at_seq ?_
  refine s_sr ?_
  refine s_mv rfl ?_
  refine s_mv rfl ?_
  refine at_inv 3 rfl (fun l1667 => ?_)
  replace l1667 : a0.length ≤ 9223372036854775807 := l1667
  refine at_lt (lt_slen rfl und9) rfl ?_
  refine at_lt (lt_lss rfl rfl) rfl ?_
  refine s_nt ?_
  by_cases h1668 : x1655 < (a0.length : Int)
  ·replace hr := ipos h1668 hr
   refine at_true rfl (decide_eq_true (by first | exact h1668 | omega)) ?_
   refine at_skip ?_
   refine at_then ?_
   refine at_block ?_
   refine s_sr ?_
   refine s_mv rfl ?_
   refine s_mv rfl ?_
   replace hr := obind hr
   obtain ⟨x1669, h1670, hr⟩ := hr
   refine at_hv rfl ?_
   refine hv_call0 [3, 2] (f152_spec h1670) rfl rfl rfl rfl ?_
   rintro _ _ ⟨rfl, rfl⟩
   refine at_inv 0 rfl (fun l1671 => ?_)
   replace l1671 : (-9223372036854775808) ≤ x1669.1 ∧ x1669.1 ≤ 9223372036854775807 := l1671
   refine at_inv 1 rfl (fun l1672 => ?_)
   replace l1672 : (-9223372036854775808) ≤ x1669.2 ∧ x1669.2 ≤ 9223372036854775807 := l1672
   refine s_mv rfl ?_
   refine at_lt (lt_extract rfl rfl) rfl ?_
   refine at_lt (lt_extract rfl rfl) rfl ?_
   refine s_as rfl ?_
   refine s_as rfl ?_
   refine s_nt ?_
   refine at_seq ?_
   refine s_sr ?_
   refine s_mv rfl ?_
   refine at_lt (lt_eql rfl rfl) rfl ?_
   refine s_mv rfl ?_
   by_cases h1673 : x1669.2 = 0
   ·replace hr := ipos h1673 hr
    refine at_off rfl rfl (decide_eq_true (by first | exact h1673 | omega)) rfl ?_
    refine at_off rfl rfl (decide_eq_true (by first | exact h1673 | omega)) rfl ?_
    refine at_off rfl rfl (decide_eq_true (by first | exact h1673 | omega)) rfl ?_
    refine at_lt (lt_pick true rfl (decide_eq_true (by first | exact h1673 | omega)) rfl) rfl ?_
    refine s_nt ?_
    refine at_true rfl rfl ?_
    refine s_sr ?_
    refine s_as rfl ?_
    refine s_as rfl ?_
    refine s_nt ?_
    refine at_ret ?_
    have hq := oinj hr
    clear hr
    subst hq
    have hq := oinj hk1665
    clear hk1665
    subst hq
    refine at_then_ret ?_
    refine at_in_ret ?_
    refine at_then_ret ?_
    refine at_in_ret ?_
    refine at_then_ret ?_
    refine at_then_ret ?_
    refine at_fnil (Ty.int .i64) none ?_
    exact at_return (.tuple #[(.slice none 0 0), .bool false]) [0] hS Tryz.results116 (.cons (.tmp rfl) (.cons (.tmp rfl) .nil)) rfl rfl ⟨((.slice none 0 0)), rfl, rfl⟩
   replace hr := ineg h1673 hr
   refine at_on rfl rfl (decide_eq_false (by first | exact h1673 | omega)) ?_
   refine s_mv rfl ?_
   replace hr := obind hr
   obtain ⟨x1674, h1675, hr⟩ := hr
   refine at_on rfl rfl (decide_eq_false (by first | exact h1673 | omega)) ?_
   refine at_hv rfl ?_
   refine hv_call0 [0] (f153_spec h1675) rfl rfl rfl rfl ?_
   rintro _ _ ⟨rfl, rfl⟩
   refine at_on rfl rfl (decide_eq_false (by first | exact h1673 | omega)) ?_
   refine at_lt (lt_not rfl) rfl ?_
   refine at_lt (lt_pick false rfl (decide_eq_false (by first | exact h1673 | omega)) rfl) rfl ?_
   refine s_nt ?_
   by_cases h1676 : x1674 = true
   ·replace hr := ipos h1676 hr
    refine at_false rfl (nt h1676) ?_
    refine at_skip ?_
    refine s_tsr ?_
    refine s_mv rfl ?_
    refine s_mv rfl ?_
    refine at_hv rfl ?_
    refine hv_bslice (cs := [.int .i64 x1669.1]) rfl und140 ti3 rfl rfl rfl rfl rfl (fun s1677 => ?_)
    replace hr := imust hr
    obtain ⟨h1678, hr⟩ := hr
    refine at_rown 1 2 rfl rfl rfl (fun hn1680 => ?_)
    refine at_hv rfl ?_
    refine hv_append 1 0 rfl rfl rfl rfl und140 ti3 rfl rfl rfl (by omega) (by omega) rfl (fun s1679 => ?_)
    refine at_rowsnoc 2 0 rfl rfl ?_
    refine s_as rfl ?_
    refine at_nil ?_
    refine s_tr ?_
    refine s_mv rfl ?_
    refine s_mv rfl ?_
    refine at_lt (lt_addw rfl rfl) rfl ?_
    refine s_as rfl ?_
    refine at_nil ?_
    refine at_in ?_
    refine at_mkpure (q := ((x1654 ++ [x1669.1]).length * (Ty.int .i64).bytes ≤ 140737488355328)) (by simp only [List.length_append, List.length_cons, List.length_nil, Ty.int_bytes, Ty.u8_bytes, Ty.str_bytes, Ty.slice_bytes, Ty.bool_bytes, nb] <;> omega) ?_
    refine at_int .i64 (IntKind.i64.wrap (x1655 + x1669.2)) (wrap_bd .i64 _) ?_
    exact at_again (σ := ((List Int) × Int)) (V := Value × Nat × (List Value)) (lp := fun n s => m116_l1 a0 n s.1 s.2) (S := fun s e => (⟨[(0, str a0), (4, e.1), (5, .int .i64 s.2)], [], [⟨e.1, 3, 1, e.2.1, e.2.2⟩], [((Ty.int .i64).row s.1 e.2.2), (pureF (s.1.length * (Ty.int .i64).bytes ≤ 140737488355328)), ((Ty.int .i64).fact s.2 [.int .i64 s.2]), (Ty.str.fact a0 [str a0])]⟩ : St)) (x1654 ++ [x1669.1], IntKind.i64.wrap (x1655 + x1669.2)) (s1679, n1657 + 1, i1658 ++ [.int .i64 x1669.1]) hr ⟨⟨rfl, ⟨rfl, ⟨rfl, trivial⟩⟩⟩, ⟨[], rfl⟩, ⟨[false, true], rfl⟩, ⟨[2, 1, 0, 8], rfl⟩⟩
   replace hr := ineg h1676 hr
   refine at_true rfl (nf (bf h1676)) ?_
   refine s_sr ?_
   refine s_as rfl ?_
   refine s_as rfl ?_
   refine s_nt ?_
   refine at_ret ?_
   have hq := oinj hr
   clear hr
   subst hq
   have hq := oinj hk1665
   clear hk1665
   subst hq
   refine at_then_ret ?_
   refine at_in_ret ?_
   refine at_then_ret ?_
   refine at_in_ret ?_
   refine at_then_ret ?_
   refine at_then_ret ?_
   refine at_fnil (Ty.int .i64) none ?_
   exact at_return (.tuple #[(.slice none 0 0), .bool false]) [0] hS Tryz.results116 (.cons (.tmp rfl) (.cons (.tmp rfl) .nil)) rfl rfl ⟨((.slice none 0 0)), rfl, rfl⟩
  replace hr := ineg h1668 hr
  refine at_false rfl (decide_eq_false (by first | exact h1668 | omega)) ?_
  refine at_exit ?_
  refine at_then_exit ?_
  refine at_then_exit ?_
  refine at_in_exit ?_
  have hq := oinj hr
  clear hr
  subst hq
  exact at_leafP (x1654, (v1656, n1657, i1658)) rfl ⟨⟨rfl, trivial⟩, ⟨[], rfl⟩, ⟨[true], rfl⟩, ⟨[0, 1], rfl⟩⟩
 rintro ⟨x1659, ⟨v1660, n1661, i1662⟩⟩ hp
 replace hr := hk1665
 subst hp
 clear hl1664
 change At _ _ (⟨[(4, v1660)], [], [⟨v1660, 3, 1, n1661, i1662⟩], [((Ty.int .i64).row x1659 i1662), (pureF (x1659.length * (Ty.int .i64).bytes ≤ 140737488355328))]⟩ : St) _
 refine s_tsr ?_
 refine s_mv rfl ?_
 refine s_as rfl ?_
 refine s_as rfl ?_
 refine s_nt ?_
 refine at_ret ?_
 have hq := oinj hr
 clear hr
 subst hq
 refine at_pure 1 rfl (fun hb1681 => ?_)
 refine at_release 0 0 rfl rfl rfl hb1681 ?_
 exact at_return (.tuple #[v1660, .bool true]) [0] hS Tryz.results116 (.cons (.tmp rfl) (.cons (.tmp rfl) .nil)) rfl rfl ⟨v1660, rfl, rfl⟩
/-! 90 bookplate/bookplateref04.Valid -/
def m90 (a0 : Str) : Option Bool :=
  if a0.length < 1 then
   some false
  else
   if 400 < a0.length then
    some false
   else
    (a0[0]?).bind fun c1686 =>
    if c1686.toNat = 32 then
     some false
    else
     (at? a0 ((a0.length : Int) - 1)).bind fun c1689 =>
     if c1689.toNat = 32 then
      some false
     else
      (m116 a0).bind fun x1692 =>
      some x1692.2
def post90 (r : Bool) (v : Value) (fs : List Fact) : Prop := v = .bool r ∧ fs = []
theorem en90 : Enters Tryz.prog 90 := ⟨_, Tryz.func90, by kernel_rfl, rfl⟩
theorem f90_spec {a0 : Str} {r : Bool} (hr : m90 a0 = some r) : Spec Tryz.prog 90 [str a0] [(Ty.str.fact a0 [str a0])] (post90 r) := by
 refine spec_start (N := 32) Tryz.func90 (by kernel_rfl) rfl rfl rfl ?_
 intro g hS
 unfold m90 at hr
 refine s_sr ?_
 refine s_as rfl ?_
 refine s_nt ?_
 refine at_seq ?_
 refine s_sr ?_
 refine s_mv rfl ?_
 refine at_inv 0 rfl (fun l1683 => ?_)
 replace l1683 : a0.length ≤ 9223372036854775807 := l1683
 refine at_lt (lt_slen rfl und9) rfl ?_
 refine at_lt (lt_lss rfl rfl) rfl ?_
 refine s_mv rfl ?_
 by_cases h1684 : a0.length < 1
 ·replace hr := ipos h1684 hr
  refine at_off rfl rfl (decide_eq_true (by omega)) rfl ?_
  refine at_off rfl rfl (decide_eq_true (by omega)) rfl ?_
  refine at_off rfl rfl (decide_eq_true (by omega)) rfl ?_
  refine at_lt (lt_pick true rfl (decide_eq_true (by omega)) rfl) rfl ?_
  refine s_mv rfl ?_
  refine at_off rfl rfl rfl rfl ?_
  refine at_off rfl rfl rfl rfl ?_
  refine at_off rfl rfl rfl rfl ?_
  refine at_lt (lt_pick true rfl rfl rfl) rfl ?_
  refine s_mv rfl ?_
  refine at_off rfl rfl rfl rfl ?_
  refine at_off rfl rfl rfl rfl ?_
  refine at_off rfl rfl rfl rfl ?_
  refine at_off rfl rfl rfl rfl ?_
  refine at_off rfl rfl rfl rfl ?_
  refine at_off rfl rfl rfl rfl ?_
  refine at_lt (lt_pick true rfl rfl rfl) rfl ?_
  refine s_nt ?_
  refine at_true rfl rfl ?_
  refine s_sr ?_
  refine s_as rfl ?_
  refine s_nt ?_
  refine at_ret ?_
  have hq := oinj hr
  clear hr
  subst hq
  refine at_then_ret ?_
  exact at_return (.bool false) [] hS Tryz.results90 (.cons (.tmp rfl) .nil) rfl rfl ⟨rfl, rfl⟩
 replace hr := ineg h1684 hr
 refine at_on rfl rfl (decide_eq_false (by omega)) ?_
 refine s_mv rfl ?_
 refine at_on rfl rfl (decide_eq_false (by omega)) ?_
 refine at_lt (lt_slen rfl und9) rfl ?_
 refine at_on rfl rfl (decide_eq_false (by omega)) ?_
 refine at_lt (lt_gtr rfl rfl) rfl ?_
 refine at_lt (lt_pick false rfl (decide_eq_false (by omega)) rfl) rfl ?_
 refine s_mv rfl ?_
 by_cases h1685 : 400 < a0.length
 ·replace hr := ipos h1685 hr
  refine at_off rfl rfl (decide_eq_true (by omega)) rfl ?_
  refine at_off rfl rfl (decide_eq_true (by omega)) rfl ?_
  refine at_off rfl rfl (decide_eq_true (by omega)) rfl ?_
  refine at_lt (lt_pick true rfl (decide_eq_true (by omega)) rfl) rfl ?_
  refine s_mv rfl ?_
  refine at_off rfl rfl rfl rfl ?_
  refine at_off rfl rfl rfl rfl ?_
  refine at_off rfl rfl rfl rfl ?_
  refine at_off rfl rfl rfl rfl ?_
  refine at_off rfl rfl rfl rfl ?_
  refine at_off rfl rfl rfl rfl ?_
  refine at_lt (lt_pick true rfl rfl rfl) rfl ?_
  refine s_nt ?_
  refine at_true rfl rfl ?_
  refine s_sr ?_
  refine s_as rfl ?_
  refine s_nt ?_
  refine at_ret ?_
  have hq := oinj hr
  clear hr
  subst hq
  refine at_then_ret ?_
  exact at_return (.bool false) [] hS Tryz.results90 (.cons (.tmp rfl) .nil) rfl rfl ⟨rfl, rfl⟩
 replace hr := ineg h1685 hr
 refine at_on rfl rfl (decide_eq_false (by omega)) ?_
 refine s_mv rfl ?_
 replace hr := obind hr
 obtain ⟨c1686, h1687, hr⟩ := hr
 have := (List.getElem?_eq_some_iff.1 h1687).1
 have := c1686.toNat_lt
 refine at_on rfl rfl (decide_eq_false (by omega)) ?_
 refine at_lt (lt_sidx rfl rfl und9 (by omega) h1687) rfl ?_
 refine at_on rfl rfl (decide_eq_false (by omega)) ?_
 refine at_lt (lt_eql rfl rfl) rfl ?_
 refine at_lt (lt_pick false rfl (decide_eq_false (by omega)) rfl) rfl ?_
 refine s_mv rfl ?_
 by_cases h1688 : c1686.toNat = 32
 ·replace hr := ipos h1688 hr
  refine at_off rfl rfl (decide_eq_true (by omega)) rfl ?_
  refine at_off rfl rfl (decide_eq_true (by omega)) rfl ?_
  refine at_off rfl rfl (decide_eq_true (by omega)) rfl ?_
  refine at_off rfl rfl (decide_eq_true (by omega)) rfl ?_
  refine at_off rfl rfl (decide_eq_true (by omega)) rfl ?_
  refine at_off rfl rfl (decide_eq_true (by omega)) rfl ?_
  refine at_lt (lt_pick true rfl (decide_eq_true (by omega)) rfl) rfl ?_
  refine s_nt ?_
  refine at_true rfl rfl ?_
  refine s_sr ?_
  refine s_as rfl ?_
  refine s_nt ?_
  refine at_ret ?_
  have hq := oinj hr
  clear hr
  subst hq
  refine at_then_ret ?_
  exact at_return (.bool false) [] hS Tryz.results90 (.cons (.tmp rfl) .nil) rfl rfl ⟨rfl, rfl⟩
 replace hr := ineg h1688 hr
 refine at_on rfl rfl (decide_eq_false (by omega)) ?_
 refine s_mv rfl ?_
 refine at_on rfl rfl (decide_eq_false (by omega)) ?_
 refine s_mv rfl ?_
 refine at_on rfl rfl (decide_eq_false (by omega)) ?_
 refine at_lt (lt_slen rfl und9) rfl ?_
 refine at_on rfl rfl (decide_eq_false (by omega)) ?_
 refine at_lt (lt_sub rfl rfl (by simp only [lo, hi]; omega)) rfl ?_
 replace hr := obind hr
 obtain ⟨c1689, h1690, hr⟩ := hr
 have := at?_lt h1690
 have := c1689.toNat_lt
 refine at_on rfl rfl (decide_eq_false (by omega)) ?_
 refine at_lt (lt_sidx rfl rfl und9 (at?_lt h1690).1 (at?_get h1690)) rfl ?_
 refine at_on rfl rfl (decide_eq_false (by omega)) ?_
 refine at_lt (lt_eql rfl rfl) rfl ?_
 refine at_lt (lt_pick false rfl (decide_eq_false (by omega)) rfl) rfl ?_
 refine s_nt ?_
 by_cases h1691 : c1689.toNat = 32
 ·replace hr := ipos h1691 hr
  refine at_true rfl (decide_eq_true (by omega)) ?_
  refine s_sr ?_
  refine s_as rfl ?_
  refine s_nt ?_
  refine at_ret ?_
  have hq := oinj hr
  clear hr
  subst hq
  refine at_then_ret ?_
  exact at_return (.bool false) [] hS Tryz.results90 (.cons (.tmp rfl) .nil) rfl rfl ⟨rfl, rfl⟩
 replace hr := ineg h1691 hr
 refine at_false rfl (decide_eq_false (by omega)) ?_
 refine at_skip ?_
 refine s_tsr ?_
 refine s_mv rfl ?_
 replace hr := obind hr
 obtain ⟨x1692, h1693, hr⟩ := hr
 refine at_hv rfl ?_
 refine hv_call0 [0] (f116_spec h1693) rfl rfl rfl rfl ?_
 rintro _ _ ⟨s1694, rfl, rfl⟩
 refine s_mv rfl ?_
 refine at_lt (lt_extract rfl rfl) rfl ?_
 refine at_lt (lt_extract rfl rfl) rfl ?_
 refine s_as rfl ?_
 refine s_as rfl ?_
 refine s_ntsr ?_
 refine s_mv rfl ?_
 refine s_as rfl ?_
 refine s_nt ?_
 refine at_ret ?_
 have hq := oinj hr
 clear hr
 subst hq
 exact at_return (.bool x1692.2) [] hS Tryz.results90 (.cons (.tmp rfl) .nil) rfl rfl ⟨rfl, rfl⟩
/-! 56 bookplate/bookplateref12.ValidField -/
def m56_l1 (a0 : D_api_Field) : Nat → Nat → Option (Fl Bool Unit)
  | 0, _ => none
  | k + 1, x1704 =>
    if x1704 < 2 then
     Option.bind (α := Bool) (
      if x1704 = 0 then
       if a0.Ind_0.toNat = 32 then
        some false
       else
        (m89 a0.Ind_0).bind fun x1713 =>
        some (!x1713)
      else
       if x1704 = 1 then
        if a0.Ind_1.toNat = 32 then
         some false
        else
         (m89 a0.Ind_1).bind fun x1717 =>
         some (!x1717)
       else
        none
     ) fun x1709 =>
     if x1709 = true then
      some (Fl.ret false)
     else
      if x1704 + 1 ≤ 9223372036854775807 then
       m56_l1 a0 k (x1704 + 1)
      else none
    else
     some (Fl.go ())
def m56_l2 (a0 : D_api_Field) : Nat → Nat → Option (Fl Bool Unit)
  | 0, _ => none
  | k + 1, x1721 =>
    if x1721 < a0.Subs.length then
     (a0.Subs[x1721]?).bind fun x1726 =>
     (m89 x1726.Code).bind fun x1730 =>
     if x1730 = true then
      (a0.Subs[x1721]?).bind fun x1733 =>
      (m90 x1733.Value).bind fun x1737 =>
      if x1737 = true then
       m56_l2 a0 k (x1721 + 1)
      else
       some (Fl.ret false)
     else
      some (Fl.ret false)
    else
     some (Fl.go ())
def m56 (a0 : D_api_Field) : Option Bool :=
  (m87 a0.Tag).bind fun x1697 =>
  if x1697 = true then
   if a0.Subs.length < 1 then
    some false
   else
    if 20 < a0.Subs.length then
     some false
    else
     (m56_l1 a0 (2 + 1) 0).bind fun r => match r with
     | .ret x => some x
     | .go _ =>
      (m56_l2 a0 (a0.Subs.length + 1) 0).bind fun r => match r with
      | .ret x => some x
      | .go _ =>
       some true
  else
   some false
def post56 (r : Bool) (v : Value) (fs : List Fact) : Prop := v = .bool r ∧ fs = []
theorem en56 : Enters Tryz.prog 56 := ⟨_, Tryz.func56, by kernel_rfl, rfl⟩
theorem f56_spec {a0 : D_api_Field} {s1695 : Value} {r : Bool} (hr : m56 a0 = some r) : Spec Tryz.prog 56 [.agg #[str a0.Tag, .int .u8 (a0.Ind_0.toNat : Int), .int .u8 (a0.Ind_1.toNat : Int), s1695]] [(ty69.fact a0 [str a0.Tag, .int .u8 (a0.Ind_0.toNat : Int), .int .u8 (a0.Ind_1.toNat : Int), s1695])] (post56 r) := by
 refine spec_start (N := 63) Tryz.func56 (by kernel_rfl) rfl rfl rfl ?_
 intro g hS
 unfold m56 at hr
 refine at_open (A := Unit) 0 rfl (fun _ => True) (fun _ => [(Ty.str.fact a0.Tag [str a0.Tag]), ((Ty.slice ty66).fact a0.Subs [s1695])]) (fun F w h => ⟨(), trivial, ex69 h⟩) (fun _ _ => ?_)
 refine s_sr ?_
 refine at_hv rfl ?_
 refine hv_box (cs := [str a0.Tag, .int .u8 (a0.Ind_0.toNat : Int), .int .u8 (a0.Ind_1.toNat : Int), s1695]) rfl rfl rfl (fun b1696 => ?_)
 refine s_as rfl ?_
 refine s_nt ?_
 refine at_seq ?_
 refine s_sr ?_
 refine at_lt (lt_fieldAddr 0 rfl fld69_0 rfl) rfl ?_
 refine at_lt (lt_load_box 0 rfl ti9 rfl rfl rfl rfl rfl) rfl ?_
 replace hr := obind hr
 obtain ⟨x1697, h1698, hr⟩ := hr
 refine at_hv rfl ?_
 refine hv_call0 [0] (f87_spec h1698) rfl rfl rfl rfl ?_
 rintro _ _ ⟨rfl, rfl⟩
 refine at_lt (lt_not rfl) rfl ?_
 refine s_mv rfl ?_
 by_cases h1699 : x1697 = true
 ·replace hr := ipos h1699 hr
  refine at_on rfl rfl (nt h1699) ?_
  refine at_lt (lt_fieldAddr 3 rfl fld69_2 rfl) rfl ?_
  refine at_on rfl rfl (nt h1699) ?_
  refine at_lt (lt_load_box 0 rfl ti67 rfl rfl rfl rfl rfl) rfl ?_
  refine at_inv 1 rfl (fun i1700 => ?_)
  have l1701 := slice_len i1700
  refine at_on rfl rfl (nt h1699) ?_
  refine at_lt (lt_flen 1 rfl rfl und67) rfl ?_
  refine at_on rfl rfl (nt h1699) ?_
  refine at_lt (lt_lss rfl rfl) rfl ?_
  refine at_lt (lt_pick false rfl (nt h1699) rfl) rfl ?_
  refine s_mv rfl ?_
  by_cases h1702 : a0.Subs.length < 1
  ·replace hr := ipos h1702 hr
   refine at_off rfl rfl (decide_eq_true (by omega)) rfl ?_
   refine at_off rfl rfl (decide_eq_true (by omega)) rfl ?_
   refine at_off rfl rfl (decide_eq_true (by omega)) rfl ?_
   refine at_off rfl rfl (decide_eq_true (by omega)) rfl ?_
   refine at_lt (lt_pick true rfl (decide_eq_true (by omega)) rfl) rfl ?_
   refine s_nt ?_
   refine at_true rfl rfl ?_
   refine s_sr ?_
   refine s_as rfl ?_
   refine s_nt ?_
   refine at_ret ?_
   have hq := oinj hr
   clear hr
   subst hq
   refine at_then_ret ?_
   exact at_return (.bool false) [] hS Tryz.results56 (.cons (.tmp rfl) .nil) rfl rfl ⟨rfl, rfl⟩
  replace hr := ineg h1702 hr
  refine at_on rfl rfl (decide_eq_false (by omega)) ?_
  refine at_lt (lt_fieldAddr 3 rfl fld69_2 rfl) rfl ?_
  refine at_on rfl rfl (decide_eq_false (by omega)) ?_
  refine at_lt (lt_load_box 0 rfl ti67 rfl rfl rfl rfl rfl) rfl ?_
  refine at_on rfl rfl (decide_eq_false (by omega)) ?_
  refine at_lt (lt_flen 1 rfl rfl und67) rfl ?_
  refine at_on rfl rfl (decide_eq_false (by omega)) ?_
  refine at_lt (lt_gtr rfl rfl) rfl ?_
  refine at_lt (lt_pick false rfl (decide_eq_false (by omega)) rfl) rfl ?_
  refine s_nt ?_
  by_cases h1703 : 20 < a0.Subs.length
  ·replace hr := ipos h1703 hr
   refine at_true rfl (decide_eq_true (by omega)) ?_
   refine s_sr ?_
   refine s_as rfl ?_
   refine s_nt ?_
   refine at_ret ?_
   have hq := oinj hr
   clear hr
   subst hq
   refine at_then_ret ?_
   exact at_return (.bool false) [] hS Tryz.results56 (.cons (.tmp rfl) .nil) rfl rfl ⟨rfl, rfl⟩
  replace hr := ineg h1703 hr
  refine at_false rfl (decide_eq_false (by omega)) ?_
  refine at_skip ?_
  refine at_then ?_
  refine at_seq ?_
  refine s_sr ?_
  refine s_as rfl ?_
  refine s_nt ?_
  refine at_int .i64 0 (by simp only [lo, hi]; omega) ?_
  replace hr := obind hr
  obtain ⟨r1705, hl1706, hk1707⟩ := hr
  refine at_cutP (V := (Unit) × (Unit)) (fun v => r1705 = Fl.go v.1) (fun v => (⟨[(1, .pointer (some (Addr.add ⟨b1696, 0, none⟩ 0)))], [⟨b1696, [str a0.Tag, .int .u8 (a0.Ind_0.toNat : Int), .int .u8 (a0.Ind_1.toNat : Int), s1695], 69⟩], [], [(Ty.str.fact a0.Tag [str a0.Tag]), ((Ty.slice ty66).fact a0.Subs [s1695])]⟩ : St)) ?_ ?_
  ·refine at_block ?_
   refine at_loopW (σ := Nat) (V := Unit) (r := r1705) (fun n s => m56_l1 a0 n s) (fun s e => (⟨[(1, .pointer (some (Addr.add ⟨b1696, 0, none⟩ 0))), (3, .int .i64 (s : Int))], [⟨b1696, [str a0.Tag, .int .u8 (a0.Ind_0.toNat : Int), .int .u8 (a0.Ind_1.toNat : Int), s1695], 69⟩], [], [((Ty.int .i64).fact (s : Int) [.int .i64 (s : Int)]), (Ty.str.fact a0.Tag [str a0.Tag]), ((Ty.slice ty66).fact a0.Subs [s1695])]⟩ : St)) (fun _ => rfl) _ 0 () hl1706 ⟨⟨rfl, ⟨rfl, trivial⟩⟩, ⟨[true], rfl⟩, ⟨[], rfl⟩, ⟨[0, 1, 2], rfl⟩⟩ ?_
   clear hl1706
   intro n x1704 hr e
   skip
   skip
   change m56_l1 a0 (n + 1) x1704 = some r1705 at hr
   change At _ _ (⟨[(1, .pointer (some (Addr.add ⟨b1696, 0, none⟩ 0))), (3, .int .i64 (x1704 : Int))], [⟨b1696, [str a0.Tag, .int .u8 (a0.Ind_0.toNat : Int), .int .u8 (a0.Ind_1.toNat : Int), s1695], 69⟩], [], [((Ty.int .i64).fact (x1704 : Int) [.int .i64 (x1704 : Int)]), (Ty.str.fact a0.Tag [str a0.Tag]), ((Ty.slice ty66).fact a0.Subs [s1695])]⟩ : St) _
   rw [m56_l1] at hr
   refine at_seq ?_
   refine s_sr ?_
   refine s_mv rfl ?_
   refine at_lt (lt_lss rfl rfl) rfl ?_
   refine s_nt ?_
   by_cases h1708 : x1704 < 2
   ·replace hr := ipos h1708 hr
    refine at_true rfl (decide_eq_true (by omega)) ?_
    refine at_skip ?_
    refine at_then ?_
    refine at_seq ?_
    refine at_block ?_
    refine at_seq ?_
    replace hr := obind hr
    obtain ⟨x1709, hc1710, hr⟩ := hr
    refine at_cut (V := Unit) (fun e => (⟨[(1, .pointer (some (Addr.add ⟨b1696, 0, none⟩ 0))), (3, .int .i64 (x1704 : Int)), (37, .bool x1709)], [⟨b1696, [str a0.Tag, .int .u8 (a0.Ind_0.toNat : Int), .int .u8 (a0.Ind_1.toNat : Int), s1695], 69⟩], [], [((Ty.int .i64).fact (x1704 : Int) [.int .i64 (x1704 : Int)]), (Ty.str.fact a0.Tag [str a0.Tag]), ((Ty.slice ty66).fact a0.Subs [s1695])]⟩ : St)) ?_ ?_
    ·clear hr
     have hr := hc1710
     clear hc1710
     refine at_region ?_
     refine s_mv rfl ?_
     refine at_lt (lt_fieldAddr 1 rfl fld69_1 rfl) rfl ?_
     by_cases h1711 : x1704 = 0
     ·replace hr := ipos h1711 hr
      refine at_lt (lt_aidx 0 rfl rfl (by omega) rfl und64 ti5 rfl) rfl ?_
      refine at_lt (lt_load_box 0 rfl ti5 rfl rfl rfl rfl rfl) rfl ?_
      refine at_lt (lt_neq rfl rfl) rfl ?_
      refine s_mv rfl ?_
      by_cases h1712 : a0.Ind_0.toNat = 32
      ·replace hr := ipos h1712 hr
       refine at_off rfl rfl (nt (decide_eq_true (by omega))) rfl ?_
       refine at_off rfl rfl (nt (decide_eq_true (by omega))) rfl ?_
       refine at_off rfl rfl (nt (decide_eq_true (by omega))) rfl ?_
       refine at_off rfl rfl (nt (decide_eq_true (by omega))) rfl ?_
       refine at_off rfl rfl (nt (decide_eq_true (by omega))) rfl ?_
       refine at_off rfl rfl (nt (decide_eq_true (by omega))) rfl ?_
       refine at_lt (lt_pick false rfl (nt (decide_eq_true (by omega))) rfl) rfl ?_
       refine at_nil ?_
       have hq := oinj hr
       clear hr
       subst hq
       exact at_leaf () ⟨⟨rfl, ⟨rfl, ⟨rfl, trivial⟩⟩⟩, ⟨[true], rfl⟩, ⟨[], rfl⟩, ⟨[0, 1, 2], rfl⟩⟩
      replace hr := ineg h1712 hr
      refine at_on rfl rfl (nf (decide_eq_false (by omega))) ?_
      refine s_mv rfl ?_
      refine at_on rfl rfl (nf (decide_eq_false (by omega))) ?_
      refine at_lt (lt_fieldAddr 1 rfl fld69_1 rfl) rfl ?_
      refine at_on rfl rfl (nf (decide_eq_false (by omega))) ?_
      refine at_lt (lt_aidx 0 rfl rfl (by omega) rfl und64 ti5 rfl) rfl ?_
      refine at_on rfl rfl (nf (decide_eq_false (by omega))) ?_
      refine at_lt (lt_load_box 0 rfl ti5 rfl rfl rfl rfl rfl) rfl ?_
      replace hr := obind hr
      obtain ⟨x1713, h1714, hr⟩ := hr
      refine at_on rfl rfl (nf (decide_eq_false (by omega))) ?_
      refine at_hv rfl ?_
      refine hv_call0 [] (f89_spec h1714) rfl rfl rfl rfl ?_
      rintro _ _ ⟨rfl, rfl⟩
      refine at_on rfl rfl (nf (decide_eq_false (by omega))) ?_
      refine at_lt (lt_not rfl) rfl ?_
      refine at_lt (lt_pick true rfl (nf (decide_eq_false (by omega))) rfl) rfl ?_
      refine at_nil ?_
      have hq := oinj hr
      clear hr
      subst hq
      exact at_leaf () ⟨⟨rfl, ⟨rfl, ⟨rfl, trivial⟩⟩⟩, ⟨[true], rfl⟩, ⟨[], rfl⟩, ⟨[0, 1, 2], rfl⟩⟩
     replace hr := ineg h1711 hr
     by_cases h1715 : x1704 = 1
     ·replace hr := ipos h1715 hr
      refine at_lt (lt_aidx 1 rfl rfl (by omega) rfl und64 ti5 rfl) rfl ?_
      refine at_lt (lt_load_box 0 rfl ti5 rfl rfl rfl rfl rfl) rfl ?_
      refine at_lt (lt_neq rfl rfl) rfl ?_
      refine s_mv rfl ?_
      by_cases h1716 : a0.Ind_1.toNat = 32
      ·replace hr := ipos h1716 hr
       refine at_off rfl rfl (nt (decide_eq_true (by omega))) rfl ?_
       refine at_off rfl rfl (nt (decide_eq_true (by omega))) rfl ?_
       refine at_off rfl rfl (nt (decide_eq_true (by omega))) rfl ?_
       refine at_off rfl rfl (nt (decide_eq_true (by omega))) rfl ?_
       refine at_off rfl rfl (nt (decide_eq_true (by omega))) rfl ?_
       refine at_off rfl rfl (nt (decide_eq_true (by omega))) rfl ?_
       refine at_lt (lt_pick false rfl (nt (decide_eq_true (by omega))) rfl) rfl ?_
       refine at_nil ?_
       have hq := oinj hr
       clear hr
       subst hq
       exact at_leaf () ⟨⟨rfl, ⟨rfl, ⟨rfl, trivial⟩⟩⟩, ⟨[true], rfl⟩, ⟨[], rfl⟩, ⟨[0, 1, 2], rfl⟩⟩
      replace hr := ineg h1716 hr
      refine at_on rfl rfl (nf (decide_eq_false (by omega))) ?_
      refine s_mv rfl ?_
      refine at_on rfl rfl (nf (decide_eq_false (by omega))) ?_
      refine at_lt (lt_fieldAddr 1 rfl fld69_1 rfl) rfl ?_
      refine at_on rfl rfl (nf (decide_eq_false (by omega))) ?_
      refine at_lt (lt_aidx 1 rfl rfl (by omega) rfl und64 ti5 rfl) rfl ?_
      refine at_on rfl rfl (nf (decide_eq_false (by omega))) ?_
      refine at_lt (lt_load_box 0 rfl ti5 rfl rfl rfl rfl rfl) rfl ?_
      replace hr := obind hr
      obtain ⟨x1717, h1718, hr⟩ := hr
      refine at_on rfl rfl (nf (decide_eq_false (by omega))) ?_
      refine at_hv rfl ?_
      refine hv_call0 [] (f89_spec h1718) rfl rfl rfl rfl ?_
      rintro _ _ ⟨rfl, rfl⟩
      refine at_on rfl rfl (nf (decide_eq_false (by omega))) ?_
      refine at_lt (lt_not rfl) rfl ?_
      refine at_lt (lt_pick true rfl (nf (decide_eq_false (by omega))) rfl) rfl ?_
      refine at_nil ?_
      have hq := oinj hr
      clear hr
      subst hq
      exact at_leaf () ⟨⟨rfl, ⟨rfl, ⟨rfl, trivial⟩⟩⟩, ⟨[true], rfl⟩, ⟨[], rfl⟩, ⟨[0, 1, 2], rfl⟩⟩
     replace hr := ineg h1715 hr
     cases hr
    clear hc1710
    intro _
    change At _ _ (⟨[(1, .pointer (some (Addr.add ⟨b1696, 0, none⟩ 0))), (3, .int .i64 (x1704 : Int)), (37, .bool x1709)], [⟨b1696, [str a0.Tag, .int .u8 (a0.Ind_0.toNat : Int), .int .u8 (a0.Ind_1.toNat : Int), s1695], 69⟩], [], [((Ty.int .i64).fact (x1704 : Int) [.int .i64 (x1704 : Int)]), (Ty.str.fact a0.Tag [str a0.Tag]), ((Ty.slice ty66).fact a0.Subs [s1695])]⟩ : St) _
    refine at_then ?_
    by_cases h1719 : x1709 = true
    ·replace hr := ipos h1719 hr
     refine at_true rfl h1719 ?_
     refine s_sr ?_
     refine s_as rfl ?_
     refine s_nt ?_
     refine at_ret ?_
     have hq := oinj hr
     clear hr
     subst hq
     have hq := oinj hk1707
     clear hk1707
     subst hq
     refine at_in_ret ?_
     refine at_then_ret ?_
     refine at_then_ret ?_
     refine at_in_ret ?_
     refine at_then_ret ?_
     refine at_then_ret ?_
     exact at_return (.bool false) [] hS Tryz.results56 (.cons (.tmp rfl) .nil) rfl rfl ⟨rfl, rfl⟩
    replace hr := ineg h1719 hr
    refine at_false rfl (bf h1719) ?_
    refine at_skip ?_
    refine at_in ?_
    refine s_tr ?_
    refine s_mv rfl ?_
    replace hr := imust hr
    obtain ⟨h1720, hr⟩ := hr
    refine at_lt (lt_add rfl rfl (by simp only [lo, hi]; omega)) rfl ?_
    refine s_as rfl ?_
    refine at_nil ?_
    refine at_int .i64 (x1704 + 1 : Int) (by simp only [lo, hi]; omega) ?_
    exact at_again (σ := Nat) (V := Unit) (lp := fun n s => m56_l1 a0 n s) (S := fun s e => (⟨[(1, .pointer (some (Addr.add ⟨b1696, 0, none⟩ 0))), (3, .int .i64 (s : Int))], [⟨b1696, [str a0.Tag, .int .u8 (a0.Ind_0.toNat : Int), .int .u8 (a0.Ind_1.toNat : Int), s1695], 69⟩], [], [((Ty.int .i64).fact (s : Int) [.int .i64 (s : Int)]), (Ty.str.fact a0.Tag [str a0.Tag]), ((Ty.slice ty66).fact a0.Subs [s1695])]⟩ : St)) (x1704 + 1) () hr ⟨⟨rfl, ⟨rfl, trivial⟩⟩, ⟨[true], rfl⟩, ⟨[], rfl⟩, ⟨[0, 2, 3], rfl⟩⟩
   replace hr := ineg h1708 hr
   refine at_false rfl (decide_eq_false (by omega)) ?_
   refine at_exit ?_
   refine at_then_exit ?_
   refine at_then_exit ?_
   refine at_in_exit ?_
   have hq := oinj hr
   clear hr
   subst hq
   exact at_leafP ((), ()) rfl ⟨⟨rfl, trivial⟩, ⟨[true], rfl⟩, ⟨[], rfl⟩, ⟨[1, 2], rfl⟩⟩
  rintro ⟨_, _⟩ hp
  replace hr := hk1707
  subst hp
  clear hl1706
  change At _ _ (⟨[(1, .pointer (some (Addr.add ⟨b1696, 0, none⟩ 0)))], [⟨b1696, [str a0.Tag, .int .u8 (a0.Ind_0.toNat : Int), .int .u8 (a0.Ind_1.toNat : Int), s1695], 69⟩], [], [(Ty.str.fact a0.Tag [str a0.Tag]), ((Ty.slice ty66).fact a0.Subs [s1695])]⟩ : St) _
  refine at_then ?_
  refine at_seq ?_
  refine s_sr ?_
  refine s_as rfl ?_
  refine s_nt ?_
  refine at_int .i64 0 (by simp only [lo, hi]; omega) ?_
  replace hr := obind hr
  obtain ⟨r1722, hl1723, hk1724⟩ := hr
  refine at_cutP (V := (Unit) × (Unit)) (fun v => r1722 = Fl.go v.1) (fun v => (⟨[], [], [], []⟩ : St)) ?_ ?_
  ·refine at_block ?_
   refine at_loopW (σ := Nat) (V := Unit) (r := r1722) (fun n s => m56_l2 a0 n s) (fun s e => (⟨[(1, .pointer (some (Addr.add ⟨b1696, 0, none⟩ 0))), (4, .int .i64 (s : Int))], [⟨b1696, [str a0.Tag, .int .u8 (a0.Ind_0.toNat : Int), .int .u8 (a0.Ind_1.toNat : Int), s1695], 69⟩], [], [((Ty.int .i64).fact (s : Int) [.int .i64 (s : Int)]), (Ty.str.fact a0.Tag [str a0.Tag]), ((Ty.slice ty66).fact a0.Subs [s1695])]⟩ : St)) (fun _ => rfl) _ 0 () hl1723 ⟨⟨rfl, ⟨rfl, trivial⟩⟩, ⟨[true], rfl⟩, ⟨[], rfl⟩, ⟨[0, 1, 2], rfl⟩⟩ ?_
   clear hl1723
   intro n x1721 hr e
   skip
   skip
   change m56_l2 a0 (n + 1) x1721 = some r1722 at hr
   change At _ _ (⟨[(1, .pointer (some (Addr.add ⟨b1696, 0, none⟩ 0))), (4, .int .i64 (x1721 : Int))], [⟨b1696, [str a0.Tag, .int .u8 (a0.Ind_0.toNat : Int), .int .u8 (a0.Ind_1.toNat : Int), s1695], 69⟩], [], [((Ty.int .i64).fact (x1721 : Int) [.int .i64 (x1721 : Int)]), (Ty.str.fact a0.Tag [str a0.Tag]), ((Ty.slice ty66).fact a0.Subs [s1695])]⟩ : St) _
   rw [m56_l2] at hr
   refine at_seq ?_
   refine s_sr ?_
   refine s_mv rfl ?_
   refine at_lt (lt_fieldAddr 3 rfl fld69_2 rfl) rfl ?_
   refine at_lt (lt_load_box 0 rfl ti67 rfl rfl rfl rfl rfl) rfl ?_
   refine at_lt (lt_flen 2 rfl rfl und67) rfl ?_
   refine at_lt (lt_lss rfl rfl) rfl ?_
   refine s_nt ?_
   by_cases h1725 : x1721 < a0.Subs.length
   ·replace hr := ipos h1725 hr
    refine at_true rfl (decide_eq_true (by omega)) ?_
    refine at_skip ?_
    refine at_then ?_
    refine at_seq ?_
    refine at_block ?_
    refine s_sr ?_
    refine at_lt (lt_fieldAddr 3 rfl fld69_2 rfl) rfl ?_
    refine at_lt (lt_load_box 0 rfl ti67 rfl rfl rfl rfl rfl) rfl ?_
    refine s_mv rfl ?_
    replace hr := obind hr
    obtain ⟨x1726, h1727, hr⟩ := hr
    have := (List.getElem?_eq_some_iff.1 h1727).1
    refine at_elem 2 rfl (nat_at' h1727) (fun p1728 ec pa1729 => ?_)
    refine at_open (A := Unit) 0 rfl _ _ (fun F w h => op66 h) ?_
    rintro _ rfl
    refine at_lt (lt_idx rfl rfl pa1729 und67 ti66) rfl ?_
    refine at_lt (lt_fieldAddr 0 rfl fld66_0 rfl) rfl ?_
    refine at_lt (lt_load_peek 2 rfl ti5 rfl rfl rfl rfl rfl) rfl ?_
    replace hr := obind hr
    obtain ⟨x1730, h1731, hr⟩ := hr
    refine at_hv rfl ?_
    refine hv_call0 [] (f89_spec h1731) rfl rfl rfl rfl ?_
    rintro _ _ ⟨rfl, rfl⟩
    refine at_lt (lt_not rfl) rfl ?_
    refine s_mv rfl ?_
    by_cases h1732 : x1730 = true
    ·replace hr := ipos h1732 hr
     refine at_on rfl rfl (nt h1732) ?_
     refine at_lt (lt_fieldAddr 3 rfl fld69_2 rfl) rfl ?_
     refine at_on rfl rfl (nt h1732) ?_
     refine at_lt (lt_load_box 0 rfl ti67 rfl rfl rfl rfl rfl) rfl ?_
     refine at_on rfl rfl (nt h1732) ?_
     refine s_mv rfl ?_
     replace hr := obind hr
     obtain ⟨x1733, h1734, hr⟩ := hr
     have := (List.getElem?_eq_some_iff.1 h1734).1
     refine at_elem 5 rfl (nat_at' h1734) (fun p1735 ec pa1736 => ?_)
     refine at_open (A := Unit) 0 rfl _ _ (fun F w h => op66 h) ?_
     rintro _ rfl
     refine at_on rfl rfl (nt h1732) ?_
     refine at_lt (lt_idx rfl rfl pa1736 und67 ti66) rfl ?_
     refine at_on rfl rfl (nt h1732) ?_
     refine at_lt (lt_fieldAddr 1 rfl fld66_1 rfl) rfl ?_
     refine at_on rfl rfl (nt h1732) ?_
     refine at_lt (lt_load_peek 2 rfl ti9 rfl rfl rfl rfl rfl) rfl ?_
     replace hr := obind hr
     obtain ⟨x1737, h1738, hr⟩ := hr
     refine at_on rfl rfl (nt h1732) ?_
     refine at_hv rfl ?_
     refine hv_call0 [0] (f90_spec h1738) rfl rfl rfl rfl ?_
     rintro _ _ ⟨rfl, rfl⟩
     refine at_on rfl rfl (nt h1732) ?_
     refine at_lt (lt_not rfl) rfl ?_
     refine at_lt (lt_pick false rfl (nt h1732) rfl) rfl ?_
     refine s_nt ?_
     by_cases h1739 : x1737 = true
     ·replace hr := ipos h1739 hr
      refine at_false rfl (nt h1739) ?_
      refine at_skip ?_
      refine at_in ?_
      refine s_tr ?_
      refine s_mv rfl ?_
      refine at_lt (lt_add rfl rfl (by simp only [lo, hi]; omega)) rfl ?_
      refine s_as rfl ?_
      refine at_nil ?_
      refine at_int .i64 (x1721 + 1 : Int) (by simp only [lo, hi]; omega) ?_
      exact at_again (σ := Nat) (V := Unit) (lp := fun n s => m56_l2 a0 n s) (S := fun s e => (⟨[(1, .pointer (some (Addr.add ⟨b1696, 0, none⟩ 0))), (4, .int .i64 (s : Int))], [⟨b1696, [str a0.Tag, .int .u8 (a0.Ind_0.toNat : Int), .int .u8 (a0.Ind_1.toNat : Int), s1695], 69⟩], [], [((Ty.int .i64).fact (s : Int) [.int .i64 (s : Int)]), (Ty.str.fact a0.Tag [str a0.Tag]), ((Ty.slice ty66).fact a0.Subs [s1695])]⟩ : St)) (x1721 + 1) () hr ⟨⟨rfl, ⟨rfl, trivial⟩⟩, ⟨[true], rfl⟩, ⟨[], rfl⟩, ⟨[0, 8, 9], rfl⟩⟩
     replace hr := ineg h1739 hr
     refine at_true rfl (nf (bf h1739)) ?_
     refine s_sr ?_
     refine s_as rfl ?_
     refine s_nt ?_
     refine at_ret ?_
     have hq := oinj hr
     clear hr
     subst hq
     have hq := oinj hk1724
     clear hk1724
     subst hq
     refine at_in_ret ?_
     refine at_then_ret ?_
     refine at_then_ret ?_
     refine at_in_ret ?_
     refine at_then_ret ?_
     refine at_then_ret ?_
     exact at_return (.bool false) [] hS Tryz.results56 (.cons (.tmp rfl) .nil) rfl rfl ⟨rfl, rfl⟩
    replace hr := ineg h1732 hr
    refine at_off rfl rfl (nf (bf h1732)) rfl ?_
    refine at_off rfl rfl (nf (bf h1732)) rfl ?_
    refine at_off rfl rfl (nf (bf h1732)) rfl ?_
    refine at_off rfl rfl (nf (bf h1732)) rfl ?_
    refine at_off rfl rfl (nf (bf h1732)) rfl ?_
    refine at_off rfl rfl (nf (bf h1732)) rfl ?_
    refine at_off rfl rfl (nf (bf h1732)) rfl ?_
    refine at_off rfl rfl (nf (bf h1732)) rfl ?_
    refine at_lt (lt_pick true rfl (nf (bf h1732)) rfl) rfl ?_
    refine s_nt ?_
    refine at_true rfl rfl ?_
    refine s_sr ?_
    refine s_as rfl ?_
    refine s_nt ?_
    refine at_ret ?_
    have hq := oinj hr
    clear hr
    subst hq
    have hq := oinj hk1724
    clear hk1724
    subst hq
    refine at_in_ret ?_
    refine at_then_ret ?_
    refine at_then_ret ?_
    refine at_in_ret ?_
    refine at_then_ret ?_
    refine at_then_ret ?_
    exact at_return (.bool false) [] hS Tryz.results56 (.cons (.tmp rfl) .nil) rfl rfl ⟨rfl, rfl⟩
   replace hr := ineg h1725 hr
   refine at_false rfl (decide_eq_false (by omega)) ?_
   refine at_exit ?_
   refine at_then_exit ?_
   refine at_then_exit ?_
   refine at_in_exit ?_
   have hq := oinj hr
   clear hr
   subst hq
   exact at_leafP ((), ()) rfl ⟨trivial, ⟨[false], rfl⟩, ⟨[], rfl⟩, ⟨[], rfl⟩⟩
  rintro ⟨_, _⟩ hp
  replace hr := hk1724
  subst hp
  clear hl1723
  change At _ _ (⟨[], [], [], []⟩ : St) _
  refine s_tsr ?_
  refine s_as rfl ?_
  refine s_nt ?_
  refine at_ret ?_
  have hq := oinj hr
  clear hr
  subst hq
  exact at_return (.bool true) [] hS Tryz.results56 (.cons (.tmp rfl) .nil) rfl rfl ⟨rfl, rfl⟩
 replace hr := ineg h1699 hr
 refine at_off rfl rfl (nf (bf h1699)) rfl ?_
 refine at_off rfl rfl (nf (bf h1699)) rfl ?_
 refine at_off rfl rfl (nf (bf h1699)) rfl ?_
 refine at_off rfl rfl (nf (bf h1699)) rfl ?_
 refine at_lt (lt_pick true rfl (nf (bf h1699)) rfl) rfl ?_
 refine s_mv rfl ?_
 refine at_off rfl rfl rfl rfl ?_
 refine at_off rfl rfl rfl rfl ?_
 refine at_off rfl rfl rfl rfl ?_
 refine at_off rfl rfl rfl rfl ?_
 refine at_lt (lt_pick true rfl rfl rfl) rfl ?_
 refine s_nt ?_
 refine at_true rfl rfl ?_
 refine s_sr ?_
 refine s_as rfl ?_
 refine s_nt ?_
 refine at_ret ?_
 have hq := oinj hr
 clear hr
 subst hq
 refine at_then_ret ?_
 exact at_return (.bool false) [] hS Tryz.results56 (.cons (.tmp rfl) .nil) rfl rfl ⟨rfl, rfl⟩
/-! 25 bookplate/bookplateref12.Valid -/
def m25_l1 (a0 : D_api_Record) : Nat → Nat → Option (Fl Bool Unit)
  | 0, _ => none
  | k + 1, x1749 =>
    if x1749 < a0.Fields.length then
     (a0.Fields[x1749]?).bind fun x1754 =>
     (m56 x1754).bind fun x1759 =>
     if x1759 = true then
      m25_l1 a0 k (x1749 + 1)
     else
      some (Fl.ret false)
    else
     some (Fl.go ())
def m25 (a0 : D_api_Record) : Option Bool :=
  if a0.ID < 1 then
   some false
  else
   if (1000000000 : Int) < a0.ID then
    some false
   else
    if a0.Fields.length < 1 then
     some false
    else
     if 60 < a0.Fields.length then
      some false
     else
      (m25_l1 a0 (a0.Fields.length + 1) 0).bind fun r => match r with
      | .ret x => some x
      | .go _ =>
       some true
def post25 (r : Bool) (v : Value) (fs : List Fact) : Prop := v = .bool r ∧ fs = []
theorem en25 : Enters Tryz.prog 25 := ⟨_, Tryz.func25, by kernel_rfl, rfl⟩
theorem f25_spec {a0 : D_api_Record} {s1740 : Value} {r : Bool} (hr : m25 a0 = some r) : Spec Tryz.prog 25 [.agg #[.int .i64 a0.ID, s1740]] [(ty25.fact a0 [.int .i64 a0.ID, s1740])] (post25 r) := by
 refine spec_start (N := 38) Tryz.func25 (by kernel_rfl) rfl rfl rfl ?_
 intro g hS
 unfold m25 at hr
 refine at_open (A := Unit) 0 rfl (fun _ => True) (fun _ => [((Ty.int .i64).fact a0.ID [.int .i64 a0.ID]), ((Ty.slice ty69).fact a0.Fields [s1740])]) (fun F w h => ⟨(), trivial, ex25 h⟩) (fun _ _ => ?_)
 refine at_inv 0 rfl (fun l1741 => ?_)
 replace l1741 : (-9223372036854775808) ≤ a0.ID ∧ a0.ID ≤ 9223372036854775807 := l1741
 refine s_sr ?_
 refine at_hv rfl ?_
 refine hv_box (cs := [.int .i64 a0.ID, s1740]) rfl rfl rfl (fun b1742 => ?_)
 refine s_as rfl ?_
 refine s_nt ?_
 refine at_seq ?_
 refine s_sr ?_
 refine at_lt (lt_fieldAddr 0 rfl fld25_0 rfl) rfl ?_
 refine at_lt (lt_load_box 0 rfl ti3 rfl rfl rfl rfl rfl) rfl ?_
 refine at_lt (lt_lss rfl rfl) rfl ?_
 refine s_mv rfl ?_
 by_cases h1743 : a0.ID < 1
 ·replace hr := ipos h1743 hr
  refine at_off rfl rfl (decide_eq_true (by first | exact h1743 | omega)) rfl ?_
  refine at_off rfl rfl (decide_eq_true (by first | exact h1743 | omega)) rfl ?_
  refine at_off rfl rfl (decide_eq_true (by first | exact h1743 | omega)) rfl ?_
  refine at_lt (lt_pick true rfl (decide_eq_true (by first | exact h1743 | omega)) rfl) rfl ?_
  refine s_mv rfl ?_
  refine at_off rfl rfl rfl rfl ?_
  refine at_off rfl rfl rfl rfl ?_
  refine at_off rfl rfl rfl rfl ?_
  refine at_off rfl rfl rfl rfl ?_
  refine at_lt (lt_pick true rfl rfl rfl) rfl ?_
  refine s_mv rfl ?_
  refine at_off rfl rfl rfl rfl ?_
  refine at_off rfl rfl rfl rfl ?_
  refine at_off rfl rfl rfl rfl ?_
  refine at_off rfl rfl rfl rfl ?_
  refine at_lt (lt_pick true rfl rfl rfl) rfl ?_
  refine s_nt ?_
  refine at_true rfl rfl ?_
  refine s_sr ?_
  refine s_as rfl ?_
  refine s_nt ?_
  refine at_ret ?_
  have hq := oinj hr
  clear hr
  subst hq
  refine at_then_ret ?_
  exact at_return (.bool false) [] hS Tryz.results25 (.cons (.tmp rfl) .nil) rfl rfl ⟨rfl, rfl⟩
 replace hr := ineg h1743 hr
 refine at_on rfl rfl (decide_eq_false (by first | exact h1743 | omega)) ?_
 refine at_lt (lt_fieldAddr 0 rfl fld25_0 rfl) rfl ?_
 refine at_on rfl rfl (decide_eq_false (by first | exact h1743 | omega)) ?_
 refine at_lt (lt_load_box 0 rfl ti3 rfl rfl rfl rfl rfl) rfl ?_
 refine at_on rfl rfl (decide_eq_false (by first | exact h1743 | omega)) ?_
 refine at_lt (lt_gtr rfl rfl) rfl ?_
 refine at_lt (lt_pick false rfl (decide_eq_false (by first | exact h1743 | omega)) rfl) rfl ?_
 refine s_mv rfl ?_
 by_cases h1744 : (1000000000 : Int) < a0.ID
 ·replace hr := ipos h1744 hr
  refine at_off rfl rfl (decide_eq_true (by first | exact h1744 | omega)) rfl ?_
  refine at_off rfl rfl (decide_eq_true (by first | exact h1744 | omega)) rfl ?_
  refine at_off rfl rfl (decide_eq_true (by first | exact h1744 | omega)) rfl ?_
  refine at_off rfl rfl (decide_eq_true (by first | exact h1744 | omega)) rfl ?_
  refine at_lt (lt_pick true rfl (decide_eq_true (by first | exact h1744 | omega)) rfl) rfl ?_
  refine s_mv rfl ?_
  refine at_off rfl rfl rfl rfl ?_
  refine at_off rfl rfl rfl rfl ?_
  refine at_off rfl rfl rfl rfl ?_
  refine at_off rfl rfl rfl rfl ?_
  refine at_lt (lt_pick true rfl rfl rfl) rfl ?_
  refine s_nt ?_
  refine at_true rfl rfl ?_
  refine s_sr ?_
  refine s_as rfl ?_
  refine s_nt ?_
  refine at_ret ?_
  have hq := oinj hr
  clear hr
  subst hq
  refine at_then_ret ?_
  exact at_return (.bool false) [] hS Tryz.results25 (.cons (.tmp rfl) .nil) rfl rfl ⟨rfl, rfl⟩
 replace hr := ineg h1744 hr
 refine at_on rfl rfl (decide_eq_false (by first | exact h1744 | omega)) ?_
 refine at_lt (lt_fieldAddr 1 rfl fld25_1 rfl) rfl ?_
 refine at_on rfl rfl (decide_eq_false (by first | exact h1744 | omega)) ?_
 refine at_lt (lt_load_box 0 rfl ti23 rfl rfl rfl rfl rfl) rfl ?_
 refine at_inv 1 rfl (fun i1745 => ?_)
 have l1746 := slice_len i1745
 refine at_on rfl rfl (decide_eq_false (by first | exact h1744 | omega)) ?_
 refine at_lt (lt_flen 1 rfl rfl und23) rfl ?_
 refine at_on rfl rfl (decide_eq_false (by first | exact h1744 | omega)) ?_
 refine at_lt (lt_lss rfl rfl) rfl ?_
 refine at_lt (lt_pick false rfl (decide_eq_false (by first | exact h1744 | omega)) rfl) rfl ?_
 refine s_mv rfl ?_
 by_cases h1747 : a0.Fields.length < 1
 ·replace hr := ipos h1747 hr
  refine at_off rfl rfl (decide_eq_true (by omega)) rfl ?_
  refine at_off rfl rfl (decide_eq_true (by omega)) rfl ?_
  refine at_off rfl rfl (decide_eq_true (by omega)) rfl ?_
  refine at_off rfl rfl (decide_eq_true (by omega)) rfl ?_
  refine at_lt (lt_pick true rfl (decide_eq_true (by omega)) rfl) rfl ?_
  refine s_nt ?_
  refine at_true rfl rfl ?_
  refine s_sr ?_
  refine s_as rfl ?_
  refine s_nt ?_
  refine at_ret ?_
  have hq := oinj hr
  clear hr
  subst hq
  refine at_then_ret ?_
  exact at_return (.bool false) [] hS Tryz.results25 (.cons (.tmp rfl) .nil) rfl rfl ⟨rfl, rfl⟩
 replace hr := ineg h1747 hr
 refine at_on rfl rfl (decide_eq_false (by omega)) ?_
 refine at_lt (lt_fieldAddr 1 rfl fld25_1 rfl) rfl ?_
 refine at_on rfl rfl (decide_eq_false (by omega)) ?_
 refine at_lt (lt_load_box 0 rfl ti23 rfl rfl rfl rfl rfl) rfl ?_
 refine at_on rfl rfl (decide_eq_false (by omega)) ?_
 refine at_lt (lt_flen 1 rfl rfl und23) rfl ?_
 refine at_on rfl rfl (decide_eq_false (by omega)) ?_
 refine at_lt (lt_gtr rfl rfl) rfl ?_
 refine at_lt (lt_pick false rfl (decide_eq_false (by omega)) rfl) rfl ?_
 refine s_nt ?_
 by_cases h1748 : 60 < a0.Fields.length
 ·replace hr := ipos h1748 hr
  refine at_true rfl (decide_eq_true (by omega)) ?_
  refine s_sr ?_
  refine s_as rfl ?_
  refine s_nt ?_
  refine at_ret ?_
  have hq := oinj hr
  clear hr
  subst hq
  refine at_then_ret ?_
  exact at_return (.bool false) [] hS Tryz.results25 (.cons (.tmp rfl) .nil) rfl rfl ⟨rfl, rfl⟩
 replace hr := ineg h1748 hr
 refine at_false rfl (decide_eq_false (by omega)) ?_
 refine at_skip ?_
 refine at_then ?_
 refine at_seq ?_
 refine s_sr ?_
 refine s_as rfl ?_
 refine s_nt ?_
 refine at_int .i64 0 (by simp only [lo, hi]; omega) ?_
 replace hr := obind hr
 obtain ⟨r1750, hl1751, hk1752⟩ := hr
 refine at_cutP (V := (Unit) × (Unit)) (fun v => r1750 = Fl.go v.1) (fun v => (⟨[], [], [], []⟩ : St)) ?_ ?_
 ·refine at_block ?_
  refine at_loopW (σ := Nat) (V := Unit) (r := r1750) (fun n s => m25_l1 a0 n s) (fun s e => (⟨[(1, .pointer (some (Addr.add ⟨b1742, 0, none⟩ 0))), (3, .int .i64 (s : Int))], [⟨b1742, [.int .i64 a0.ID, s1740], 25⟩], [], [((Ty.int .i64).fact (s : Int) [.int .i64 (s : Int)]), ((Ty.int .i64).fact a0.ID [.int .i64 a0.ID]), ((Ty.slice ty69).fact a0.Fields [s1740])]⟩ : St)) (fun _ => rfl) _ 0 () hl1751 ⟨⟨rfl, ⟨rfl, trivial⟩⟩, ⟨[true], rfl⟩, ⟨[], rfl⟩, ⟨[0, 1, 2], rfl⟩⟩ ?_
  clear hl1751
  intro n x1749 hr e
  skip
  skip
  change m25_l1 a0 (n + 1) x1749 = some r1750 at hr
  change At _ _ (⟨[(1, .pointer (some (Addr.add ⟨b1742, 0, none⟩ 0))), (3, .int .i64 (x1749 : Int))], [⟨b1742, [.int .i64 a0.ID, s1740], 25⟩], [], [((Ty.int .i64).fact (x1749 : Int) [.int .i64 (x1749 : Int)]), ((Ty.int .i64).fact a0.ID [.int .i64 a0.ID]), ((Ty.slice ty69).fact a0.Fields [s1740])]⟩ : St) _
  rw [m25_l1] at hr
  refine at_seq ?_
  refine s_sr ?_
  refine s_mv rfl ?_
  refine at_lt (lt_fieldAddr 1 rfl fld25_1 rfl) rfl ?_
  refine at_lt (lt_load_box 0 rfl ti23 rfl rfl rfl rfl rfl) rfl ?_
  refine at_lt (lt_flen 2 rfl rfl und23) rfl ?_
  refine at_lt (lt_lss rfl rfl) rfl ?_
  refine s_nt ?_
  by_cases h1753 : x1749 < a0.Fields.length
  ·replace hr := ipos h1753 hr
   refine at_true rfl (decide_eq_true (by omega)) ?_
   refine at_skip ?_
   refine at_then ?_
   refine at_seq ?_
   refine at_block ?_
   refine s_sr ?_
   refine at_lt (lt_fieldAddr 1 rfl fld25_1 rfl) rfl ?_
   refine at_lt (lt_load_box 0 rfl ti23 rfl rfl rfl rfl rfl) rfl ?_
   refine s_mv rfl ?_
   replace hr := obind hr
   obtain ⟨x1754, h1755, hr⟩ := hr
   have := (List.getElem?_eq_some_iff.1 h1755).1
   refine at_elem 2 rfl (nat_at' h1755) (fun p1757 ec pa1758 => ?_)
   refine at_open (A := Value) 0 rfl _ _ (fun F w h => op69 h) ?_
   rintro s1756 rfl
   refine at_lt (lt_idx rfl rfl pa1758 und23 ti69) rfl ?_
   refine at_lt (lt_load_peek 3 rfl ti69 rfl rfl rfl rfl rfl) rfl ?_
   replace hr := obind hr
   obtain ⟨x1759, h1760, hr⟩ := hr
   refine at_hv rfl ?_
   refine hv_call0 [2] (f56_spec h1760) rfl rfl rfl rfl ?_
   rintro _ _ ⟨rfl, rfl⟩
   refine at_lt (lt_not rfl) rfl ?_
   refine s_nt ?_
   by_cases h1761 : x1759 = true
   ·replace hr := ipos h1761 hr
    refine at_false rfl (nt h1761) ?_
    refine at_skip ?_
    refine at_in ?_
    refine s_tr ?_
    refine s_mv rfl ?_
    refine at_lt (lt_add rfl rfl (by simp only [lo, hi]; omega)) rfl ?_
    refine s_as rfl ?_
    refine at_nil ?_
    refine at_int .i64 (x1749 + 1 : Int) (by simp only [lo, hi]; omega) ?_
    exact at_again (σ := Nat) (V := Unit) (lp := fun n s => m25_l1 a0 n s) (S := fun s e => (⟨[(1, .pointer (some (Addr.add ⟨b1742, 0, none⟩ 0))), (3, .int .i64 (s : Int))], [⟨b1742, [.int .i64 a0.ID, s1740], 25⟩], [], [((Ty.int .i64).fact (s : Int) [.int .i64 (s : Int)]), ((Ty.int .i64).fact a0.ID [.int .i64 a0.ID]), ((Ty.slice ty69).fact a0.Fields [s1740])]⟩ : St)) (x1749 + 1) () hr ⟨⟨rfl, ⟨rfl, trivial⟩⟩, ⟨[true], rfl⟩, ⟨[], rfl⟩, ⟨[0, 6, 7], rfl⟩⟩
   replace hr := ineg h1761 hr
   refine at_true rfl (nf (bf h1761)) ?_
   refine s_sr ?_
   refine s_as rfl ?_
   refine s_nt ?_
   refine at_ret ?_
   have hq := oinj hr
   clear hr
   subst hq
   have hq := oinj hk1752
   clear hk1752
   subst hq
   refine at_in_ret ?_
   refine at_then_ret ?_
   refine at_then_ret ?_
   refine at_in_ret ?_
   refine at_then_ret ?_
   refine at_then_ret ?_
   exact at_return (.bool false) [] hS Tryz.results25 (.cons (.tmp rfl) .nil) rfl rfl ⟨rfl, rfl⟩
  replace hr := ineg h1753 hr
  refine at_false rfl (decide_eq_false (by omega)) ?_
  refine at_exit ?_
  refine at_then_exit ?_
  refine at_then_exit ?_
  refine at_in_exit ?_
  have hq := oinj hr
  clear hr
  subst hq
  exact at_leafP ((), ()) rfl ⟨trivial, ⟨[false], rfl⟩, ⟨[], rfl⟩, ⟨[], rfl⟩⟩
 rintro ⟨_, _⟩ hp
 replace hr := hk1752
 subst hp
 clear hl1751
 change At _ _ (⟨[], [], [], []⟩ : St) _
 refine s_tsr ?_
 refine s_as rfl ?_
 refine s_nt ?_
 refine at_ret ?_
 have hq := oinj hr
 clear hr
 subst hq
 exact at_return (.bool true) [] hS Tryz.results25 (.cons (.tmp rfl) .nil) rfl rfl ⟨rfl, rfl⟩
/-! 109 bookplate/bookplateref12.CopyField -/
def m109 (a0 : D_api_Field) : Option D_api_Field :=
  if a0.Subs.length ≤ 5864062014805 then
   some (⟨a0.Tag, a0.Ind_0, a0.Ind_1, [] ++ a0.Subs⟩ : D_api_Field)
  else none
def post109 (r : D_api_Field) (v : Value) (fs : List Fact) : Prop := ∃ s1771 : Value, v = .agg #[str r.Tag, .int .u8 (r.Ind_0.toNat : Int), .int .u8 (r.Ind_1.toNat : Int), s1771] ∧ fs = [(ty69.fact r [str r.Tag, .int .u8 (r.Ind_0.toNat : Int), .int .u8 (r.Ind_1.toNat : Int), s1771])]
theorem en109 : Enters Tryz.prog 109 := ⟨_, Tryz.func109, by kernel_rfl, rfl⟩
theorem f109_spec {a0 : D_api_Field} {s1762 : Value} {r : D_api_Field} (hr : m109 a0 = some r) : Spec Tryz.prog 109 [.agg #[str a0.Tag, .int .u8 (a0.Ind_0.toNat : Int), .int .u8 (a0.Ind_1.toNat : Int), s1762]] [(ty69.fact a0 [str a0.Tag, .int .u8 (a0.Ind_0.toNat : Int), .int .u8 (a0.Ind_1.toNat : Int), s1762])] (post109 r) := by
 refine spec_start (N := 9) Tryz.func109 (by kernel_rfl) rfl rfl rfl ?_
 intro g hS
 unfold m109 at hr
 refine at_open (A := Unit) 0 rfl (fun _ => True) (fun _ => [(Ty.str.fact a0.Tag [str a0.Tag]), ((Ty.slice ty66).fact a0.Subs [s1762])]) (fun F w h => ⟨(), trivial, ex69 h⟩) (fun _ _ => ?_)
 refine s_sr ?_
 refine at_hv rfl ?_
 refine hv_box (cs := [str a0.Tag, .int .u8 (a0.Ind_0.toNat : Int), .int .u8 (a0.Ind_1.toNat : Int), s1762]) rfl rfl rfl (fun b1763 => ?_)
 refine at_hv rfl ?_
 refine hv_alloc (cs := [str ([] : Str), .int .u8 0, .int .u8 0, (.slice none 0 0)]) ti69 rfl rfl (fun b1764 => ?_)
 refine s_ntsr ?_
 refine at_hv rfl ?_
 refine hv_bslice (cs := []) rfl und67 ti66 rfl rfl rfl rfl rfl (fun s1765 => ?_)
 refine at_lt (lt_fieldAddr 3 rfl fld69_2 rfl) rfl ?_
 refine at_lt (lt_load_box 1 rfl ti67 rfl rfl rfl rfl rfl) rfl ?_
 replace hr := imust hr
 obtain ⟨h1766, hr⟩ := hr
 refine at_rownil ty66 ?_
 refine at_rown 0 0 rfl rfl rfl (fun hn1769 => ?_)
 refine at_hv rfl ?_
 refine hv_append_f 0 2 rfl rfl rfl rfl und67 ti66 rfl rfl (by omega) (by omega) rfl (fun s1767 u1768 => ?_)
 refine at_rowcat 1 0 rfl rfl ?_
 refine at_lt (lt_fieldAddr 3 rfl fld69_2 rfl) rfl ?_
 refine at_rowv 0 rfl (fun ho1770 => ?_)
 replace ho1770 := row_one (by obtain ⟨a, c, h⟩ := ho1770; exact ⟨a, _, c, h⟩)
 refine at_hv rfl ?_
 refine hv_store1 1 (cs' := [str a0.Tag, .int .u8 (a0.Ind_0.toNat : Int), .int .u8 (a0.Ind_1.toNat : Int), s1767]) rfl rfl ti67 rfl rfl rfl rfl ho1770 ?_
 refine s_ntsr ?_
 refine at_lt (lt_load_box 1 rfl ti69 rfl rfl rfl rfl rfl) rfl ?_
 refine at_hv rfl ?_
 refine hv_store_box 0 (cs' := [str a0.Tag, .int .u8 (a0.Ind_0.toNat : Int), .int .u8 (a0.Ind_1.toNat : Int), s1767]) rfl rfl ti69 rfl rfl rfl rfl (allc rfl (allc rfl (allc rfl (allc ho1770 rfl)))) ?_
 refine s_nt ?_
 refine at_ret ?_
 have hq := oinj hr
 clear hr
 subst hq
 refine at_release 0 0 rfl rfl rfl (by simp only [List.length_append, List.length_cons, List.length_nil, ty66_bytes] <;> omega) ?_
 refine at_derive [4, 0] (ty69.fact (⟨a0.Tag, a0.Ind_0, a0.Ind_1, [] ++ a0.Subs⟩ : D_api_Field) [str a0.Tag, .int .u8 (a0.Ind_0.toNat : Int), .int .u8 (a0.Ind_1.toNat : Int), s1767]) rfl (fun F w h => mk69 (x := (⟨a0.Tag, a0.Ind_0, a0.Ind_1, [] ++ a0.Subs⟩ : D_api_Field)) h) ?_
 exact at_return (.agg #[str a0.Tag, .int .u8 (a0.Ind_0.toNat : Int), .int .u8 (a0.Ind_1.toNat : Int), s1767]) [0] hS Tryz.results109 (.cons (.cell 0 rfl ti69 rfl rfl rfl rfl) .nil) rfl rfl ⟨s1767, rfl, rfl⟩
/-! 74 bookplate/bookplateref12.Copy -/
def m74_l1 (a0 : D_api_Record) : Nat → Nat → (List D_api_Field) → Option (List D_api_Field)
  | 0, _, _ => none
  | k + 1, x1777, x1778 =>
    if x1777 < a0.Fields.length then
     (a0.Fields[x1777]?).bind fun x1791 =>
     (m109 x1791).bind fun x1796 =>
     if x1778.length + 1 ≤ 2932031007402 then
      m74_l1 a0 k (x1777 + 1) (x1778 ++ [x1796])
     else none
    else
     some x1778
def m74 (a0 : D_api_Record) : Option D_api_Record :=
  (m74_l1 a0 (a0.Fields.length + 1) 0 ([] : (List D_api_Field))).bind fun x1782 =>
  some (⟨a0.ID, x1782⟩ : D_api_Record)
def post74 (r : D_api_Record) (v : Value) (fs : List Fact) : Prop := ∃ s1812 : Value, v = .agg #[.int .i64 r.ID, s1812] ∧ fs = [(ty25.fact r [.int .i64 r.ID, s1812])]
theorem en74 : Enters Tryz.prog 74 := ⟨_, Tryz.func74, by kernel_rfl, rfl⟩
theorem f74_spec {a0 : D_api_Record} {s1772 : Value} {r : D_api_Record} (hr : m74 a0 = some r) : Spec Tryz.prog 74 [.agg #[.int .i64 a0.ID, s1772]] [(ty25.fact a0 [.int .i64 a0.ID, s1772])] (post74 r) := by
 refine spec_start (N := 27) Tryz.func74 (by kernel_rfl) rfl rfl rfl ?_
 intro g hS
 unfold m74 at hr
 refine at_open (A := Unit) 0 rfl (fun _ => True) (fun _ => [((Ty.int .i64).fact a0.ID [.int .i64 a0.ID]), ((Ty.slice ty69).fact a0.Fields [s1772])]) (fun F w h => ⟨(), trivial, ex25 h⟩) (fun _ _ => ?_)
 refine at_inv 0 rfl (fun l1773 => ?_)
 replace l1773 : (-9223372036854775808) ≤ a0.ID ∧ a0.ID ≤ 9223372036854775807 := l1773
 refine s_sr ?_
 refine at_hv rfl ?_
 refine hv_box (cs := [.int .i64 a0.ID, s1772]) rfl rfl rfl (fun b1774 => ?_)
 refine at_hv rfl ?_
 refine hv_alloc (cs := [.int .i64 0, (.slice none 0 0)]) ti25 rfl rfl (fun b1775 => ?_)
 refine s_ntsr ?_
 refine at_lt (lt_fieldAddr 0 rfl fld25_0 rfl) rfl ?_
 refine at_lt (lt_load_box 1 rfl ti3 rfl rfl rfl rfl rfl) rfl ?_
 refine at_lt (lt_build (cs := [.int .i64 a0.ID, (.slice none 0 0)]) rfl ti25 pl25 rfl) rfl ?_
 refine at_hv rfl ?_
 refine hv_alloc (cs := [.int .i64 0, (.slice none 0 0)]) ti25 rfl rfl (fun b1776 => ?_)
 refine at_hv rfl ?_
 refine hv_store_box 0 (cs' := [.int .i64 a0.ID, (.slice none 0 0)]) rfl rfl ti25 rfl rfl rfl rfl rfl ?_
 refine s_nt ?_
 refine at_seq ?_
 refine s_sr ?_
 refine s_as rfl ?_
 refine s_nt ?_
 refine at_int .i64 0 (by simp only [lo, hi]; omega) ?_
 refine at_rownew none 69 4 ?_
 refine at_rownil ty69 ?_
 refine at_mkpure (q := (([] : (List D_api_Field)).length * ty69.bytes ≤ 140737488355328)) (by simp only [List.nil_append, List.cons_append, List.length_cons, List.length_nil, ty69_bytes] <;> omega) ?_
 replace hr := obind hr
 obtain ⟨x1782, hl1786, hr⟩ := hr
 refine at_cut (V := Value × Nat × (List Value)) (fun e => (⟨[(2, .pointer (some (Addr.add ⟨b1775, 0, none⟩ 0))), (3, .pointer (some (Addr.add ⟨b1776, 0, none⟩ 0)))], [⟨b1776, [.int .i64 a0.ID, e.1], 25⟩, ⟨b1775, [.int .i64 0, (.slice none 0 0)], 25⟩], [⟨e.1, 69, 4, e.2.1, e.2.2⟩], [(ty69.row x1782 e.2.2), (pureF (x1782.length * ty69.bytes ≤ 140737488355328)), ((Ty.int .i64).fact a0.ID [.int .i64 a0.ID])]⟩ : St)) ?_ ?_
 ·refine at_block ?_
  refine at_loopW (σ := (Nat × (List D_api_Field))) (V := Value × Nat × (List Value)) (r := x1782) (fun n s => m74_l1 a0 n s.1 s.2) (fun s e => (⟨[(1, .pointer (some (Addr.add ⟨b1774, 0, none⟩ 0))), (2, .pointer (some (Addr.add ⟨b1775, 0, none⟩ 0))), (3, .pointer (some (Addr.add ⟨b1776, 0, none⟩ 0))), (4, .int .i64 (s.1 : Int))], [⟨b1776, [.int .i64 a0.ID, e.1], 25⟩, ⟨b1775, [.int .i64 0, (.slice none 0 0)], 25⟩, ⟨b1774, [.int .i64 a0.ID, s1772], 25⟩], [⟨e.1, 69, 4, e.2.1, e.2.2⟩], [((Ty.int .i64).fact (s.1 : Int) [.int .i64 (s.1 : Int)]), (ty69.row s.2 e.2.2), (pureF (s.2.length * ty69.bytes ≤ 140737488355328)), ((Ty.int .i64).fact a0.ID [.int .i64 a0.ID]), ((Ty.slice ty69).fact a0.Fields [s1772])]⟩ : St)) (fun _ => rfl) _ (0, ([] : (List D_api_Field))) ((.slice none 0 0), 0, []) hl1786 ⟨⟨rfl, ⟨rfl, ⟨rfl, ⟨rfl, trivial⟩⟩⟩⟩, ⟨[true, true, true], rfl⟩, ⟨[true], rfl⟩, ⟨[2, 1, 0, 3, 4], rfl⟩⟩ ?_
  clear hr hl1786
  intro n s hr e
  obtain ⟨x1777, x1778⟩ := s
  obtain ⟨v1779, n1780, i1781⟩ := e
  change m74_l1 a0 (n + 1) x1777 x1778 = some x1782 at hr
  change At _ _ (⟨[(1, .pointer (some (Addr.add ⟨b1774, 0, none⟩ 0))), (2, .pointer (some (Addr.add ⟨b1775, 0, none⟩ 0))), (3, .pointer (some (Addr.add ⟨b1776, 0, none⟩ 0))), (4, .int .i64 (x1777 : Int))], [⟨b1776, [.int .i64 a0.ID, v1779], 25⟩, ⟨b1775, [.int .i64 0, (.slice none 0 0)], 25⟩, ⟨b1774, [.int .i64 a0.ID, s1772], 25⟩], [⟨v1779, 69, 4, n1780, i1781⟩], [((Ty.int .i64).fact (x1777 : Int) [.int .i64 (x1777 : Int)]), (ty69.row x1778 i1781), (pureF (x1778.length * ty69.bytes ≤ 140737488355328)), ((Ty.int .i64).fact a0.ID [.int .i64 a0.ID]), ((Ty.slice ty69).fact a0.Fields [s1772])]⟩ : St) _
  rw [m74_l1] at hr
  refine at_seq ?_
  refine s_sr ?_
  refine s_mv rfl ?_
  refine at_lt (lt_fieldAddr 1 rfl fld25_1 rfl) rfl ?_
  refine at_lt (lt_load_box 2 rfl ti23 rfl rfl rfl rfl rfl) rfl ?_
  refine at_inv 4 rfl (fun i1788 => ?_)
  have l1789 := slice_len i1788
  refine at_lt (lt_flen 4 rfl rfl und23) rfl ?_
  refine at_lt (lt_lss rfl rfl) rfl ?_
  refine s_nt ?_
  by_cases h1790 : x1777 < a0.Fields.length
  ·replace hr := ipos h1790 hr
   refine at_true rfl (decide_eq_true (by omega)) ?_
   refine at_skip ?_
   refine at_then ?_
   refine at_seq ?_
   refine at_block ?_
   replace hr := obind hr
   obtain ⟨x1791, h1792, hr⟩ := hr
   have := (List.getElem?_eq_some_iff.1 h1792).1
   refine at_elem 4 rfl (nat_at' h1792) (fun p1794 ec pa1795 => ?_)
   refine at_open (A := Value) 0 rfl _ _ (fun F w h => op69 h) ?_
   rintro s1793 rfl
   replace hr := obind hr
   obtain ⟨x1796, h1797, hr⟩ := hr
   replace hr := imust hr
   obtain ⟨h1800, hr⟩ := hr
   refine aa_start 11 (by kernel_rfl) ?_
   refine aa_p 0 rfl (lt_fieldAddr 1 rfl fld25_1 rfl) ?_
   refine aa_l 1 rfl (lt_load_box 0 rfl ti23 rfl rfl rfl rfl rfl) ?_
   refine aa_p 2 rfl (lt_fieldAddr 1 rfl fld25_1 rfl) ?_
   refine aa_l 3 rfl (lt_load_box 2 rfl ti23 rfl rfl rfl rfl rfl) ?_
   refine aa_p 4 rfl (lt_move rfl) ?_
   refine aa_p 5 rfl (lt_idx rfl rfl pa1795 und23 ti69) ?_
   refine aa_l 6 rfl (lt_load_peek 3 rfl ti69 rfl rfl rfl rfl rfl) ?_
   refine aa_one 7 ?_
   refine aa_op rfl rfl ?_
   refine hv_call0 [2] (f109_spec h1797) rfl rfl rfl rfl ?_
   rintro _ _ ⟨s1798, rfl, rfl⟩
   refine at_open (A := Unit) 0 rfl (fun _ => True) (fun _ => [(Ty.str.fact x1796.Tag [str x1796.Tag]), ((Ty.slice ty66).fact x1796.Subs [s1798])]) (fun F w h => ⟨(), trivial, ex69 h⟩) (fun _ _ => ?_)
   refine aa_all (rs := [8]) (by kernel_rfl) rfl (ts_in 0 3 rfl rfl) (List.forall_mem_singleton.2 ?_)
   refine aa_op rfl rfl ?_
   refine hv_bslice (cs := [str x1796.Tag, .int .u8 (x1796.Ind_0.toNat : Int), .int .u8 (x1796.Ind_1.toNat : Int), s1798]) rfl und23 ti69 rfl rfl rfl rfl rfl (fun s1805 => ?_)
   refine aa_all (rs := [9]) (by kernel_rfl) rfl (ts_in 0 3 rfl rfl) (List.forall_mem_singleton.2 ?_)
   refine at_rown 1 8 rfl rfl rfl (fun hn1807 => ?_)
   refine at_one 1 rfl (fun ho1808 => ?_)
   refine aa_op rfl rfl ?_
   refine hv_append 1 0 rfl rfl rfl rfl und23 ti69 rfl rfl (allc rfl (allc rfl (allc rfl (allc ho1808 rfl)))) (by omega) (by omega) rfl (fun s1806 => ?_)
   refine at_rowsnoc 8 2 rfl rfl ?_
   refine aa_pure 10 rfl (by kernel_rfl) rfl rfl (lt_fieldAddr 1 rfl fld25_1 rfl) rfl (ts_in 0 4 rfl rfl) ?_
   refine aa_all (rs := [11]) (by kernel_rfl) rfl (ts_in 0 4 rfl rfl) (List.forall_mem_singleton.2 ?_)
   refine at_rowv 1 rfl (fun ho1809 => ?_)
   replace ho1809 := row_one (by obtain ⟨a, c, h⟩ := ho1809; exact ⟨a, _, c, h⟩)
   refine aa_op rfl rfl ?_
   refine hv_store1 0 (cs' := [.int .i64 a0.ID, s1806]) rfl rfl ti23 rfl rfl rfl rfl ho1809 ?_
   refine aa_done (by kernel_rfl) (ts_out rfl) ?_
   refine at_in ?_
   refine s_tr ?_
   refine s_mv rfl ?_
   refine at_lt (lt_add rfl rfl (by simp only [lo, hi]; omega)) rfl ?_
   refine s_as rfl ?_
   refine at_nil ?_
   refine at_int .i64 (x1777 + 1 : Int) (by simp only [lo, hi]; omega) ?_
   refine at_mkpure (q := ((x1778 ++ [x1796]).length * ty69.bytes ≤ 140737488355328)) (by simp only [List.length_append, List.length_cons, List.length_nil, ty69_bytes] <;> omega) ?_
   exact at_again (σ := (Nat × (List D_api_Field))) (V := Value × Nat × (List Value)) (lp := fun n s => m74_l1 a0 n s.1 s.2) (S := fun s e => (⟨[(1, .pointer (some (Addr.add ⟨b1774, 0, none⟩ 0))), (2, .pointer (some (Addr.add ⟨b1775, 0, none⟩ 0))), (3, .pointer (some (Addr.add ⟨b1776, 0, none⟩ 0))), (4, .int .i64 (s.1 : Int))], [⟨b1776, [.int .i64 a0.ID, e.1], 25⟩, ⟨b1775, [.int .i64 0, (.slice none 0 0)], 25⟩, ⟨b1774, [.int .i64 a0.ID, s1772], 25⟩], [⟨e.1, 69, 4, e.2.1, e.2.2⟩], [((Ty.int .i64).fact (s.1 : Int) [.int .i64 (s.1 : Int)]), (ty69.row s.2 e.2.2), (pureF (s.2.length * ty69.bytes ≤ 140737488355328)), ((Ty.int .i64).fact a0.ID [.int .i64 a0.ID]), ((Ty.slice ty69).fact a0.Fields [s1772])]⟩ : St)) (x1777 + 1, x1778 ++ [x1796]) (s1806, n1780 + 1, i1781 ++ [str x1796.Tag, .int .u8 (x1796.Ind_0.toNat : Int), .int .u8 (x1796.Ind_1.toNat : Int), s1798]) hr ⟨⟨rfl, ⟨rfl, ⟨rfl, ⟨rfl, trivial⟩⟩⟩⟩, ⟨[true, true, true], rfl⟩, ⟨[false, true], rfl⟩, ⟨[1, 2, 0, 13, 14], rfl⟩⟩
  replace hr := ineg h1790 hr
  refine at_false rfl (decide_eq_false (by omega)) ?_
  refine at_exit ?_
  refine at_then_exit ?_
  refine at_then_exit ?_
  refine at_in_exit ?_
  have hq := oinj hr
  clear hr
  subst hq
  exact at_leaf (v1779, n1780, i1781) ⟨⟨rfl, ⟨rfl, trivial⟩⟩, ⟨[true, true, false], rfl⟩, ⟨[true], rfl⟩, ⟨[1, 2, 3], rfl⟩⟩
 clear hl1786
 intro e
 obtain ⟨v1783, n1784, i1785⟩ := e
 change At _ _ (⟨[(2, .pointer (some (Addr.add ⟨b1775, 0, none⟩ 0))), (3, .pointer (some (Addr.add ⟨b1776, 0, none⟩ 0)))], [⟨b1776, [.int .i64 a0.ID, v1783], 25⟩, ⟨b1775, [.int .i64 0, (.slice none 0 0)], 25⟩], [⟨v1783, 69, 4, n1784, i1785⟩], [(ty69.row x1782 i1785), (pureF (x1782.length * ty69.bytes ≤ 140737488355328)), ((Ty.int .i64).fact a0.ID [.int .i64 a0.ID])]⟩ : St) _
 refine s_tsr ?_
 refine at_lt (lt_load_box 0 rfl ti25 rfl rfl rfl rfl rfl) rfl ?_
 refine at_rowv 0 rfl (fun ho1810 => ?_)
 replace ho1810 := row_one (by obtain ⟨a, c, h⟩ := ho1810; exact ⟨a, _, c, h⟩)
 refine at_hv rfl ?_
 refine hv_store_box 1 (cs' := [.int .i64 a0.ID, v1783]) rfl rfl ti25 rfl rfl rfl rfl (allc rfl (allc ho1810 rfl)) ?_
 refine s_nt ?_
 refine at_ret ?_
 have hq := oinj hr
 clear hr
 subst hq
 refine at_pure 1 rfl (fun hb1811 => ?_)
 refine at_release 0 0 rfl rfl rfl hb1811 ?_
 refine at_derive [3, 0] (ty25.fact (⟨a0.ID, x1782⟩ : D_api_Record) [.int .i64 a0.ID, v1783]) rfl (fun F w h => mk25 (x := (⟨a0.ID, x1782⟩ : D_api_Record)) h) ?_
 exact at_return (.agg #[.int .i64 a0.ID, v1783]) [0] hS Tryz.results74 (.cons (.cell 1 rfl ti25 rfl rfl rfl rfl) .nil) rfl rfl ⟨v1783, rfl, rfl⟩
/-! 75 bookplate/bookplateref12.insert -/
def m75_l1 (a0 : (List D_api_Field)) (a1 : D_api_Field) : Nat → Nat → Option Nat
  | 0, _ => none
  | k + 1, x1816 =>
    if x1816 < a0.length then
     (a0[x1816]?).bind fun x1823 =>
     if (Op.bytesLess a1.Tag x1823.Tag) = true then
      some x1816
     else
      m75_l1 a0 a1 k (x1816 + 1)
    else
     some x1816
def m75 (a0 : (List D_api_Field)) (a1 : D_api_Field) : Option (List D_api_Field) :=
  (m75_l1 a0 a1 (a0.length + 1) 0).bind fun x1817 =>
  if x1817 ≤ a0.length then
   if (a0.take x1817).length ≤ 2932031007402 then
    if ([] ++ (a0.take x1817)).length + 1 ≤ 2932031007402 then
     if ([] ++ (a0.take x1817) ++ [(⟨a1.Tag, a1.Ind_0, a1.Ind_1, a1.Subs⟩ : D_api_Field)]).length + (a0.drop x1817).length ≤ 2932031007402 then
      some ([] ++ (a0.take x1817) ++ [(⟨a1.Tag, a1.Ind_0, a1.Ind_1, a1.Subs⟩ : D_api_Field)] ++ (a0.drop x1817))
     else none
    else none
   else none
  else none
def post75 (r : (List D_api_Field)) (v : Value) (fs : List Fact) : Prop := ∃ s1855 : Value, v = s1855 ∧ fs = [((Ty.slice ty69).fact r [s1855])]
theorem en75 : Enters Tryz.prog 75 := ⟨_, Tryz.func75, by kernel_rfl, rfl⟩
theorem f75_spec {a0 : (List D_api_Field)} {a1 : D_api_Field} {w1813 : Value} {s1814 : Value} {r : (List D_api_Field)} (hr : m75 a0 a1 = some r) : Spec Tryz.prog 75 [w1813, .agg #[str a1.Tag, .int .u8 (a1.Ind_0.toNat : Int), .int .u8 (a1.Ind_1.toNat : Int), s1814]] [((Ty.slice ty69).fact a0 [w1813]), (ty69.fact a1 [str a1.Tag, .int .u8 (a1.Ind_0.toNat : Int), .int .u8 (a1.Ind_1.toNat : Int), s1814])] (post75 r) := by
 refine spec_start (N := 36) Tryz.func75 (by kernel_rfl) rfl rfl rfl ?_
 intro g hS
 unfold m75 at hr
 refine at_open (A := Unit) 1 rfl (fun _ => True) (fun _ => [(Ty.str.fact a1.Tag [str a1.Tag]), ((Ty.slice ty66).fact a1.Subs [s1814])]) (fun F w h => ⟨(), trivial, ex69 h⟩) (fun _ _ => ?_)
 refine s_sr ?_
 refine at_hv rfl ?_
 refine hv_box (cs := [str a1.Tag, .int .u8 (a1.Ind_0.toNat : Int), .int .u8 (a1.Ind_1.toNat : Int), s1814]) rfl rfl rfl (fun b1815 => ?_)
 refine s_as rfl ?_
 refine s_ntsr ?_
 refine s_as rfl ?_
 refine s_nt ?_
 refine at_seq ?_
 refine at_int .i64 0 (by simp only [lo, hi]; omega) ?_
 replace hr := obind hr
 obtain ⟨x1817, hl1818, hr⟩ := hr
 refine at_cut (V := Unit) (fun e => (⟨[(0, w1813), (3, .pointer (some (Addr.add ⟨b1815, 0, none⟩ 0))), (5, .int .i64 (x1817 : Int))], [⟨b1815, [str a1.Tag, .int .u8 (a1.Ind_0.toNat : Int), .int .u8 (a1.Ind_1.toNat : Int), s1814], 69⟩], [], [((Ty.int .i64).fact (x1817 : Int) [.int .i64 (x1817 : Int)]), ((Ty.slice ty69).fact a0 [w1813]), (Ty.str.fact a1.Tag [str a1.Tag]), ((Ty.slice ty66).fact a1.Subs [s1814])]⟩ : St)) ?_ ?_
 ·refine at_block ?_
  refine at_loopW (σ := Nat) (V := Unit) (r := x1817) (fun n s => m75_l1 a0 a1 n s) (fun s e => (⟨[(0, w1813), (3, .pointer (some (Addr.add ⟨b1815, 0, none⟩ 0))), (5, .int .i64 (s : Int))], [⟨b1815, [str a1.Tag, .int .u8 (a1.Ind_0.toNat : Int), .int .u8 (a1.Ind_1.toNat : Int), s1814], 69⟩], [], [((Ty.int .i64).fact (s : Int) [.int .i64 (s : Int)]), ((Ty.slice ty69).fact a0 [w1813]), (Ty.str.fact a1.Tag [str a1.Tag]), ((Ty.slice ty66).fact a1.Subs [s1814])]⟩ : St)) (fun _ => rfl) _ 0 () hl1818 ⟨⟨rfl, ⟨rfl, ⟨rfl, trivial⟩⟩⟩, ⟨[true], rfl⟩, ⟨[], rfl⟩, ⟨[0, 3, 1, 2], rfl⟩⟩ ?_
  clear hr hl1818
  intro n x1816 hr e
  skip
  skip
  change m75_l1 a0 a1 (n + 1) x1816 = some x1817 at hr
  change At _ _ (⟨[(0, w1813), (3, .pointer (some (Addr.add ⟨b1815, 0, none⟩ 0))), (5, .int .i64 (x1816 : Int))], [⟨b1815, [str a1.Tag, .int .u8 (a1.Ind_0.toNat : Int), .int .u8 (a1.Ind_1.toNat : Int), s1814], 69⟩], [], [((Ty.int .i64).fact (x1816 : Int) [.int .i64 (x1816 : Int)]), ((Ty.slice ty69).fact a0 [w1813]), (Ty.str.fact a1.Tag [str a1.Tag]), ((Ty.slice ty66).fact a1.Subs [s1814])]⟩ : St) _
  rw [m75_l1] at hr
  refine at_seq ?_
  refine at_seq ?_
  refine at_inv 1 rfl (fun i1820 => ?_)
  have l1821 := slice_len i1820
  by_cases h1822 : x1816 < a0.length
  ·replace hr := ipos h1822 hr
   replace hr := obind hr
   obtain ⟨x1823, h1824, hr⟩ := hr
   have := (List.getElem?_eq_some_iff.1 h1824).1
   refine at_elem 1 rfl (nat_at' h1824) (fun p1826 ec pa1827 => ?_)
   refine at_open (A := Value) 0 rfl _ _ (fun F w h => op69 h) ?_
   rintro s1825 rfl
   refine aa_start 14 (by kernel_rfl) ?_
   refine aa_p 0 rfl (lt_move rfl) ?_
   refine aa_p 1 rfl (lt_move rfl) ?_
   refine aa_l 2 rfl (lt_flen 5 rfl rfl und23) ?_
   refine aa_p 3 rfl (lt_lss rfl rfl) ?_
   refine aa_p 4 rfl (lt_move rfl) ?_
   refine aa_pg 5 rfl ⟨11, rfl, .inl ⟨_, rfl, gdq (v := true) (decide_eq_true (by omega)) rfl⟩⟩ (lt_move rfl) ?_
   refine aa_pg 6 rfl ⟨11, rfl, .inl ⟨_, rfl, gdq (v := true) (decide_eq_true (by omega)) rfl⟩⟩ (lt_move rfl) ?_
   refine aa_pg 7 rfl ⟨11, rfl, .inl ⟨_, rfl, gdq (v := true) (decide_eq_true (by omega)) rfl⟩⟩ (lt_idx rfl rfl pa1827 und23 ti69) ?_
   refine aa_pg 8 rfl ⟨11, rfl, .inl ⟨_, rfl, gdq (v := true) (decide_eq_true (by omega)) rfl⟩⟩ (lt_fieldAddr 0 rfl fld69_0 rfl) ?_
   refine aa_lg 9 rfl ⟨11, rfl, .inl ⟨_, rfl, gdq (v := true) (decide_eq_true (by omega)) rfl⟩⟩ (lt_load_peek 3 rfl ti9 rfl rfl rfl rfl rfl) ?_
   refine aa_pg 10 rfl ⟨11, rfl, .inl ⟨_, rfl, gdq (v := true) (decide_eq_true (by omega)) rfl⟩⟩ (lt_fieldAddr 0 rfl fld69_0 rfl) ?_
   refine aa_lg 11 rfl ⟨11, rfl, .inl ⟨_, rfl, gdq (v := true) (decide_eq_true (by omega)) rfl⟩⟩ (lt_load_box 0 rfl ti9 rfl rfl rfl rfl rfl) ?_
   refine aa_pg 12 rfl ⟨11, rfl, .inl ⟨_, rfl, gdq (v := true) (decide_eq_true (by omega)) rfl⟩⟩ (lt_sleq rfl rfl) ?_
   refine aa_p 13 rfl (lt_pick true rfl (decide_eq_true (by omega)) rfl) ?_
   refine aa_done (by kernel_rfl) (ts_in 0 0 rfl rfl) ?_
   refine at_then ?_
   by_cases h1828 : (Op.bytesLess a1.Tag x1823.Tag) = true
   ·replace hr := ipos h1828 hr
    refine at_false rfl (nt h1828) ?_
    refine at_exit ?_
    refine at_then_exit ?_
    refine at_then_exit ?_
    refine at_in_exit ?_
    have hq := oinj hr
    clear hr
    subst hq
    exact at_leaf () ⟨⟨rfl, ⟨rfl, ⟨rfl, trivial⟩⟩⟩, ⟨[true], rfl⟩, ⟨[], rfl⟩, ⟨[4, 5, 6, 7], rfl⟩⟩
   replace hr := ineg h1828 hr
   refine at_true rfl (nf (bf h1828)) ?_
   refine at_skip ?_
   refine at_then ?_
   refine at_block ?_
   refine at_region ?_
   refine s_mv rfl ?_
   refine at_lt (lt_add rfl rfl (by simp only [lo, hi]; omega)) rfl ?_
   refine s_as rfl ?_
   refine at_nil ?_
   refine at_in ?_
   refine at_int .i64 (x1816 + 1 : Int) (by simp only [lo, hi]; omega) ?_
   exact at_again (σ := Nat) (V := Unit) (lp := fun n s => m75_l1 a0 a1 n s) (S := fun s e => (⟨[(0, w1813), (3, .pointer (some (Addr.add ⟨b1815, 0, none⟩ 0))), (5, .int .i64 (s : Int))], [⟨b1815, [str a1.Tag, .int .u8 (a1.Ind_0.toNat : Int), .int .u8 (a1.Ind_1.toNat : Int), s1814], 69⟩], [], [((Ty.int .i64).fact (s : Int) [.int .i64 (s : Int)]), ((Ty.slice ty69).fact a0 [w1813]), (Ty.str.fact a1.Tag [str a1.Tag]), ((Ty.slice ty66).fact a1.Subs [s1814])]⟩ : St)) (x1816 + 1) () hr ⟨⟨rfl, ⟨rfl, ⟨rfl, trivial⟩⟩⟩, ⟨[true], rfl⟩, ⟨[], rfl⟩, ⟨[0, 6, 7, 8], rfl⟩⟩
  replace hr := ineg h1822 hr
  refine aa_start 14 (by kernel_rfl) ?_
  refine aa_p 0 rfl (lt_move rfl) ?_
  refine aa_p 1 rfl (lt_move rfl) ?_
  refine aa_l 2 rfl (lt_flen 1 rfl rfl und23) ?_
  refine aa_p 3 rfl (lt_lss rfl rfl) ?_
  refine aa_p 4 rfl (lt_move rfl) ?_
  refine aa_o 5 rfl ⟨11, rfl, .inl ⟨_, rfl, gdq (v := false) (decide_eq_false (by omega)) rfl⟩⟩ ?_
  refine aa_o 6 rfl ⟨11, rfl, .inl ⟨_, rfl, gdq (v := false) (decide_eq_false (by omega)) rfl⟩⟩ ?_
  refine aa_o 7 rfl ⟨11, rfl, .inl ⟨_, rfl, gdq (v := false) (decide_eq_false (by omega)) rfl⟩⟩ ?_
  refine aa_o 8 rfl ⟨11, rfl, .inl ⟨_, rfl, gdq (v := false) (decide_eq_false (by omega)) rfl⟩⟩ ?_
  refine aa_o 9 rfl ⟨11, rfl, .inl ⟨_, rfl, gdq (v := false) (decide_eq_false (by omega)) rfl⟩⟩ ?_
  refine aa_o 10 rfl ⟨11, rfl, .inl ⟨_, rfl, gdq (v := false) (decide_eq_false (by omega)) rfl⟩⟩ ?_
  refine aa_o 11 rfl ⟨11, rfl, .inl ⟨_, rfl, gdq (v := false) (decide_eq_false (by omega)) rfl⟩⟩ ?_
  refine aa_o 12 rfl ⟨11, rfl, .inl ⟨_, rfl, gdq (v := false) (decide_eq_false (by omega)) rfl⟩⟩ ?_
  refine aa_p 13 rfl (lt_pick false rfl (decide_eq_false (by omega)) rfl) ?_
  refine aa_done (by kernel_rfl) (ts_in 0 0 rfl rfl) ?_
  refine at_then ?_
  refine at_false rfl rfl ?_
  refine at_exit ?_
  refine at_then_exit ?_
  refine at_then_exit ?_
  refine at_in_exit ?_
  have hq := oinj hr
  clear hr
  subst hq
  exact at_leaf () ⟨⟨rfl, ⟨rfl, ⟨rfl, trivial⟩⟩⟩, ⟨[true], rfl⟩, ⟨[], rfl⟩, ⟨[0, 1, 2, 3], rfl⟩⟩
 clear hl1818
 intro e
 change At _ _ (⟨[(0, w1813), (3, .pointer (some (Addr.add ⟨b1815, 0, none⟩ 0))), (5, .int .i64 (x1817 : Int))], [⟨b1815, [str a1.Tag, .int .u8 (a1.Ind_0.toNat : Int), .int .u8 (a1.Ind_1.toNat : Int), s1814], 69⟩], [], [((Ty.int .i64).fact (x1817 : Int) [.int .i64 (x1817 : Int)]), ((Ty.slice ty69).fact a0 [w1813]), (Ty.str.fact a1.Tag [str a1.Tag]), ((Ty.slice ty66).fact a1.Subs [s1814])]⟩ : St) _
 refine s_tsr ?_
 refine at_hv rfl ?_
 refine hv_bslice (cs := []) rfl und23 ti69 rfl rfl rfl rfl rfl (fun s1829 => ?_)
 refine s_mv rfl ?_
 refine s_mv rfl ?_
 replace hr := imust hr
 obtain ⟨h1830, hr⟩ := hr
 refine at_cutf_h 1 x1817 rfl (by omega) (fun s1831 hc1832 => ?_)
 refine at_lt (lt_cut_h x1817 rfl rfl (by omega) und23 ti69 hc1832) rfl ?_
 replace hr := imust hr
 obtain ⟨h1833, hr⟩ := hr
 refine at_rownil ty69 ?_
 refine at_rown 0 0 rfl rfl rfl (fun hn1836 => ?_)
 refine at_hv rfl ?_
 refine hv_append_f 0 1 rfl rfl rfl rfl und23 ti69 rfl rfl (by omega) (by omega) rfl (fun s1834 u1835 => ?_)
 refine at_rowcat 1 0 rfl rfl ?_
 refine s_as rfl ?_
 refine s_nt ?_
 refine at_seq ?_
 replace hr := imust hr
 obtain ⟨h1838, hr⟩ := hr
 refine at_cutf_l 5 x1817 rfl (by omega) (fun s1842 hc1843 => ?_)
 replace hr := imust hr
 obtain ⟨h1844, hr⟩ := hr
 refine aa_start 9 (by kernel_rfl) ?_
 refine aa_p 0 rfl (lt_move rfl) ?_
 refine aa_l 1 rfl (lt_load_box 0 rfl ti69 rfl rfl rfl rfl rfl) ?_
 refine aa_p 4 rfl (lt_move rfl) ?_
 refine aa_p 5 rfl (lt_move rfl) ?_
 refine aa_p 6 rfl (lt_cut_l x1817 rfl rfl (by omega) und23 ti69 (by omega) hc1843) ?_
 refine aa_one 2 ?_
 refine aa_op rfl rfl ?_
 refine hv_bslice (cs := [str a1.Tag, .int .u8 (a1.Ind_0.toNat : Int), .int .u8 (a1.Ind_1.toNat : Int), s1814]) rfl und23 ti69 rfl rfl rfl rfl rfl (fun s1848 => ?_)
 refine aa_one 3 ?_
 refine at_derive [7, 8] (ty69.fact (⟨a1.Tag, a1.Ind_0, a1.Ind_1, a1.Subs⟩ : D_api_Field) [str a1.Tag, .int .u8 (a1.Ind_0.toNat : Int), .int .u8 (a1.Ind_1.toNat : Int), s1814]) rfl (fun F w h => mk69 (x := (⟨a1.Tag, a1.Ind_0, a1.Ind_1, a1.Subs⟩ : D_api_Field)) h) ?_
 refine at_rown 1 2 rfl rfl rfl (fun hn1850 => ?_)
 refine at_one 9 rfl (fun ho1851 => ?_)
 refine aa_op rfl rfl ?_
 refine hv_append 1 0 rfl rfl rfl rfl und23 ti69 rfl rfl (allc rfl (allc rfl (allc rfl (allc ho1851 rfl)))) (by omega) (by omega) rfl (fun s1849 => ?_)
 refine at_rowsnoc 2 0 rfl rfl ?_
 refine aa_all (rs := [7]) (by kernel_rfl) rfl (ts_in 0 2 rfl rfl) (List.forall_mem_singleton.2 ?_)
 refine at_rown 1 0 rfl rfl rfl (fun hn1854 => ?_)
 refine aa_op rfl rfl ?_
 refine hv_append_f 1 2 rfl rfl rfl rfl und23 ti69 rfl rfl (by omega) (by omega) rfl (fun s1852 u1853 => ?_)
 refine at_rowcat 1 0 rfl rfl ?_
 refine aa_pure 8 rfl (by kernel_rfl) rfl rfl (lt_assign rfl) rfl (ts_in 0 4 rfl rfl) ?_
 refine aa_done (by kernel_rfl) (ts_in 0 4 rfl rfl) ?_
 refine at_then ?_
 refine at_ret ?_
 have hq := oinj hr
 clear hr
 subst hq
 refine at_release 1 0 rfl rfl rfl (by simp only [List.length_append, List.length_cons, List.length_nil, ty69_bytes] <;> omega) ?_
 exact at_return (s1852) [0] hS Tryz.results75 (.cons (.tmp rfl) .nil) rfl rfl ⟨s1852, rfl, rfl⟩
/-! 38 bookplate/bookplateref12.Canonical -/
def m38_l1 (x1860 : D_api_Record) : Nat → Nat → (List D_api_Field) → Option (List D_api_Field)
  | 0, _, _ => none
  | k + 1, x1867, x1868 =>
    if x1867 < x1860.Fields.length then
     (x1860.Fields[x1867]?).bind fun x1877 =>
     (m75 x1868 x1877).bind fun x1882 =>
     m38_l1 x1860 k (x1867 + 1) x1882
    else
     some x1868
def m38 (a0 : D_api_Record) : Option D_api_Record :=
  (m74 (⟨a0.ID, a0.Fields⟩ : D_api_Record)).bind fun x1860 =>
  (m38_l1 x1860 (x1860.Fields.length + 1) 0 ([] : (List D_api_Field))).bind fun x1870 =>
  some (⟨a0.ID, x1870⟩ : D_api_Record)
def post38 (r : D_api_Record) (v : Value) (fs : List Fact) : Prop := ∃ s1888 : Value, v = .agg #[.int .i64 r.ID, s1888] ∧ fs = [(ty25.fact r [.int .i64 r.ID, s1888])]
theorem en38 : Enters Tryz.prog 38 := ⟨_, Tryz.func38, by kernel_rfl, rfl⟩
theorem f38_spec {a0 : D_api_Record} {s1856 : Value} {r : D_api_Record} (hr : m38 a0 = some r) : Spec Tryz.prog 38 [.agg #[.int .i64 a0.ID, s1856]] [(ty25.fact a0 [.int .i64 a0.ID, s1856])] (post38 r) := by
 refine spec_start (N := 28) Tryz.func38 (by kernel_rfl) rfl rfl rfl ?_
 intro g hS
 unfold m38 at hr
 refine at_open (A := Unit) 0 rfl (fun _ => True) (fun _ => [((Ty.int .i64).fact a0.ID [.int .i64 a0.ID]), ((Ty.slice ty69).fact a0.Fields [s1856])]) (fun F w h => ⟨(), trivial, ex25 h⟩) (fun _ _ => ?_)
 refine at_inv 0 rfl (fun l1857 => ?_)
 replace l1857 : (-9223372036854775808) ≤ a0.ID ∧ a0.ID ≤ 9223372036854775807 := l1857
 refine s_sr ?_
 refine at_hv rfl ?_
 refine hv_box (cs := [.int .i64 a0.ID, s1856]) rfl rfl rfl (fun b1858 => ?_)
 refine at_hv rfl ?_
 refine hv_alloc (cs := [.int .i64 0, (.slice none 0 0)]) ti25 rfl rfl (fun b1859 => ?_)
 refine s_ntsr ?_
 refine at_lt (lt_load_box 1 rfl ti25 rfl rfl rfl rfl rfl) rfl ?_
 replace hr := obind hr
 obtain ⟨x1860, h1861, hr⟩ := hr
 refine at_derive [0, 1] (ty25.fact (⟨a0.ID, a0.Fields⟩ : D_api_Record) [.int .i64 a0.ID, s1856]) rfl (fun F w h => mk25 (x := (⟨a0.ID, a0.Fields⟩ : D_api_Record)) h) ?_
 refine at_hv rfl ?_
 refine hv_call0 [0] (f74_spec h1861) rfl rfl rfl rfl ?_
 rintro _ _ ⟨s1862, rfl, rfl⟩
 refine at_open (A := Unit) 0 rfl (fun _ => True) (fun _ => [((Ty.int .i64).fact x1860.ID [.int .i64 x1860.ID]), ((Ty.slice ty69).fact x1860.Fields [s1862])]) (fun F w h => ⟨(), trivial, ex25 h⟩) (fun _ _ => ?_)
 refine at_inv 0 rfl (fun l1863 => ?_)
 replace l1863 : (-9223372036854775808) ≤ x1860.ID ∧ x1860.ID ≤ 9223372036854775807 := l1863
 refine at_hv rfl ?_
 refine hv_alloc (cs := [.int .i64 0, (.slice none 0 0)]) ti25 rfl rfl (fun b1864 => ?_)
 refine at_one 1 rfl (fun ho1865 => ?_)
 refine at_hv rfl ?_
 refine hv_store_box 0 (cs' := [.int .i64 x1860.ID, s1862]) rfl rfl ti25 rfl rfl rfl rfl (allc rfl (allc ho1865 rfl)) ?_
 refine s_ntsr ?_
 refine at_lt (lt_fieldAddr 0 rfl fld25_0 rfl) rfl ?_
 refine at_lt (lt_load_box 2 rfl ti3 rfl rfl rfl rfl rfl) rfl ?_
 refine at_lt (lt_build (cs := [.int .i64 a0.ID, (.slice none 0 0)]) rfl ti25 pl25 rfl) rfl ?_
 refine at_hv rfl ?_
 refine hv_alloc (cs := [.int .i64 0, (.slice none 0 0)]) ti25 rfl rfl (fun b1866 => ?_)
 refine at_hv rfl ?_
 refine hv_store_box 0 (cs' := [.int .i64 a0.ID, (.slice none 0 0)]) rfl rfl ti25 rfl rfl rfl rfl rfl ?_
 refine s_nt ?_
 refine at_seq ?_
 refine s_sr ?_
 refine s_as rfl ?_
 refine s_nt ?_
 refine at_int .i64 0 (by simp only [lo, hi]; omega) ?_
 refine at_fnil ty69 none ?_
 replace hr := obind hr
 obtain ⟨x1870, hl1872, hr⟩ := hr
 refine at_cut (V := Value) (fun e => (⟨[(2, .pointer (some (Addr.add ⟨b1859, 0, none⟩ 0))), (4, .pointer (some (Addr.add ⟨b1866, 0, none⟩ 0)))], [⟨b1866, [.int .i64 a0.ID, e], 25⟩, ⟨b1859, [.int .i64 0, (.slice none 0 0)], 25⟩], [], [((Ty.slice ty69).fact x1870 [e]), ((Ty.int .i64).fact a0.ID [.int .i64 a0.ID])]⟩ : St)) ?_ ?_
 ·refine at_block ?_
  refine at_loopW (σ := (Nat × (List D_api_Field))) (V := Value) (r := x1870) (fun n s => m38_l1 x1860 n s.1 s.2) (fun s e => (⟨[(2, .pointer (some (Addr.add ⟨b1859, 0, none⟩ 0))), (3, .pointer (some (Addr.add ⟨b1864, 0, none⟩ 0))), (4, .pointer (some (Addr.add ⟨b1866, 0, none⟩ 0))), (5, .int .i64 (s.1 : Int))], [⟨b1866, [.int .i64 a0.ID, e], 25⟩, ⟨b1864, [.int .i64 x1860.ID, s1862], 25⟩, ⟨b1859, [.int .i64 0, (.slice none 0 0)], 25⟩], [], [((Ty.int .i64).fact (s.1 : Int) [.int .i64 (s.1 : Int)]), ((Ty.slice ty69).fact s.2 [e]), ((Ty.int .i64).fact a0.ID [.int .i64 a0.ID]), ((Ty.int .i64).fact x1860.ID [.int .i64 x1860.ID]), ((Ty.slice ty69).fact x1860.Fields [s1862])]⟩ : St)) (fun _ => rfl) _ (0, ([] : (List D_api_Field))) (.slice none 0 0) hl1872 ⟨⟨rfl, ⟨rfl, ⟨rfl, ⟨rfl, trivial⟩⟩⟩⟩, ⟨[true, true, true, false], rfl⟩, ⟨[], rfl⟩, ⟨[1, 0, 6, 2, 3], rfl⟩⟩ ?_
  clear hr hl1872
  intro n s hr v1869
  obtain ⟨x1867, x1868⟩ := s
  skip
  change m38_l1 x1860 (n + 1) x1867 x1868 = some x1870 at hr
  change At _ _ (⟨[(2, .pointer (some (Addr.add ⟨b1859, 0, none⟩ 0))), (3, .pointer (some (Addr.add ⟨b1864, 0, none⟩ 0))), (4, .pointer (some (Addr.add ⟨b1866, 0, none⟩ 0))), (5, .int .i64 (x1867 : Int))], [⟨b1866, [.int .i64 a0.ID, v1869], 25⟩, ⟨b1864, [.int .i64 x1860.ID, s1862], 25⟩, ⟨b1859, [.int .i64 0, (.slice none 0 0)], 25⟩], [], [((Ty.int .i64).fact (x1867 : Int) [.int .i64 (x1867 : Int)]), ((Ty.slice ty69).fact x1868 [v1869]), ((Ty.int .i64).fact a0.ID [.int .i64 a0.ID]), ((Ty.int .i64).fact x1860.ID [.int .i64 x1860.ID]), ((Ty.slice ty69).fact x1860.Fields [s1862])]⟩ : St) _
  rw [m38_l1] at hr
  refine at_seq ?_
  refine s_sr ?_
  refine s_mv rfl ?_
  refine at_lt (lt_fieldAddr 1 rfl fld25_1 rfl) rfl ?_
  refine at_lt (lt_load_box 1 rfl ti23 rfl rfl rfl rfl rfl) rfl ?_
  refine at_inv 4 rfl (fun i1874 => ?_)
  have l1875 := slice_len i1874
  refine at_lt (lt_flen 4 rfl rfl und23) rfl ?_
  refine at_lt (lt_lss rfl rfl) rfl ?_
  refine s_nt ?_
  by_cases h1876 : x1867 < x1860.Fields.length
  ·replace hr := ipos h1876 hr
   refine at_true rfl (decide_eq_true (by omega)) ?_
   refine at_skip ?_
   refine at_then ?_
   refine at_seq ?_
   refine at_block ?_
   replace hr := obind hr
   obtain ⟨x1877, h1878, hr⟩ := hr
   have := (List.getElem?_eq_some_iff.1 h1878).1
   refine at_elem 4 rfl (nat_at' h1878) (fun p1880 ec pa1881 => ?_)
   refine at_open (A := Value) 0 rfl _ _ (fun F w h => op69 h) ?_
   rintro s1879 rfl
   replace hr := obind hr
   obtain ⟨x1882, h1883, hr⟩ := hr
   refine aa_start 9 (by kernel_rfl) ?_
   refine aa_p 0 rfl (lt_fieldAddr 1 rfl fld25_1 rfl) ?_
   refine aa_l 1 rfl (lt_load_box 0 rfl ti23 rfl rfl rfl rfl rfl) ?_
   refine aa_p 2 rfl (lt_fieldAddr 1 rfl fld25_1 rfl) ?_
   refine aa_l 3 rfl (lt_load_box 1 rfl ti23 rfl rfl rfl rfl rfl) ?_
   refine aa_p 4 rfl (lt_move rfl) ?_
   refine aa_p 5 rfl (lt_idx rfl rfl pa1881 und23 ti69) ?_
   refine aa_l 6 rfl (lt_load_peek 3 rfl ti69 rfl rfl rfl rfl rfl) ?_
   refine aa_one 7 ?_
   refine aa_op rfl rfl ?_
   refine hv_call0 [5, 2] (f75_spec h1883) rfl rfl rfl rfl ?_
   rintro s1884 _ ⟨_, rfl, rfl⟩
   refine aa_pure 8 rfl (by kernel_rfl) rfl rfl (lt_fieldAddr 1 rfl fld25_1 rfl) rfl (ts_in 0 1 rfl rfl) ?_
   refine aa_all (rs := [9]) (by kernel_rfl) rfl (ts_in 0 1 rfl rfl) (List.forall_mem_singleton.2 ?_)
   refine at_one 0 rfl (fun ho1886 => ?_)
   refine aa_op rfl rfl ?_
   refine hv_store1 0 (cs' := [.int .i64 a0.ID, s1884]) rfl rfl ti23 rfl rfl rfl rfl ho1886 ?_
   refine aa_done (by kernel_rfl) (ts_out rfl) ?_
   refine at_in ?_
   refine s_tr ?_
   refine s_mv rfl ?_
   refine at_lt (lt_add rfl rfl (by simp only [lo, hi]; omega)) rfl ?_
   refine s_as rfl ?_
   refine at_nil ?_
   refine at_int .i64 (x1867 + 1 : Int) (by simp only [lo, hi]; omega) ?_
   exact at_again (σ := (Nat × (List D_api_Field))) (V := Value) (lp := fun n s => m38_l1 x1860 n s.1 s.2) (S := fun s e => (⟨[(2, .pointer (some (Addr.add ⟨b1859, 0, none⟩ 0))), (3, .pointer (some (Addr.add ⟨b1864, 0, none⟩ 0))), (4, .pointer (some (Addr.add ⟨b1866, 0, none⟩ 0))), (5, .int .i64 (s.1 : Int))], [⟨b1866, [.int .i64 a0.ID, e], 25⟩, ⟨b1864, [.int .i64 x1860.ID, s1862], 25⟩, ⟨b1859, [.int .i64 0, (.slice none 0 0)], 25⟩], [], [((Ty.int .i64).fact (s.1 : Int) [.int .i64 (s.1 : Int)]), ((Ty.slice ty69).fact s.2 [e]), ((Ty.int .i64).fact a0.ID [.int .i64 a0.ID]), ((Ty.int .i64).fact x1860.ID [.int .i64 x1860.ID]), ((Ty.slice ty69).fact x1860.Fields [s1862])]⟩ : St)) (x1867 + 1, x1882) s1884 hr ⟨⟨rfl, ⟨rfl, ⟨rfl, ⟨rfl, trivial⟩⟩⟩⟩, ⟨[true, true, true], rfl⟩, ⟨[], rfl⟩, ⟨[0, 1, 8, 9, 10], rfl⟩⟩
  replace hr := ineg h1876 hr
  refine at_false rfl (decide_eq_false (by omega)) ?_
  refine at_exit ?_
  refine at_then_exit ?_
  refine at_then_exit ?_
  refine at_in_exit ?_
  have hq := oinj hr
  clear hr
  subst hq
  exact at_leaf v1869 ⟨⟨rfl, ⟨rfl, trivial⟩⟩, ⟨[true, false, true], rfl⟩, ⟨[], rfl⟩, ⟨[1, 2], rfl⟩⟩
 clear hl1872
 intro v1871
 change At _ _ (⟨[(2, .pointer (some (Addr.add ⟨b1859, 0, none⟩ 0))), (4, .pointer (some (Addr.add ⟨b1866, 0, none⟩ 0)))], [⟨b1866, [.int .i64 a0.ID, v1871], 25⟩, ⟨b1859, [.int .i64 0, (.slice none 0 0)], 25⟩], [], [((Ty.slice ty69).fact x1870 [v1871]), ((Ty.int .i64).fact a0.ID [.int .i64 a0.ID])]⟩ : St) _
 refine s_tsr ?_
 refine at_lt (lt_load_box 0 rfl ti25 rfl rfl rfl rfl rfl) rfl ?_
 refine at_one 0 rfl (fun ho1887 => ?_)
 refine at_hv rfl ?_
 refine hv_store_box 1 (cs' := [.int .i64 a0.ID, v1871]) rfl rfl ti25 rfl rfl rfl rfl (allc rfl (allc ho1887 rfl)) ?_
 refine s_nt ?_
 refine at_ret ?_
 have hq := oinj hr
 clear hr
 subst hq
 refine at_derive [1, 0] (ty25.fact (⟨a0.ID, x1870⟩ : D_api_Record) [.int .i64 a0.ID, v1871]) rfl (fun F w h => mk25 (x := (⟨a0.ID, x1870⟩ : D_api_Record)) h) ?_
 exact at_return (.agg #[.int .i64 a0.ID, v1871]) [0] hS Tryz.results38 (.cons (.cell 1 rfl ti25 rfl rfl rfl rfl) .nil) rfl rfl ⟨v1871, rfl, rfl⟩
/-! 39 bookplate/bookplateref16.place -/
def m39_l1 (a0 : (List D_ref16_Entry)) (a1 : Str) (a2 : Bool) : Nat → Nat → Option (Fl Int Unit)
  | 0, _ => none
  | k + 1, x1890 =>
    if x1890 < a0.length then
     if a2 = true then
      (a0[x1890]?).bind fun x1898 =>
      if x1898.To = a1 then
       some (Fl.ret (x1890 : Int))
      else
       m39_l1 a0 a1 a2 k (x1890 + 1)
     else
      (a0[x1890]?).bind fun x1904 =>
      if x1904.From = a1 then
       some (Fl.ret (x1890 : Int))
      else
       m39_l1 a0 a1 a2 k (x1890 + 1)
    else
     some (Fl.go ())
def m39 (a0 : (List D_ref16_Entry)) (a1 : Str) (a2 : Bool) : Option Int :=
  (m39_l1 a0 a1 a2 (a0.length + 1) 0).bind fun r => match r with
  | .ret x => some x
  | .go _ =>
   some (-1)
def post39 (r : Int) (v : Value) (fs : List Fact) : Prop := v = .int .i64 r ∧ fs = [((Ty.int .i64).fact r [.int .i64 r])]
theorem en39 : Enters Tryz.prog 39 := ⟨_, Tryz.func39, by kernel_rfl, rfl⟩
theorem f39_spec {a0 : (List D_ref16_Entry)} {a1 : Str} {a2 : Bool} {w1889 : Value} {r : Int} (hr : m39 a0 a1 a2 = some r) : Spec Tryz.prog 39 [w1889, str a1, .bool a2] [((Ty.slice ty50).fact a0 [w1889]), (Ty.str.fact a1 [str a1])] (post39 r) := by
 refine spec_start (N := 38) Tryz.func39 (by kernel_rfl) rfl rfl rfl ?_
 intro g hS
 unfold m39 at hr
 refine s_sr ?_
 refine s_as rfl ?_
 refine s_nt ?_
 refine at_seq ?_
 refine s_sr ?_
 refine s_as rfl ?_
 refine s_nt ?_
 refine at_int .i64 0 (by simp only [lo, hi]; omega) ?_
 replace hr := obind hr
 obtain ⟨r1891, hl1892, hk1893⟩ := hr
 refine at_cutP (V := (Unit) × (Unit)) (fun v => r1891 = Fl.go v.1) (fun v => (⟨[], [], [], []⟩ : St)) ?_ ?_
 ·refine at_block ?_
  refine at_loopW (σ := Nat) (V := Unit) (r := r1891) (fun n s => m39_l1 a0 a1 a2 n s) (fun s e => (⟨[(0, w1889), (1, str a1), (2, .bool a2), (7, .int .i64 (s : Int))], [], [], [((Ty.int .i64).fact (s : Int) [.int .i64 (s : Int)]), ((Ty.slice ty50).fact a0 [w1889]), (Ty.str.fact a1 [str a1])]⟩ : St)) (fun _ => rfl) _ 0 () hl1892 ⟨⟨rfl, ⟨rfl, ⟨rfl, ⟨rfl, trivial⟩⟩⟩⟩, ⟨[], rfl⟩, ⟨[], rfl⟩, ⟨[0, 1, 2], rfl⟩⟩ ?_
  clear hl1892
  intro n x1890 hr e
  skip
  skip
  change m39_l1 a0 a1 a2 (n + 1) x1890 = some r1891 at hr
  change At _ _ (⟨[(0, w1889), (1, str a1), (2, .bool a2), (7, .int .i64 (x1890 : Int))], [], [], [((Ty.int .i64).fact (x1890 : Int) [.int .i64 (x1890 : Int)]), ((Ty.slice ty50).fact a0 [w1889]), (Ty.str.fact a1 [str a1])]⟩ : St) _
  rw [m39_l1] at hr
  refine at_seq ?_
  refine s_sr ?_
  refine s_mv rfl ?_
  refine s_mv rfl ?_
  refine at_inv 1 rfl (fun i1894 => ?_)
  have l1895 := slice_len i1894
  refine at_lt (lt_flen 1 rfl rfl und22) rfl ?_
  refine at_lt (lt_lss rfl rfl) rfl ?_
  refine s_nt ?_
  by_cases h1896 : x1890 < a0.length
  ·replace hr := ipos h1896 hr
   refine at_true rfl (decide_eq_true (by omega)) ?_
   refine at_skip ?_
   refine at_then ?_
   refine at_seq ?_
   refine at_block ?_
   refine s_sr ?_
   refine s_mv rfl ?_
   refine at_lt (lt_not rfl) rfl ?_
   refine s_mv rfl ?_
   by_cases h1897 : a2 = true
   ·replace hr := ipos h1897 hr
    refine at_off rfl rfl (nt h1897) rfl ?_
    refine at_off rfl rfl (nt h1897) rfl ?_
    refine at_off rfl rfl (nt h1897) rfl ?_
    refine at_off rfl rfl (nt h1897) rfl ?_
    refine at_off rfl rfl (nt h1897) rfl ?_
    refine at_off rfl rfl (nt h1897) rfl ?_
    refine at_off rfl rfl (nt h1897) rfl ?_
    refine at_lt (lt_pick false rfl (nt h1897) rfl) rfl ?_
    refine s_mv rfl ?_
    refine at_on rfl rfl rfl ?_
    refine s_mv rfl ?_
    refine at_on rfl rfl rfl ?_
    refine s_mv rfl ?_
    refine at_on rfl rfl h1897 ?_
    refine s_mv rfl ?_
    refine at_on rfl rfl h1897 ?_
    refine s_mv rfl ?_
    replace hr := obind hr
    obtain ⟨x1898, h1899, hr⟩ := hr
    have := (List.getElem?_eq_some_iff.1 h1899).1
    refine at_elem 1 rfl (nat_at' h1899) (fun p1901 ec pa1902 => ?_)
    refine at_open (A := Value) 0 rfl _ _ (fun F w h => op50 h) ?_
    rintro s1900 rfl
    refine at_on rfl rfl h1897 ?_
    refine at_lt (lt_idx rfl rfl pa1902 und22 ti50) rfl ?_
    refine at_on rfl rfl h1897 ?_
    refine at_lt (lt_fieldAddr 1 rfl fld50_1 rfl) rfl ?_
    refine at_on rfl rfl h1897 ?_
    refine at_lt (lt_load_peek 4 rfl ti9 rfl rfl rfl rfl rfl) rfl ?_
    refine at_on rfl rfl h1897 ?_
    refine s_mv rfl ?_
    refine at_on rfl rfl h1897 ?_
    refine at_lt (lt_seql rfl rfl) rfl ?_
    refine at_on rfl rfl rfl ?_
    refine at_lt (lt_pick true rfl h1897 rfl) rfl ?_
    refine at_lt (lt_pick false rfl rfl rfl) rfl ?_
    refine s_nt ?_
    by_cases h1903 : x1898.To = a1
    ·replace hr := ipos h1903 hr
     refine at_true rfl (decide_eq_true h1903) ?_
     refine s_sr ?_
     refine s_mv rfl ?_
     refine s_as rfl ?_
     refine s_nt ?_
     refine at_ret ?_
     have hq := oinj hr
     clear hr
     subst hq
     have hq := oinj hk1893
     clear hk1893
     subst hq
     refine at_in_ret ?_
     refine at_then_ret ?_
     refine at_then_ret ?_
     refine at_in_ret ?_
     refine at_then_ret ?_
     refine at_then_ret ?_
     exact at_return (.int .i64 (x1890 : Int)) [5] hS Tryz.results39 (.cons (.tmp rfl) .nil) rfl rfl ⟨rfl, rfl⟩
    replace hr := ineg h1903 hr
    refine at_false rfl (decide_eq_false h1903) ?_
    refine at_skip ?_
    refine at_in ?_
    refine s_tr ?_
    refine s_mv rfl ?_
    refine at_lt (lt_add rfl rfl (by simp only [lo, hi]; omega)) rfl ?_
    refine s_as rfl ?_
    refine at_nil ?_
    refine at_int .i64 (x1890 + 1 : Int) (by simp only [lo, hi]; omega) ?_
    exact at_again (σ := Nat) (V := Unit) (lp := fun n s => m39_l1 a0 a1 a2 n s) (S := fun s e => (⟨[(0, w1889), (1, str a1), (2, .bool a2), (7, .int .i64 (s : Int))], [], [], [((Ty.int .i64).fact (s : Int) [.int .i64 (s : Int)]), ((Ty.slice ty50).fact a0 [w1889]), (Ty.str.fact a1 [str a1])]⟩ : St)) (x1890 + 1) () hr ⟨⟨rfl, ⟨rfl, ⟨rfl, ⟨rfl, trivial⟩⟩⟩⟩, ⟨[], rfl⟩, ⟨[], rfl⟩, ⟨[0, 7, 8], rfl⟩⟩
   replace hr := ineg h1897 hr
   refine at_on rfl rfl (nf (bf h1897)) ?_
   refine s_mv rfl ?_
   refine at_on rfl rfl (nf (bf h1897)) ?_
   refine s_mv rfl ?_
   replace hr := obind hr
   obtain ⟨x1904, h1905, hr⟩ := hr
   have := (List.getElem?_eq_some_iff.1 h1905).1
   refine at_elem 1 rfl (nat_at' h1905) (fun p1907 ec pa1908 => ?_)
   refine at_open (A := Value) 0 rfl _ _ (fun F w h => op50 h) ?_
   rintro s1906 rfl
   refine at_on rfl rfl (nf (bf h1897)) ?_
   refine at_lt (lt_idx rfl rfl pa1908 und22 ti50) rfl ?_
   refine at_on rfl rfl (nf (bf h1897)) ?_
   refine at_lt (lt_fieldAddr 0 rfl fld50_0 rfl) rfl ?_
   refine at_on rfl rfl (nf (bf h1897)) ?_
   refine at_lt (lt_load_peek 4 rfl ti9 rfl rfl rfl rfl rfl) rfl ?_
   refine at_on rfl rfl (nf (bf h1897)) ?_
   refine s_mv rfl ?_
   refine at_on rfl rfl (nf (bf h1897)) ?_
   refine at_lt (lt_seql rfl rfl) rfl ?_
   refine at_lt (lt_pick true rfl (nf (bf h1897)) rfl) rfl ?_
   refine s_mv rfl ?_
   by_cases h1909 : x1904.From = a1
   ·replace hr := ipos h1909 hr
    refine at_off rfl rfl (decide_eq_true h1909) rfl ?_
    refine at_off rfl rfl (decide_eq_true h1909) rfl ?_
    refine at_offu rfl rfl rfl ?_
    refine at_offu rfl rfl rfl ?_
    refine at_offu rfl rfl rfl ?_
    refine at_offu rfl rfl rfl ?_
    refine at_offu rfl rfl rfl ?_
    refine at_offu rfl rfl rfl ?_
    refine at_offu rfl rfl rfl ?_
    refine at_off rfl rfl (decide_eq_true h1909) rfl ?_
    refine at_lt (lt_pick true rfl (decide_eq_true h1909) rfl) rfl ?_
    refine s_nt ?_
    refine at_true rfl rfl ?_
    refine s_sr ?_
    refine s_mv rfl ?_
    refine s_as rfl ?_
    refine s_nt ?_
    refine at_ret ?_
    have hq := oinj hr
    clear hr
    subst hq
    have hq := oinj hk1893
    clear hk1893
    subst hq
    refine at_in_ret ?_
    refine at_then_ret ?_
    refine at_then_ret ?_
    refine at_in_ret ?_
    refine at_then_ret ?_
    refine at_then_ret ?_
    exact at_return (.int .i64 (x1890 : Int)) [5] hS Tryz.results39 (.cons (.tmp rfl) .nil) rfl rfl ⟨rfl, rfl⟩
   replace hr := ineg h1909 hr
   refine at_on rfl rfl (decide_eq_false h1909) ?_
   refine s_mv rfl ?_
   refine at_on rfl rfl (decide_eq_false h1909) ?_
   refine s_mv rfl ?_
   refine at_off rfl rfl (bf h1897) rfl ?_
   refine at_off rfl rfl (bf h1897) rfl ?_
   refine at_off rfl rfl (bf h1897) rfl ?_
   refine at_off rfl rfl (bf h1897) rfl ?_
   refine at_off rfl rfl (bf h1897) rfl ?_
   refine at_off rfl rfl (bf h1897) rfl ?_
   refine at_off rfl rfl (bf h1897) rfl ?_
   refine at_on rfl rfl (decide_eq_false h1909) ?_
   refine at_lt (lt_pick false rfl (bf h1897) rfl) rfl ?_
   refine at_lt (lt_pick false rfl (decide_eq_false h1909) rfl) rfl ?_
   refine s_nt ?_
   refine at_false rfl rfl ?_
   refine at_skip ?_
   refine at_in ?_
   refine s_tr ?_
   refine s_mv rfl ?_
   refine at_lt (lt_add rfl rfl (by simp only [lo, hi]; omega)) rfl ?_
   refine s_as rfl ?_
   refine at_nil ?_
   refine at_int .i64 (x1890 + 1 : Int) (by simp only [lo, hi]; omega) ?_
   exact at_again (σ := Nat) (V := Unit) (lp := fun n s => m39_l1 a0 a1 a2 n s) (S := fun s e => (⟨[(0, w1889), (1, str a1), (2, .bool a2), (7, .int .i64 (s : Int))], [], [], [((Ty.int .i64).fact (s : Int) [.int .i64 (s : Int)]), ((Ty.slice ty50).fact a0 [w1889]), (Ty.str.fact a1 [str a1])]⟩ : St)) (x1890 + 1) () hr ⟨⟨rfl, ⟨rfl, ⟨rfl, ⟨rfl, trivial⟩⟩⟩⟩, ⟨[], rfl⟩, ⟨[], rfl⟩, ⟨[0, 7, 8], rfl⟩⟩
  replace hr := ineg h1896 hr
  refine at_false rfl (decide_eq_false (by omega)) ?_
  refine at_exit ?_
  refine at_then_exit ?_
  refine at_then_exit ?_
  refine at_in_exit ?_
  have hq := oinj hr
  clear hr
  subst hq
  exact at_leafP ((), ()) rfl ⟨trivial, ⟨[], rfl⟩, ⟨[], rfl⟩, ⟨[], rfl⟩⟩
 rintro ⟨_, _⟩ hp
 replace hr := hk1893
 subst hp
 clear hl1892
 change At _ _ (⟨[], [], [], []⟩ : St) _
 refine s_tsr ?_
 refine s_as rfl ?_
 refine s_nt ?_
 refine at_ret ?_
 have hq := oinj hr
 clear hr
 subst hq
 refine at_int .i64 (-1) (by simp only [lo, hi]; omega) ?_
 exact at_return (.int .i64 (-1)) [0] hS Tryz.results39 (.cons (.tmp rfl) .nil) rfl rfl ⟨rfl, rfl⟩
/-! 40 bookplate/bookplateref16.code -/
def m40_l1 (a0 : (List D_ref16_Pair)) (a1 : UInt8) (a2 : Bool) : Nat → Nat → Option (Fl UInt8 Unit)
  | 0, _ => none
  | k + 1, x1911 =>
    if x1911 < a0.length then
     Option.bind (α := Bool) (
      if a2 = true then
       some false
      else
       (a0[x1911]?).bind fun x1921 =>
       some (decide ((x1921.From.toNat : Int) = (a1.toNat : Int)))
     ) fun x1918 =>
     if x1918 = true then
      (a0[x1911]?).bind fun x1926 =>
      some (Fl.ret x1926.To)
     else
      Option.bind (α := Bool) (
       if a2 = true then
        (a0[x1911]?).bind fun x1933 =>
        some (decide ((x1933.To.toNat : Int) = (a1.toNat : Int)))
       else
        some false
      ) fun x1930 =>
      if x1930 = true then
       (a0[x1911]?).bind fun x1938 =>
       some (Fl.ret x1938.From)
      else
       m40_l1 a0 a1 a2 k (x1911 + 1)
    else
     some (Fl.go ())
def m40 (a0 : (List D_ref16_Pair)) (a1 : UInt8) (a2 : Bool) : Option UInt8 :=
  (m40_l1 a0 a1 a2 (a0.length + 1) 0).bind fun r => match r with
  | .ret x => some x
  | .go _ =>
   some 0
def post40 (r : UInt8) (v : Value) (fs : List Fact) : Prop := v = .int .u8 (r.toNat : Int) ∧ fs = []
theorem en40 : Enters Tryz.prog 40 := ⟨_, Tryz.func40, by kernel_rfl, rfl⟩
theorem f40_spec {a0 : (List D_ref16_Pair)} {a1 : UInt8} {a2 : Bool} {w1910 : Value} {r : UInt8} (hr : m40 a0 a1 a2 = some r) : Spec Tryz.prog 40 [w1910, .int .u8 (a1.toNat : Int), .bool a2] [((Ty.slice ty83).fact a0 [w1910])] (post40 r) := by
 refine spec_start (N := 45) Tryz.func40 (by kernel_rfl) rfl rfl rfl ?_
 intro g hS
 unfold m40 at hr
 refine s_sr ?_
 refine s_as rfl ?_
 refine s_nt ?_
 refine at_seq ?_
 refine s_sr ?_
 refine s_as rfl ?_
 refine s_nt ?_
 refine at_int .i64 0 (by simp only [lo, hi]; omega) ?_
 replace hr := obind hr
 obtain ⟨r1912, hl1913, hk1914⟩ := hr
 refine at_cutP (V := (Unit) × (Unit)) (fun v => r1912 = Fl.go v.1) (fun v => (⟨[], [], [], []⟩ : St)) ?_ ?_
 ·refine at_block ?_
  refine at_loopW (σ := Nat) (V := Unit) (r := r1912) (fun n s => m40_l1 a0 a1 a2 n s) (fun s e => (⟨[(0, w1910), (1, .int .u8 (a1.toNat : Int)), (2, .bool a2), (7, .int .i64 (s : Int))], [], [], [((Ty.int .i64).fact (s : Int) [.int .i64 (s : Int)]), ((Ty.slice ty83).fact a0 [w1910])]⟩ : St)) (fun _ => rfl) _ 0 () hl1913 ⟨⟨rfl, ⟨rfl, ⟨rfl, ⟨rfl, trivial⟩⟩⟩⟩, ⟨[], rfl⟩, ⟨[], rfl⟩, ⟨[0, 1], rfl⟩⟩ ?_
  clear hl1913
  intro n x1911 hr e
  skip
  skip
  change m40_l1 a0 a1 a2 (n + 1) x1911 = some r1912 at hr
  change At _ _ (⟨[(0, w1910), (1, .int .u8 (a1.toNat : Int)), (2, .bool a2), (7, .int .i64 (x1911 : Int))], [], [], [((Ty.int .i64).fact (x1911 : Int) [.int .i64 (x1911 : Int)]), ((Ty.slice ty83).fact a0 [w1910])]⟩ : St) _
  rw [m40_l1] at hr
  refine at_seq ?_
  refine s_sr ?_
  refine s_mv rfl ?_
  refine s_mv rfl ?_
  refine at_inv 1 rfl (fun i1915 => ?_)
  have l1916 := slice_len i1915
  refine at_lt (lt_flen 1 rfl rfl und48) rfl ?_
  refine at_lt (lt_lss rfl rfl) rfl ?_
  refine s_nt ?_
  by_cases h1917 : x1911 < a0.length
  ·replace hr := ipos h1917 hr
   refine at_true rfl (decide_eq_true (by omega)) ?_
   refine at_skip ?_
   refine at_then ?_
   refine at_seq ?_
   refine at_block ?_
   refine at_seq ?_
   refine at_seq ?_
   replace hr := obind hr
   obtain ⟨x1918, hc1919, hr⟩ := hr
   refine at_cut (V := Unit) (fun e => (⟨[(0, w1910), (1, .int .u8 (a1.toNat : Int)), (2, .bool a2), (7, .int .i64 (x1911 : Int)), (24, .bool x1918)], [], [], [((Ty.slice ty83).fact a0 [w1910]), ((Ty.int .i64).fact (x1911 : Int) [.int .i64 (x1911 : Int)])]⟩ : St)) ?_ ?_
   ·clear hr
    have hr := hc1919
    clear hc1919
    refine at_region ?_
    refine s_mv rfl ?_
    refine at_lt (lt_not rfl) rfl ?_
    refine s_mv rfl ?_
    by_cases h1920 : a2 = true
    ·replace hr := ipos h1920 hr
     refine at_off rfl rfl (nt h1920) rfl ?_
     refine at_off rfl rfl (nt h1920) rfl ?_
     refine at_off rfl rfl (nt h1920) rfl ?_
     refine at_off rfl rfl (nt h1920) rfl ?_
     refine at_off rfl rfl (nt h1920) rfl ?_
     refine at_off rfl rfl (nt h1920) rfl ?_
     refine at_off rfl rfl (nt h1920) rfl ?_
     refine at_lt (lt_pick false rfl (nt h1920) rfl) rfl ?_
     refine at_nil ?_
     have hq := oinj hr
     clear hr
     subst hq
     exact at_leaf () ⟨⟨rfl, ⟨rfl, ⟨rfl, ⟨rfl, ⟨rfl, trivial⟩⟩⟩⟩⟩, ⟨[], rfl⟩, ⟨[], rfl⟩, ⟨[1, 0], rfl⟩⟩
    replace hr := ineg h1920 hr
    refine at_on rfl rfl (nf (bf h1920)) ?_
    refine s_mv rfl ?_
    refine at_on rfl rfl (nf (bf h1920)) ?_
    refine s_mv rfl ?_
    replace hr := obind hr
    obtain ⟨x1921, h1922, hr⟩ := hr
    have := (List.getElem?_eq_some_iff.1 h1922).1
    refine at_elem 1 rfl (nat_at' h1922) (fun p1923 ec pa1924 => ?_)
    refine at_open (A := Unit) 0 rfl _ _ (fun F w h => op83 h) ?_
    rintro _ rfl
    refine at_on rfl rfl (nf (bf h1920)) ?_
    refine at_lt (lt_idx rfl rfl pa1924 und48 ti83) rfl ?_
    refine at_on rfl rfl (nf (bf h1920)) ?_
    refine at_lt (lt_fieldAddr 0 rfl fld83_0 rfl) rfl ?_
    refine at_on rfl rfl (nf (bf h1920)) ?_
    refine at_lt (lt_load_peek 1 rfl ti5 rfl rfl rfl rfl rfl) rfl ?_
    refine at_on rfl rfl (nf (bf h1920)) ?_
    refine s_mv rfl ?_
    refine at_on rfl rfl (nf (bf h1920)) ?_
    refine at_lt (lt_eql rfl rfl) rfl ?_
    refine at_lt (lt_pick true rfl (nf (bf h1920)) rfl) rfl ?_
    refine at_nil ?_
    have hq := oinj hr
    clear hr
    subst hq
    exact at_leaf () ⟨⟨rfl, ⟨rfl, ⟨rfl, ⟨rfl, ⟨rfl, trivial⟩⟩⟩⟩⟩, ⟨[], rfl⟩, ⟨[], rfl⟩, ⟨[3, 2], rfl⟩⟩
   clear hc1919
   intro _
   change At _ _ (⟨[(0, w1910), (1, .int .u8 (a1.toNat : Int)), (2, .bool a2), (7, .int .i64 (x1911 : Int)), (24, .bool x1918)], [], [], [((Ty.slice ty83).fact a0 [w1910]), ((Ty.int .i64).fact (x1911 : Int) [.int .i64 (x1911 : Int)])]⟩ : St) _
   refine at_then ?_
   by_cases h1925 : x1918 = true
   ·replace hr := ipos h1925 hr
    refine at_true rfl h1925 ?_
    refine s_sr ?_
    refine s_mv rfl ?_
    refine s_mv rfl ?_
    replace hr := obind hr
    obtain ⟨x1926, h1927, hr⟩ := hr
    have := (List.getElem?_eq_some_iff.1 h1927).1
    refine at_elem 0 rfl (nat_at' h1927) (fun p1928 ec pa1929 => ?_)
    refine at_open (A := Unit) 0 rfl _ _ (fun F w h => op83 h) ?_
    rintro _ rfl
    refine at_lt (lt_idx rfl rfl pa1929 und48 ti83) rfl ?_
    refine at_lt (lt_fieldAddr 1 rfl fld83_1 rfl) rfl ?_
    refine at_lt (lt_load_peek 1 rfl ti5 rfl rfl rfl rfl rfl) rfl ?_
    refine s_as rfl ?_
    refine s_nt ?_
    refine at_ret ?_
    have hq := oinj hr
    clear hr
    subst hq
    have hq := oinj hk1914
    clear hk1914
    subst hq
    refine at_then_ret ?_
    refine at_in_ret ?_
    refine at_then_ret ?_
    refine at_then_ret ?_
    refine at_in_ret ?_
    refine at_then_ret ?_
    refine at_then_ret ?_
    exact at_return (.int .u8 (x1926.To.toNat : Int)) [] hS Tryz.results40 (.cons (.tmp rfl) .nil) rfl rfl ⟨rfl, rfl⟩
   replace hr := ineg h1925 hr
   refine at_false rfl (bf h1925) ?_
   refine at_skip ?_
   refine at_then ?_
   refine at_seq ?_
   replace hr := obind hr
   obtain ⟨x1930, hc1931, hr⟩ := hr
   refine at_cut (V := Unit) (fun e => (⟨[(0, w1910), (1, .int .u8 (a1.toNat : Int)), (2, .bool a2), (7, .int .i64 (x1911 : Int)), (39, .bool x1930)], [], [], [((Ty.slice ty83).fact a0 [w1910]), ((Ty.int .i64).fact (x1911 : Int) [.int .i64 (x1911 : Int)])]⟩ : St)) ?_ ?_
   ·clear hr
    have hr := hc1931
    clear hc1931
    refine at_region ?_
    refine s_mv rfl ?_
    refine s_mv rfl ?_
    by_cases h1932 : a2 = true
    ·replace hr := ipos h1932 hr
     refine at_on rfl rfl h1932 ?_
     refine s_mv rfl ?_
     refine at_on rfl rfl h1932 ?_
     refine s_mv rfl ?_
     replace hr := obind hr
     obtain ⟨x1933, h1934, hr⟩ := hr
     have := (List.getElem?_eq_some_iff.1 h1934).1
     refine at_elem 0 rfl (nat_at' h1934) (fun p1935 ec pa1936 => ?_)
     refine at_open (A := Unit) 0 rfl _ _ (fun F w h => op83 h) ?_
     rintro _ rfl
     refine at_on rfl rfl h1932 ?_
     refine at_lt (lt_idx rfl rfl pa1936 und48 ti83) rfl ?_
     refine at_on rfl rfl h1932 ?_
     refine at_lt (lt_fieldAddr 1 rfl fld83_1 rfl) rfl ?_
     refine at_on rfl rfl h1932 ?_
     refine at_lt (lt_load_peek 1 rfl ti5 rfl rfl rfl rfl rfl) rfl ?_
     refine at_on rfl rfl h1932 ?_
     refine s_mv rfl ?_
     refine at_on rfl rfl h1932 ?_
     refine at_lt (lt_eql rfl rfl) rfl ?_
     refine at_lt (lt_pick true rfl h1932 rfl) rfl ?_
     refine at_nil ?_
     have hq := oinj hr
     clear hr
     subst hq
     exact at_leaf () ⟨⟨rfl, ⟨rfl, ⟨rfl, ⟨rfl, ⟨rfl, trivial⟩⟩⟩⟩⟩, ⟨[], rfl⟩, ⟨[], rfl⟩, ⟨[2, 3], rfl⟩⟩
    replace hr := ineg h1932 hr
    refine at_off rfl rfl (bf h1932) rfl ?_
    refine at_off rfl rfl (bf h1932) rfl ?_
    refine at_off rfl rfl (bf h1932) rfl ?_
    refine at_off rfl rfl (bf h1932) rfl ?_
    refine at_off rfl rfl (bf h1932) rfl ?_
    refine at_off rfl rfl (bf h1932) rfl ?_
    refine at_off rfl rfl (bf h1932) rfl ?_
    refine at_lt (lt_pick false rfl (bf h1932) rfl) rfl ?_
    refine at_nil ?_
    have hq := oinj hr
    clear hr
    subst hq
    exact at_leaf () ⟨⟨rfl, ⟨rfl, ⟨rfl, ⟨rfl, ⟨rfl, trivial⟩⟩⟩⟩⟩, ⟨[], rfl⟩, ⟨[], rfl⟩, ⟨[0, 1], rfl⟩⟩
   clear hc1931
   intro _
   change At _ _ (⟨[(0, w1910), (1, .int .u8 (a1.toNat : Int)), (2, .bool a2), (7, .int .i64 (x1911 : Int)), (39, .bool x1930)], [], [], [((Ty.slice ty83).fact a0 [w1910]), ((Ty.int .i64).fact (x1911 : Int) [.int .i64 (x1911 : Int)])]⟩ : St) _
   refine at_then ?_
   by_cases h1937 : x1930 = true
   ·replace hr := ipos h1937 hr
    refine at_true rfl h1937 ?_
    refine s_sr ?_
    refine s_mv rfl ?_
    refine s_mv rfl ?_
    replace hr := obind hr
    obtain ⟨x1938, h1939, hr⟩ := hr
    have := (List.getElem?_eq_some_iff.1 h1939).1
    refine at_elem 0 rfl (nat_at' h1939) (fun p1940 ec pa1941 => ?_)
    refine at_open (A := Unit) 0 rfl _ _ (fun F w h => op83 h) ?_
    rintro _ rfl
    refine at_lt (lt_idx rfl rfl pa1941 und48 ti83) rfl ?_
    refine at_lt (lt_fieldAddr 0 rfl fld83_0 rfl) rfl ?_
    refine at_lt (lt_load_peek 1 rfl ti5 rfl rfl rfl rfl rfl) rfl ?_
    refine s_as rfl ?_
    refine s_nt ?_
    refine at_ret ?_
    have hq := oinj hr
    clear hr
    subst hq
    have hq := oinj hk1914
    clear hk1914
    subst hq
    refine at_in_ret ?_
    refine at_then_ret ?_
    refine at_then_ret ?_
    refine at_in_ret ?_
    refine at_then_ret ?_
    refine at_then_ret ?_
    exact at_return (.int .u8 (x1938.From.toNat : Int)) [] hS Tryz.results40 (.cons (.tmp rfl) .nil) rfl rfl ⟨rfl, rfl⟩
   replace hr := ineg h1937 hr
   refine at_false rfl (bf h1937) ?_
   refine at_skip ?_
   refine at_in ?_
   refine s_tr ?_
   refine s_mv rfl ?_
   refine at_lt (lt_add rfl rfl (by simp only [lo, hi]; omega)) rfl ?_
   refine s_as rfl ?_
   refine at_nil ?_
   refine at_int .i64 (x1911 + 1 : Int) (by simp only [lo, hi]; omega) ?_
   exact at_again (σ := Nat) (V := Unit) (lp := fun n s => m40_l1 a0 a1 a2 n s) (S := fun s e => (⟨[(0, w1910), (1, .int .u8 (a1.toNat : Int)), (2, .bool a2), (7, .int .i64 (s : Int))], [], [], [((Ty.int .i64).fact (s : Int) [.int .i64 (s : Int)]), ((Ty.slice ty83).fact a0 [w1910])]⟩ : St)) (x1911 + 1) () hr ⟨⟨rfl, ⟨rfl, ⟨rfl, ⟨rfl, trivial⟩⟩⟩⟩, ⟨[], rfl⟩, ⟨[], rfl⟩, ⟨[0, 1], rfl⟩⟩
  replace hr := ineg h1917 hr
  refine at_false rfl (decide_eq_false (by omega)) ?_
  refine at_exit ?_
  refine at_then_exit ?_
  refine at_then_exit ?_
  refine at_in_exit ?_
  have hq := oinj hr
  clear hr
  subst hq
  exact at_leafP ((), ()) rfl ⟨trivial, ⟨[], rfl⟩, ⟨[], rfl⟩, ⟨[], rfl⟩⟩
 rintro ⟨_, _⟩ hp
 replace hr := hk1914
 subst hp
 clear hl1913
 change At _ _ (⟨[], [], [], []⟩ : St) _
 refine s_tsr ?_
 refine s_as rfl ?_
 refine s_nt ?_
 refine at_ret ?_
 have hq := oinj hr
 clear hr
 subst hq
 exact at_return (.int .u8 0) [] hS Tryz.results40 (.cons (.tmp rfl) .nil) rfl rfl ⟨rfl, rfl⟩
/-! 13 bookplate/bookplateref16.Covers -/
def m13_l2 (a0 : (List D_ref16_Entry)) (a1 : D_api_Record) (x1960 : Nat) (x1972 : Int) : Nat → Nat → Option (Fl (Fl Bool Unit) Unit)
  | 0, _ => none
  | k + 1, x1976 =>
    (a1.Fields[x1960]?).bind fun x1980 =>
    if x1976 < x1980.Subs.length then
     (at? a0 x1972).bind fun x1988 =>
     (a1.Fields[x1960]?).bind fun x1993 =>
     (x1993.Subs[x1976]?).bind fun x1998 =>
     (m40 x1988.Codes x1998.Code false).bind fun x2002 =>
     if x2002.toNat = 0 then
      some (Fl.ret (Fl.ret false))
     else
      m13_l2 a0 a1 x1960 x1972 k (x1976 + 1)
    else
     some (Fl.go ())
def m13_l1 (a0 : (List D_ref16_Entry)) (a1 : D_api_Record) : Nat → Nat → Option (Fl Bool Unit)
  | 0, _ => none
  | k + 1, x1960 =>
    if x1960 < a1.Fields.length then
     (a1.Fields[x1960]?).bind fun x1967 =>
     (m39 a0 x1967.Tag false).bind fun x1972 =>
     if x1972 < 0 then
      some (Fl.ret false)
     else
      (m13_l2 a0 a1 x1960 x1972 9223372036854775808 0).bind fun r => match r with
      | .ret x => some x
      | .go _ =>
       m13_l1 a0 a1 k (x1960 + 1)
    else
     some (Fl.go ())
def m13 (a0 : (List D_ref16_Entry)) (a1 : D_api_Record) : Option Bool :=
  (m24 a0).bind fun x1946 =>
  if x1946 = true then
   (m25 (⟨a1.ID, a1.Fields⟩ : D_api_Record)).bind fun x1949 =>
   if x1949 = true then
    (m38 (⟨a1.ID, a1.Fields⟩ : D_api_Record)).bind fun x1952 =>
    (m18 x1952 (⟨a1.ID, a1.Fields⟩ : D_api_Record)).bind fun x1956 =>
    if x1956 = true then
     (m13_l1 a0 a1 (a1.Fields.length + 1) 0).bind fun r => match r with
     | .ret x => some x
     | .go _ =>
      some true
    else
     some false
   else
    some false
  else
   some false
def post13 (r : Bool) (v : Value) (fs : List Fact) : Prop := v = .bool r ∧ fs = []
theorem en13 : Enters Tryz.prog 13 := ⟨_, Tryz.func13, by kernel_rfl, rfl⟩
theorem f13_spec {a0 : (List D_ref16_Entry)} {a1 : D_api_Record} {w1942 : Value} {s1943 : Value} {r : Bool} (hr : m13 a0 a1 = some r) : Spec Tryz.prog 13 [w1942, .agg #[.int .i64 a1.ID, s1943]] [((Ty.slice ty50).fact a0 [w1942]), (ty25.fact a1 [.int .i64 a1.ID, s1943])] (post13 r) := by
 refine spec_start (N := 68) Tryz.func13 (by kernel_rfl) rfl rfl rfl ?_
 intro g hS
 unfold m13 at hr
 refine at_open (A := Unit) 1 rfl (fun _ => True) (fun _ => [((Ty.int .i64).fact a1.ID [.int .i64 a1.ID]), ((Ty.slice ty69).fact a1.Fields [s1943])]) (fun F w h => ⟨(), trivial, ex25 h⟩) (fun _ _ => ?_)
 refine at_inv 0 rfl (fun l1944 => ?_)
 replace l1944 : (-9223372036854775808) ≤ a1.ID ∧ a1.ID ≤ 9223372036854775807 := l1944
 refine s_sr ?_
 refine at_hv rfl ?_
 refine hv_box (cs := [.int .i64 a1.ID, s1943]) rfl rfl rfl (fun b1945 => ?_)
 refine s_as rfl ?_
 refine s_nt ?_
 refine at_seq ?_
 refine at_seq ?_
 replace hr := obind hr
 obtain ⟨x1946, h1947, hr⟩ := hr
 by_cases h1948 : x1946 = true
 ·replace hr := ipos h1948 hr
  replace hr := obind hr
  obtain ⟨x1949, h1950, hr⟩ := hr
  by_cases h1951 : x1949 = true
  ·replace hr := ipos h1951 hr
   replace hr := obind hr
   obtain ⟨x1952, h1953, hr⟩ := hr
   replace hr := obind hr
   obtain ⟨x1956, h1957, hr⟩ := hr
   refine aa_start 15 (by kernel_rfl) ?_
   refine aa_p 0 rfl (lt_move rfl) ?_
   refine aa_one 1 ?_
   refine aa_op rfl rfl ?_
   refine hv_call0 [2] (f24_spec h1947) rfl rfl rfl rfl ?_
   rintro _ _ ⟨rfl, rfl⟩
   refine aa_p 2 rfl (lt_not rfl) ?_
   refine aa_p 3 rfl (lt_move rfl) ?_
   refine aa_lg 4 rfl ⟨11, rfl, .inl ⟨_, rfl, gdq (v := false) (nt h1948) rfl⟩⟩ (lt_load_box 0 rfl ti25 rfl rfl rfl rfl rfl) ?_
   refine aa_one 5 ?_
   refine at_derive [0, 1] (ty25.fact (⟨a1.ID, a1.Fields⟩ : D_api_Record) [.int .i64 a1.ID, s1943]) rfl (fun F w h => mk25 (x := (⟨a1.ID, a1.Fields⟩ : D_api_Record)) h) ?_
   refine aa_op rfl ⟨11, rfl, .inl ⟨_, rfl, gdq (v := false) (nt h1948) rfl⟩⟩ ?_
   refine hv_call0 [0] (f25_spec h1950) rfl rfl rfl rfl ?_
   rintro _ _ ⟨rfl, rfl⟩
   refine aa_pure 6 rfl (by kernel_rfl) rfl ⟨11, rfl, .inl ⟨_, rfl, gdq (v := false) (nt h1948) rfl⟩⟩ (lt_not rfl) rfl (ts_in 0 1 rfl rfl) ?_
   refine aa_pure 7 rfl (by kernel_rfl) rfl rfl (lt_pick false rfl (nt h1948) rfl) rfl (ts_in 0 1 rfl rfl) ?_
   refine aa_pure 8 rfl (by kernel_rfl) rfl rfl (lt_move rfl) rfl (ts_in 0 1 rfl rfl) ?_
   refine aa_load 9 rfl (by kernel_rfl) rfl ⟨16, rfl, .inl ⟨_, rfl, gdq (v := false) (nt h1951) rfl⟩⟩ (lt_load_box 0 rfl ti25 rfl rfl rfl rfl rfl) rfl (ts_in 0 1 rfl rfl) ?_
   refine aa_load 11 rfl (by kernel_rfl) rfl ⟨16, rfl, .inl ⟨_, rfl, gdq (v := false) (nt h1951) rfl⟩⟩ (lt_load_box 0 rfl ti25 rfl rfl rfl rfl rfl) rfl (ts_in 0 1 rfl rfl) ?_
   refine aa_all (rs := [10]) (by kernel_rfl) rfl (ts_in 0 1 rfl rfl) (List.forall_mem_singleton.2 ?_)
   refine aa_op rfl ⟨16, rfl, .inl ⟨_, rfl, gdq (v := false) (nt h1951) rfl⟩⟩ ?_
   refine hv_call0 [0] (f38_spec h1953) rfl rfl rfl rfl ?_
   rintro _ _ ⟨s1954, rfl, rfl⟩
   refine at_open (A := Unit) 0 rfl (fun _ => True) (fun _ => [((Ty.int .i64).fact x1952.ID [.int .i64 x1952.ID]), ((Ty.slice ty69).fact x1952.Fields [s1954])]) (fun F w h => ⟨(), trivial, ex25 h⟩) (fun _ _ => ?_)
   refine at_inv 0 rfl (fun l1958 => ?_)
   replace l1958 : (-9223372036854775808) ≤ x1952.ID ∧ x1952.ID ≤ 9223372036854775807 := l1958
   refine aa_all (rs := [12]) (by kernel_rfl) rfl (ts_in 0 4 rfl rfl) (List.forall_mem_singleton.2 ?_)
   refine aa_op rfl ⟨16, rfl, .inl ⟨_, rfl, gdq (v := false) (nt h1951) rfl⟩⟩ ?_
   refine hv_call0 [2, 3] (f18_spec h1957) rfl rfl rfl rfl ?_
   rintro _ _ ⟨rfl, rfl⟩
   refine aa_pure 13 rfl (by kernel_rfl) rfl ⟨16, rfl, .inl ⟨_, rfl, gdq (v := false) (nt h1951) rfl⟩⟩ (lt_not rfl) rfl (ts_in 0 4 rfl rfl) ?_
   refine aa_pure 14 rfl (by kernel_rfl) rfl rfl (lt_pick false rfl (nt h1951) rfl) rfl (ts_in 0 4 rfl rfl) ?_
   refine aa_done (by kernel_rfl) (ts_in 0 4 rfl rfl) ?_
   refine at_then ?_
   by_cases h1959 : x1956 = true
   ·replace hr := ipos h1959 hr
    refine at_false rfl (nt h1959) ?_
    refine at_skip ?_
    refine at_then ?_
    refine at_seq ?_
    refine s_sr ?_
    refine s_as rfl ?_
    refine s_nt ?_
    refine at_int .i64 0 (by simp only [lo, hi]; omega) ?_
    replace hr := obind hr
    obtain ⟨r1961, hl1962, hk1963⟩ := hr
    refine at_cutP (V := (Unit) × (Unit)) (fun v => r1961 = Fl.go v.1) (fun v => (⟨[], [], [], []⟩ : St)) ?_ ?_
    ·refine at_block ?_
     refine at_loopW (σ := Nat) (V := Unit) (r := r1961) (fun n s => m13_l1 a0 a1 n s) (fun s e => (⟨[(0, w1942), (3, .pointer (some (Addr.add ⟨b1945, 0, none⟩ 0))), (5, .int .i64 (s : Int))], [⟨b1945, [.int .i64 a1.ID, s1943], 25⟩], [], [((Ty.int .i64).fact (s : Int) [.int .i64 (s : Int)]), ((Ty.slice ty50).fact a0 [w1942]), ((Ty.int .i64).fact a1.ID [.int .i64 a1.ID]), ((Ty.slice ty69).fact a1.Fields [s1943])]⟩ : St)) (fun _ => rfl) _ 0 () hl1962 ⟨⟨rfl, ⟨rfl, ⟨rfl, trivial⟩⟩⟩, ⟨[true], rfl⟩, ⟨[], rfl⟩, ⟨[0, 7, 5, 6], rfl⟩⟩ ?_
     clear hl1962
     intro n x1960 hr e
     skip
     skip
     change m13_l1 a0 a1 (n + 1) x1960 = some r1961 at hr
     change At _ _ (⟨[(0, w1942), (3, .pointer (some (Addr.add ⟨b1945, 0, none⟩ 0))), (5, .int .i64 (x1960 : Int))], [⟨b1945, [.int .i64 a1.ID, s1943], 25⟩], [], [((Ty.int .i64).fact (x1960 : Int) [.int .i64 (x1960 : Int)]), ((Ty.slice ty50).fact a0 [w1942]), ((Ty.int .i64).fact a1.ID [.int .i64 a1.ID]), ((Ty.slice ty69).fact a1.Fields [s1943])]⟩ : St) _
     rw [m13_l1] at hr
     refine at_seq ?_
     refine s_sr ?_
     refine s_mv rfl ?_
     refine at_lt (lt_fieldAddr 1 rfl fld25_1 rfl) rfl ?_
     refine at_lt (lt_load_box 0 rfl ti23 rfl rfl rfl rfl rfl) rfl ?_
     refine at_inv 3 rfl (fun i1964 => ?_)
     have l1965 := slice_len i1964
     refine at_lt (lt_flen 3 rfl rfl und23) rfl ?_
     refine at_lt (lt_lss rfl rfl) rfl ?_
     refine s_nt ?_
     by_cases h1966 : x1960 < a1.Fields.length
     ·replace hr := ipos h1966 hr
      refine at_true rfl (decide_eq_true (by omega)) ?_
      refine at_skip ?_
      refine at_then ?_
      refine at_seq ?_
      refine at_block ?_
      refine s_sr ?_
      refine s_mv rfl ?_
      refine at_lt (lt_fieldAddr 1 rfl fld25_1 rfl) rfl ?_
      refine at_lt (lt_load_box 0 rfl ti23 rfl rfl rfl rfl rfl) rfl ?_
      refine s_mv rfl ?_
      replace hr := obind hr
      obtain ⟨x1967, h1968, hr⟩ := hr
      have := (List.getElem?_eq_some_iff.1 h1968).1
      refine at_elem 3 rfl (nat_at' h1968) (fun p1970 ec pa1971 => ?_)
      refine at_open (A := Value) 0 rfl _ _ (fun F w h => op69 h) ?_
      rintro s1969 rfl
      refine at_lt (lt_idx rfl rfl pa1971 und23 ti69) rfl ?_
      refine at_lt (lt_fieldAddr 0 rfl fld69_0 rfl) rfl ?_
      refine at_lt (lt_load_peek 3 rfl ti9 rfl rfl rfl rfl rfl) rfl ?_
      replace hr := obind hr
      obtain ⟨x1972, h1973, hr⟩ := hr
      refine at_hv rfl ?_
      refine hv_call0 [5, 0] (f39_spec h1973) rfl rfl rfl rfl ?_
      rintro _ _ ⟨rfl, rfl⟩
      refine at_inv 0 rfl (fun l1974 => ?_)
      replace l1974 : (-9223372036854775808) ≤ x1972 ∧ x1972 ≤ 9223372036854775807 := l1974
      refine s_as rfl ?_
      refine s_nt ?_
      refine at_seq ?_
      refine s_sr ?_
      refine s_mv rfl ?_
      refine at_lt (lt_lss rfl rfl) rfl ?_
      refine s_nt ?_
      by_cases h1975 : x1972 < 0
      ·replace hr := ipos h1975 hr
       refine at_true rfl (decide_eq_true (by first | exact h1975 | omega)) ?_
       refine s_sr ?_
       refine s_as rfl ?_
       refine s_nt ?_
       refine at_ret ?_
       have hq := oinj hr
       clear hr
       subst hq
       have hq := oinj hk1963
       clear hk1963
       subst hq
       refine at_then_ret ?_
       refine at_in_ret ?_
       refine at_then_ret ?_
       refine at_then_ret ?_
       refine at_in_ret ?_
       refine at_then_ret ?_
       refine at_then_ret ?_
       exact at_return (.bool false) [] hS Tryz.results13 (.cons (.tmp rfl) .nil) rfl rfl ⟨rfl, rfl⟩
      replace hr := ineg h1975 hr
      refine at_false rfl (decide_eq_false (by first | exact h1975 | omega)) ?_
      refine at_skip ?_
      refine s_tsr ?_
      refine s_as rfl ?_
      refine s_nt ?_
      refine at_int .i64 0 (by simp only [lo, hi]; omega) ?_
      replace hr := obind hr
      obtain ⟨r1977, hl1978, hk1979⟩ := hr
      refine at_cutP (V := (Unit) × (Unit)) (fun v => r1977 = Fl.go v.1) (fun v => (⟨[(0, w1942), (3, .pointer (some (Addr.add ⟨b1945, 0, none⟩ 0))), (5, .int .i64 (x1960 : Int))], [⟨b1945, [.int .i64 a1.ID, s1943], 25⟩], [], [((Ty.slice ty50).fact a0 [w1942]), ((Ty.int .i64).fact (x1960 : Int) [.int .i64 (x1960 : Int)]), ((Ty.int .i64).fact a1.ID [.int .i64 a1.ID]), ((Ty.slice ty69).fact a1.Fields [s1943])]⟩ : St)) ?_ ?_
      ·refine at_block ?_
       refine at_loopW (σ := Nat) (V := Unit) (r := r1977) (fun n s => m13_l2 a0 a1 x1960 x1972 n s) (fun s e => (⟨[(0, w1942), (3, .pointer (some (Addr.add ⟨b1945, 0, none⟩ 0))), (5, .int .i64 (x1960 : Int)), (6, .int .i64 x1972), (7, .int .i64 (s : Int))], [⟨b1945, [.int .i64 a1.ID, s1943], 25⟩], [], [((Ty.int .i64).fact (s : Int) [.int .i64 (s : Int)]), ((Ty.slice ty50).fact a0 [w1942]), ((Ty.int .i64).fact (x1960 : Int) [.int .i64 (x1960 : Int)]), ((Ty.int .i64).fact x1972 [.int .i64 x1972]), ((Ty.int .i64).fact a1.ID [.int .i64 a1.ID]), ((Ty.slice ty69).fact a1.Fields [s1943])]⟩ : St)) (fun _ => rfl) _ 0 () hl1978 ⟨⟨rfl, ⟨rfl, ⟨rfl, ⟨rfl, ⟨rfl, trivial⟩⟩⟩⟩⟩, ⟨[true], rfl⟩, ⟨[], rfl⟩, ⟨[0, 7, 6, 1, 8, 9], rfl⟩⟩ ?_
       clear hl1978
       intro n x1976 hr e
       skip
       skip
       change m13_l2 a0 a1 x1960 x1972 (n + 1) x1976 = some r1977 at hr
       change At _ _ (⟨[(0, w1942), (3, .pointer (some (Addr.add ⟨b1945, 0, none⟩ 0))), (5, .int .i64 (x1960 : Int)), (6, .int .i64 x1972), (7, .int .i64 (x1976 : Int))], [⟨b1945, [.int .i64 a1.ID, s1943], 25⟩], [], [((Ty.int .i64).fact (x1976 : Int) [.int .i64 (x1976 : Int)]), ((Ty.slice ty50).fact a0 [w1942]), ((Ty.int .i64).fact (x1960 : Int) [.int .i64 (x1960 : Int)]), ((Ty.int .i64).fact x1972 [.int .i64 x1972]), ((Ty.int .i64).fact a1.ID [.int .i64 a1.ID]), ((Ty.slice ty69).fact a1.Fields [s1943])]⟩ : St) _
       rw [m13_l2] at hr
       refine at_seq ?_
       refine s_sr ?_
       refine s_mv rfl ?_
       refine at_lt (lt_fieldAddr 1 rfl fld25_1 rfl) rfl ?_
       refine at_lt (lt_load_box 0 rfl ti23 rfl rfl rfl rfl rfl) rfl ?_
       refine s_mv rfl ?_
       replace hr := obind hr
       obtain ⟨x1980, h1981, hr⟩ := hr
       have := (List.getElem?_eq_some_iff.1 h1981).1
       refine at_elem 5 rfl (nat_at' h1981) (fun p1983 ec pa1984 => ?_)
       refine at_open (A := Value) 0 rfl _ _ (fun F w h => op69 h) ?_
       rintro s1982 rfl
       refine at_lt (lt_idx rfl rfl pa1984 und23 ti69) rfl ?_
       refine at_lt (lt_fieldAddr 3 rfl fld69_2 rfl) rfl ?_
       refine at_lt (lt_load_peek 3 rfl ti67 rfl rfl rfl rfl rfl) rfl ?_
       refine at_inv 1 rfl (fun i1985 => ?_)
       have l1986 := slice_len i1985
       refine at_lt (lt_flen 1 rfl rfl und67) rfl ?_
       refine at_lt (lt_lss rfl rfl) rfl ?_
       refine s_nt ?_
       by_cases h1987 : x1976 < x1980.Subs.length
       ·replace hr := ipos h1987 hr
        refine at_true rfl (decide_eq_true (by omega)) ?_
        refine at_skip ?_
        refine at_then ?_
        refine at_seq ?_
        refine at_block ?_
        refine at_seq ?_
        replace hr := obind hr
        obtain ⟨x1988, h1989, hr⟩ := hr
        have := at?_lt h1989
        refine at_elem 5 rfl h1989 (fun p1991 ec pa1992 => ?_)
        refine at_open (A := Value) 0 rfl _ _ (fun F w h => op50 h) ?_
        rintro s1990 rfl
        replace hr := obind hr
        obtain ⟨x1993, h1994, hr⟩ := hr
        have := (List.getElem?_eq_some_iff.1 h1994).1
        refine at_elem 14 rfl (nat_at' h1994) (fun p1996 ec pa1997 => ?_)
        refine at_open (A := Value) 0 rfl _ _ (fun F w h => op69 h) ?_
        rintro s1995 rfl
        replace hr := obind hr
        obtain ⟨x1998, h1999, hr⟩ := hr
        have := (List.getElem?_eq_some_iff.1 h1999).1
        refine at_elem 1 rfl (nat_at' h1999) (fun p2000 ec pa2001 => ?_)
        refine at_open (A := Unit) 0 rfl _ _ (fun F w h => op66 h) ?_
        rintro _ rfl
        replace hr := obind hr
        obtain ⟨x2002, h2003, hr⟩ := hr
        refine aa_start 17 (by kernel_rfl) ?_
        refine aa_p 0 rfl (lt_move rfl) ?_
        refine aa_p 1 rfl (lt_move rfl) ?_
        refine aa_p 2 rfl (lt_idx rfl rfl pa1992 und22 ti50) ?_
        refine aa_p 3 rfl (lt_fieldAddr 2 rfl fld50_2 rfl) ?_
        refine aa_l 4 rfl (lt_load_peek 11 rfl ti48 rfl rfl rfl rfl rfl) ?_
        refine aa_p 5 rfl (lt_fieldAddr 1 rfl fld25_1 rfl) ?_
        refine aa_l 6 rfl (lt_load_box 0 rfl ti23 rfl rfl rfl rfl rfl) ?_
        refine aa_p 7 rfl (lt_move rfl) ?_
        refine aa_p 8 rfl (lt_idx rfl rfl pa1997 und23 ti69) ?_
        refine aa_p 9 rfl (lt_fieldAddr 3 rfl fld69_2 rfl) ?_
        refine aa_l 10 rfl (lt_load_peek 6 rfl ti67 rfl rfl rfl rfl rfl) ?_
        refine aa_p 11 rfl (lt_move rfl) ?_
        refine aa_p 12 rfl (lt_idx rfl rfl pa2001 und67 ti66) ?_
        refine aa_p 13 rfl (lt_fieldAddr 0 rfl fld66_0 rfl) ?_
        refine aa_l 14 rfl (lt_load_peek 2 rfl ti5 rfl rfl rfl rfl rfl) ?_
        refine aa_one 15 ?_
        refine aa_op rfl rfl ?_
        refine hv_call0 [9] (f40_spec h2003) rfl rfl rfl rfl ?_
        rintro _ _ ⟨rfl, rfl⟩
        refine aa_p 16 rfl (lt_eql rfl rfl) ?_
        refine aa_done (by kernel_rfl) (ts_in 0 0 rfl rfl) ?_
        refine at_then ?_
        by_cases h2004 : x2002.toNat = 0
        ·replace hr := ipos h2004 hr
         refine at_true rfl (decide_eq_true (by omega)) ?_
         refine s_sr ?_
         refine s_as rfl ?_
         refine s_nt ?_
         refine at_ret ?_
         have hq := oinj hr
         clear hr
         subst hq
         have hq := oinj hk1979
         clear hk1979
         subst hq
         have hq := oinj hk1963
         clear hk1963
         subst hq
         refine at_in_ret ?_
         refine at_then_ret ?_
         refine at_then_ret ?_
         refine at_in_ret ?_
         refine at_then_ret ?_
         refine at_in_ret ?_
         refine at_then_ret ?_
         refine at_then_ret ?_
         refine at_in_ret ?_
         refine at_then_ret ?_
         refine at_then_ret ?_
         exact at_return (.bool false) [] hS Tryz.results13 (.cons (.tmp rfl) .nil) rfl rfl ⟨rfl, rfl⟩
        replace hr := ineg h2004 hr
        refine at_false rfl (decide_eq_false (by omega)) ?_
        refine at_skip ?_
        refine at_in ?_
        refine s_tr ?_
        refine s_mv rfl ?_
        refine at_lt (lt_add rfl rfl (by simp only [lo, hi]; omega)) rfl ?_
        refine s_as rfl ?_
        refine at_nil ?_
        refine at_int .i64 (x1976 + 1 : Int) (by simp only [lo, hi]; omega) ?_
        exact at_again (σ := Nat) (V := Unit) (lp := fun n s => m13_l2 a0 a1 x1960 x1972 n s) (S := fun s e => (⟨[(0, w1942), (3, .pointer (some (Addr.add ⟨b1945, 0, none⟩ 0))), (5, .int .i64 (x1960 : Int)), (6, .int .i64 x1972), (7, .int .i64 (s : Int))], [⟨b1945, [.int .i64 a1.ID, s1943], 25⟩], [], [((Ty.int .i64).fact (s : Int) [.int .i64 (s : Int)]), ((Ty.slice ty50).fact a0 [w1942]), ((Ty.int .i64).fact (x1960 : Int) [.int .i64 (x1960 : Int)]), ((Ty.int .i64).fact x1972 [.int .i64 x1972]), ((Ty.int .i64).fact a1.ID [.int .i64 a1.ID]), ((Ty.slice ty69).fact a1.Fields [s1943])]⟩ : St)) (x1976 + 1) () hr ⟨⟨rfl, ⟨rfl, ⟨rfl, ⟨rfl, ⟨rfl, trivial⟩⟩⟩⟩⟩, ⟨[true], rfl⟩, ⟨[], rfl⟩, ⟨[0, 18, 19, 20, 21, 22], rfl⟩⟩
       replace hr := ineg h1987 hr
       refine at_false rfl (decide_eq_false (by omega)) ?_
       refine at_exit ?_
       refine at_then_exit ?_
       refine at_then_exit ?_
       refine at_in_exit ?_
       have hq := oinj hr
       clear hr
       subst hq
       exact at_leafP ((), ()) rfl ⟨⟨rfl, ⟨rfl, ⟨rfl, trivial⟩⟩⟩, ⟨[true], rfl⟩, ⟨[], rfl⟩, ⟨[5, 6, 8, 9], rfl⟩⟩
      rintro ⟨_, _⟩ hp
      replace hr := hk1979
      subst hp
      clear hl1978
      change At _ _ (⟨[(0, w1942), (3, .pointer (some (Addr.add ⟨b1945, 0, none⟩ 0))), (5, .int .i64 (x1960 : Int))], [⟨b1945, [.int .i64 a1.ID, s1943], 25⟩], [], [((Ty.slice ty50).fact a0 [w1942]), ((Ty.int .i64).fact (x1960 : Int) [.int .i64 (x1960 : Int)]), ((Ty.int .i64).fact a1.ID [.int .i64 a1.ID]), ((Ty.slice ty69).fact a1.Fields [s1943])]⟩ : St) _
      refine at_in ?_
      refine s_tr ?_
      refine s_mv rfl ?_
      refine at_lt (lt_add rfl rfl (by simp only [lo, hi]; omega)) rfl ?_
      refine s_as rfl ?_
      refine at_nil ?_
      refine at_int .i64 (x1960 + 1 : Int) (by simp only [lo, hi]; omega) ?_
      exact at_again (σ := Nat) (V := Unit) (lp := fun n s => m13_l1 a0 a1 n s) (S := fun s e => (⟨[(0, w1942), (3, .pointer (some (Addr.add ⟨b1945, 0, none⟩ 0))), (5, .int .i64 (s : Int))], [⟨b1945, [.int .i64 a1.ID, s1943], 25⟩], [], [((Ty.int .i64).fact (s : Int) [.int .i64 (s : Int)]), ((Ty.slice ty50).fact a0 [w1942]), ((Ty.int .i64).fact a1.ID [.int .i64 a1.ID]), ((Ty.slice ty69).fact a1.Fields [s1943])]⟩ : St)) (x1960 + 1) () hr ⟨⟨rfl, ⟨rfl, ⟨rfl, trivial⟩⟩⟩, ⟨[true], rfl⟩, ⟨[], rfl⟩, ⟨[0, 1, 3, 4], rfl⟩⟩
     replace hr := ineg h1966 hr
     refine at_false rfl (decide_eq_false (by omega)) ?_
     refine at_exit ?_
     refine at_then_exit ?_
     refine at_then_exit ?_
     refine at_in_exit ?_
     have hq := oinj hr
     clear hr
     subst hq
     exact at_leafP ((), ()) rfl ⟨trivial, ⟨[false], rfl⟩, ⟨[], rfl⟩, ⟨[], rfl⟩⟩
    rintro ⟨_, _⟩ hp
    replace hr := hk1963
    subst hp
    clear hl1962
    change At _ _ (⟨[], [], [], []⟩ : St) _
    refine s_tsr ?_
    refine s_as rfl ?_
    refine s_nt ?_
    refine at_ret ?_
    have hq := oinj hr
    clear hr
    subst hq
    exact at_return (.bool true) [] hS Tryz.results13 (.cons (.tmp rfl) .nil) rfl rfl ⟨rfl, rfl⟩
   replace hr := ineg h1959 hr
   refine at_true rfl (nf (bf h1959)) ?_
   refine s_sr ?_
   refine s_as rfl ?_
   refine s_nt ?_
   refine at_ret ?_
   have hq := oinj hr
   clear hr
   subst hq
   refine at_then_ret ?_
   exact at_return (.bool false) [] hS Tryz.results13 (.cons (.tmp rfl) .nil) rfl rfl ⟨rfl, rfl⟩
  replace hr := ineg h1951 hr
  refine aa_start 15 (by kernel_rfl) ?_
  refine aa_p 0 rfl (lt_move rfl) ?_
  refine aa_one 1 ?_
  refine aa_op rfl rfl ?_
  refine hv_call0 [2] (f24_spec h1947) rfl rfl rfl rfl ?_
  rintro _ _ ⟨rfl, rfl⟩
  refine aa_p 2 rfl (lt_not rfl) ?_
  refine aa_p 3 rfl (lt_move rfl) ?_
  refine aa_lg 4 rfl ⟨11, rfl, .inl ⟨_, rfl, gdq (v := false) (nt h1948) rfl⟩⟩ (lt_load_box 0 rfl ti25 rfl rfl rfl rfl rfl) ?_
  refine aa_one 5 ?_
  refine at_derive [0, 1] (ty25.fact (⟨a1.ID, a1.Fields⟩ : D_api_Record) [.int .i64 a1.ID, s1943]) rfl (fun F w h => mk25 (x := (⟨a1.ID, a1.Fields⟩ : D_api_Record)) h) ?_
  refine aa_op rfl ⟨11, rfl, .inl ⟨_, rfl, gdq (v := false) (nt h1948) rfl⟩⟩ ?_
  refine hv_call0 [0] (f25_spec h1950) rfl rfl rfl rfl ?_
  rintro _ _ ⟨rfl, rfl⟩
  refine aa_pure 6 rfl (by kernel_rfl) rfl ⟨11, rfl, .inl ⟨_, rfl, gdq (v := false) (nt h1948) rfl⟩⟩ (lt_not rfl) rfl (ts_in 0 1 rfl rfl) ?_
  refine aa_pure 7 rfl (by kernel_rfl) rfl rfl (lt_pick false rfl (nt h1948) rfl) rfl (ts_in 0 1 rfl rfl) ?_
  refine aa_pure 8 rfl (by kernel_rfl) rfl rfl (lt_move rfl) rfl (ts_in 0 1 rfl rfl) ?_
  refine aa_off 9 rfl (by kernel_rfl) rfl ⟨16, rfl, .inl ⟨_, rfl, gdq (v := true) (nf (bf h1951)) rfl⟩⟩ rfl (ts_in 0 1 rfl rfl) ?_
  refine aa_off 10 rfl (by kernel_rfl) rfl ⟨16, rfl, .inl ⟨_, rfl, gdq (v := true) (nf (bf h1951)) rfl⟩⟩ rfl (ts_in 0 1 rfl rfl) ?_
  refine aa_off 11 rfl (by kernel_rfl) rfl ⟨16, rfl, .inl ⟨_, rfl, gdq (v := true) (nf (bf h1951)) rfl⟩⟩ rfl (ts_in 0 1 rfl rfl) ?_
  refine aa_off 12 rfl (by kernel_rfl) rfl ⟨16, rfl, .inl ⟨_, rfl, gdq (v := true) (nf (bf h1951)) rfl⟩⟩ rfl (ts_in 0 1 rfl rfl) ?_
  refine aa_off 13 rfl (by kernel_rfl) rfl ⟨16, rfl, .inl ⟨_, rfl, gdq (v := true) (nf (bf h1951)) rfl⟩⟩ rfl (ts_in 0 1 rfl rfl) ?_
  refine aa_pure 14 rfl (by kernel_rfl) rfl rfl (lt_pick true rfl (nf (bf h1951)) rfl) rfl (ts_in 0 1 rfl rfl) ?_
  refine aa_done (by kernel_rfl) (ts_in 0 1 rfl rfl) ?_
  refine at_then ?_
  refine at_true rfl rfl ?_
  refine s_sr ?_
  refine s_as rfl ?_
  refine s_nt ?_
  refine at_ret ?_
  have hq := oinj hr
  clear hr
  subst hq
  refine at_then_ret ?_
  exact at_return (.bool false) [] hS Tryz.results13 (.cons (.tmp rfl) .nil) rfl rfl ⟨rfl, rfl⟩
 replace hr := ineg h1948 hr
 refine aa_start 15 (by kernel_rfl) ?_
 refine aa_p 0 rfl (lt_move rfl) ?_
 refine aa_one 1 ?_
 refine aa_op rfl rfl ?_
 refine hv_call0 [2] (f24_spec h1947) rfl rfl rfl rfl ?_
 rintro _ _ ⟨rfl, rfl⟩
 refine aa_p 2 rfl (lt_not rfl) ?_
 refine aa_p 3 rfl (lt_move rfl) ?_
 refine aa_o 4 rfl ⟨11, rfl, .inl ⟨_, rfl, gdq (v := true) (nf (bf h1948)) rfl⟩⟩ ?_
 refine aa_o 5 rfl ⟨11, rfl, .inl ⟨_, rfl, gdq (v := true) (nf (bf h1948)) rfl⟩⟩ ?_
 refine aa_o 6 rfl ⟨11, rfl, .inl ⟨_, rfl, gdq (v := true) (nf (bf h1948)) rfl⟩⟩ ?_
 refine aa_p 7 rfl (lt_pick true rfl (nf (bf h1948)) rfl) ?_
 refine aa_p 8 rfl (lt_move rfl) ?_
 refine aa_o 9 rfl ⟨16, rfl, .inl ⟨_, rfl, gdq (v := true) rfl rfl⟩⟩ ?_
 refine aa_o 10 rfl ⟨16, rfl, .inl ⟨_, rfl, gdq (v := true) rfl rfl⟩⟩ ?_
 refine aa_o 11 rfl ⟨16, rfl, .inl ⟨_, rfl, gdq (v := true) rfl rfl⟩⟩ ?_
 refine aa_o 12 rfl ⟨16, rfl, .inl ⟨_, rfl, gdq (v := true) rfl rfl⟩⟩ ?_
 refine aa_o 13 rfl ⟨16, rfl, .inl ⟨_, rfl, gdq (v := true) rfl rfl⟩⟩ ?_
 refine aa_p 14 rfl (lt_pick true rfl rfl rfl) ?_
 refine aa_done (by kernel_rfl) (ts_in 0 0 rfl rfl) ?_
 refine at_then ?_
 refine at_true rfl rfl ?_
 refine s_sr ?_
 refine s_as rfl ?_
 refine s_nt ?_
 refine at_ret ?_
 have hq := oinj hr
 clear hr
 subst hq
 refine at_then_ret ?_
 exact at_return (.bool false) [] hS Tryz.results13 (.cons (.tmp rfl) .nil) rfl rfl ⟨rfl, rfl⟩
end Go.WK.S
