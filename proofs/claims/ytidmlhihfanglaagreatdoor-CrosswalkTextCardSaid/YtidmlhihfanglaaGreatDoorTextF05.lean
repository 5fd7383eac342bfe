/- What functions of this program compute: a model of each, and the proof that it is kept. -/
import Derived.Test.YtidmlhihfanglaaGreatDoorTextF04
import Derived.KernelRfl
namespace Go.WK.S
open Go Go.Proofs Go.WK Go.RowKit
set_option linter.unusedVariables false
set_option maxRecDepth 100000
set_option maxHeartbeats 4000000
/-! 4 bookplate/bookplatelaw16.CrosswalkText -/
def m4 (a0 : Str) (a1 : (List D_ref16_Entry)) : Option Bool :=
  (m10).bind fun x1766 =>
  if x1766 = true then
    if 400 < a0.length then
      some true
    else
      (m11 a1).bind fun x1771 =>
      if x1771 = true then
        (m19 a0).bind fun x1774 =>
        (m20 a0).bind fun x1779 =>
        (m22 x1774.1).bind fun x1784 =>
        (m21 x1784 x1779.1).bind fun x1787 =>
        if x1787 = true then
          if x1774.2.1 = x1779.2.1 then
            if x1774.2.2 = x1779.2.2 then
              (m23 x1774.1).bind fun x1792 =>
              (m15 a1).bind fun x1795 =>
              (m23 x1795).bind fun x1798 =>
              (m19 x1798.1).bind fun x1801 =>
              if x1774.2.2 = 0 then
                if x1792.2 = 0 then
                  if x1792.1 = a0 then
                    if x1798.2 = 0 then
                      if x1801.2.2 = 0 then
                        (m22 x1801.1).bind fun x1811 =>
                        (m21 x1811 a1).bind fun x1814 =>
                        some x1814
                      else
                        some false
                    else
                      some true
                  else
                    some false
                else
                  some false
              else
                if x1798.2 = 0 then
                  if x1801.2.2 = 0 then
                    (m22 x1801.1).bind fun x1818 =>
                    (m21 x1818 a1).bind fun x1821 =>
                    some x1821
                  else
                    some false
                else
                  some true
            else
              some false
          else
            some false
        else
          some false
      else
        some true
  else
    some false
def post4 (r : Bool) (v : Value) (fs : List Fact) : Prop := v = .bool r ∧ fs = []
theorem en4 : Enters Tryz.prog 4 := ⟨_, Tryz.func4, by kernel_rfl, rfl⟩
theorem f4_spec {a0 : Str} {a1 : (List D_ref16_Entry)} {w1765 : Value} {r : Bool} (hr : m4 a0 a1 = some r) : Spec Tryz.prog 4 [str a0, w1765] [(Ty.str.fact a0 [str a0]), ((Ty.slice ty50).fact a1 [w1765])] (post4 r) := by
  refine spec_start (N := 97) Tryz.func4 (by kernel_rfl) rfl rfl rfl ?_
  intro g hS
  unfold m4 at hr
  refine at_seq ?_
  refine at_region ?_
  refine at_lt (lt_assign rfl) rfl ?_
  refine at_nil ?_
  refine at_then ?_
  refine at_seq ?_
  refine at_seq ?_
  refine at_region ?_
  replace hr := obind hr
  obtain ⟨x1766, h1767, hr⟩ := hr
  refine at_hv rfl ?_
  refine hv_call0 [] (f10_spec h1767) rfl rfl rfl rfl ?_
  rintro _ _ ⟨rfl, rfl⟩
  refine at_lt (lt_not rfl) rfl ?_
  refine at_nil ?_
  refine at_then ?_
  by_cases h1768 : x1766 = true
  · replace hr := ipos h1768 hr
    refine at_false rfl (nt h1768) ?_
    refine at_skip ?_
    refine at_then ?_
    refine at_seq ?_
    refine at_seq ?_
    refine at_region ?_
    refine at_lt (lt_move rfl) rfl ?_
    refine at_inv 0 rfl (fun l1769 => ?_)
    replace l1769 : a0.length ≤ 9223372036854775807 := l1769
    refine at_lt (lt_slen rfl und9) rfl ?_
    refine at_lt (lt_gtr rfl rfl) rfl ?_
    refine at_lt (lt_move rfl) rfl ?_
    by_cases h1770 : 400 < a0.length
    · replace hr := ipos h1770 hr
      refine at_off rfl rfl (decide_eq_true (by omega)) rfl ?_
      refine at_off rfl rfl (decide_eq_true (by omega)) rfl ?_
      refine at_off rfl rfl (decide_eq_true (by omega)) rfl ?_
      refine at_lt (lt_pick true rfl (decide_eq_true (by omega)) rfl) rfl ?_
      refine at_nil ?_
      refine at_then ?_
      refine at_true rfl rfl ?_
      refine at_seq ?_
      refine at_region ?_
      refine at_lt (lt_assign rfl) rfl ?_
      refine at_nil ?_
      refine at_then ?_
      refine at_ret ?_
      have hq := oinj hr
      clear hr
      subst hq
      refine at_then_ret ?_
      exact at_return (.bool true) [] hS Tryz.results4 (.cons (.tmp rfl) .nil) rfl rfl ⟨rfl, rfl⟩
    · replace hr := ineg h1770 hr
      refine at_on rfl rfl (decide_eq_false (by omega)) ?_
      refine at_lt (lt_move rfl) rfl ?_
      replace hr := obind hr
      obtain ⟨x1771, h1772, hr⟩ := hr
      refine at_on rfl rfl (decide_eq_false (by omega)) ?_
      refine at_hv rfl ?_
      refine hv_call0 [1] (f11_spec h1772) rfl rfl rfl rfl ?_
      rintro _ _ ⟨rfl, rfl⟩
      refine at_on rfl rfl (decide_eq_false (by omega)) ?_
      refine at_lt (lt_not rfl) rfl ?_
      refine at_lt (lt_pick false rfl (decide_eq_false (by omega)) rfl) rfl ?_
      refine at_nil ?_
      refine at_then ?_
      by_cases h1773 : x1771 = true
      · replace hr := ipos h1773 hr
        refine at_false rfl (nt h1773) ?_
        refine at_skip ?_
        refine at_then ?_
        refine at_seq ?_
        refine at_region ?_
        refine at_lt (lt_move rfl) rfl ?_
        replace hr := obind hr
        obtain ⟨x1774, h1775, hr⟩ := hr
        refine at_hv rfl ?_
        refine hv_call0 [0] (f19_spec h1775) rfl rfl rfl rfl ?_
        rintro _ _ ⟨s1776, rfl, rfl⟩
        refine at_inv 1 rfl (fun l1777 => ?_)
        replace l1777 : (-9223372036854775808) ≤ x1774.2.1 ∧ x1774.2.1 ≤ 9223372036854775807 := l1777
        refine at_inv 2 rfl (fun l1778 => ?_)
        replace l1778 : (-9223372036854775808) ≤ x1774.2.2 ∧ x1774.2.2 ≤ 9223372036854775807 := l1778
        refine at_lt (lt_move rfl) rfl ?_
        refine at_lt (lt_extract rfl rfl) rfl ?_
        refine at_lt (lt_extract rfl rfl) rfl ?_
        refine at_lt (lt_extract rfl rfl) rfl ?_
        refine at_lt (lt_assign rfl) rfl ?_
        refine at_lt (lt_assign rfl) rfl ?_
        refine at_lt (lt_assign rfl) rfl ?_
        refine at_nil ?_
        refine at_then ?_
        refine at_seq ?_
        refine at_region ?_
        refine at_lt (lt_move rfl) rfl ?_
        replace hr := obind hr
        obtain ⟨x1779, h1780, hr⟩ := hr
        refine at_hv rfl ?_
        refine hv_call0 [3] (f20_spec h1780) rfl rfl rfl rfl ?_
        rintro _ _ ⟨s1781, rfl, rfl⟩
        refine at_inv 1 rfl (fun l1782 => ?_)
        replace l1782 : (-9223372036854775808) ≤ x1779.2.1 ∧ x1779.2.1 ≤ 9223372036854775807 := l1782
        refine at_inv 2 rfl (fun l1783 => ?_)
        replace l1783 : (-9223372036854775808) ≤ x1779.2.2 ∧ x1779.2.2 ≤ 9223372036854775807 := l1783
        refine at_lt (lt_move rfl) rfl ?_
        refine at_lt (lt_extract rfl rfl) rfl ?_
        refine at_lt (lt_extract rfl rfl) rfl ?_
        refine at_lt (lt_extract rfl rfl) rfl ?_
        refine at_lt (lt_assign rfl) rfl ?_
        refine at_lt (lt_assign rfl) rfl ?_
        refine at_lt (lt_assign rfl) rfl ?_
        refine at_nil ?_
        refine at_then ?_
        refine at_seq ?_
        refine at_seq ?_
        refine at_region ?_
        refine at_lt (lt_move rfl) rfl ?_
        replace hr := obind hr
        obtain ⟨x1784, h1785, hr⟩ := hr
        refine at_hv rfl ?_
        refine hv_call0 [3] (f22_spec h1785) rfl rfl rfl rfl ?_
        rintro s1786 _ ⟨_, rfl, rfl⟩
        refine at_lt (lt_move rfl) rfl ?_
        replace hr := obind hr
        obtain ⟨x1787, h1788, hr⟩ := hr
        refine at_hv rfl ?_
        refine hv_call0 [0, 1] (f21_spec h1788) rfl rfl rfl rfl ?_
        rintro _ _ ⟨rfl, rfl⟩
        refine at_lt (lt_not rfl) rfl ?_
        refine at_lt (lt_move rfl) rfl ?_
        by_cases h1789 : x1787 = true
        · replace hr := ipos h1789 hr
          refine at_on rfl rfl (nt h1789) ?_
          refine at_lt (lt_move rfl) rfl ?_
          refine at_on rfl rfl (nt h1789) ?_
          refine at_lt (lt_move rfl) rfl ?_
          refine at_on rfl rfl (nt h1789) ?_
          refine at_lt (lt_neq rfl rfl) rfl ?_
          refine at_lt (lt_pick false rfl (nt h1789) rfl) rfl ?_
          refine at_lt (lt_move rfl) rfl ?_
          by_cases h1790 : x1774.2.1 = x1779.2.1
          · replace hr := ipos h1790 hr
            refine at_on rfl rfl (nt (decide_eq_true (by first | exact h1790 | omega))) ?_
            refine at_lt (lt_move rfl) rfl ?_
            refine at_on rfl rfl (nt (decide_eq_true (by first | exact h1790 | omega))) ?_
            refine at_lt (lt_move rfl) rfl ?_
            refine at_on rfl rfl (nt (decide_eq_true (by first | exact h1790 | omega))) ?_
            refine at_lt (lt_neq rfl rfl) rfl ?_
            refine at_lt (lt_pick false rfl (nt (decide_eq_true (by first | exact h1790 | omega))) rfl) rfl ?_
            refine at_nil ?_
            refine at_then ?_
            by_cases h1791 : x1774.2.2 = x1779.2.2
            · replace hr := ipos h1791 hr
              refine at_false rfl (nt (decide_eq_true (by first | exact h1791 | omega))) ?_
              refine at_skip ?_
              refine at_then ?_
              refine at_seq ?_
              refine at_region ?_
              refine at_lt (lt_move rfl) rfl ?_
              replace hr := obind hr
              obtain ⟨x1792, h1793, hr⟩ := hr
              refine at_hv rfl ?_
              refine hv_call0 [4] (f23_spec h1793) rfl rfl rfl rfl ?_
              rintro _ _ ⟨rfl, rfl⟩
              refine at_inv 1 rfl (fun l1794 => ?_)
              replace l1794 : (-9223372036854775808) ≤ x1792.2 ∧ x1792.2 ≤ 9223372036854775807 := l1794
              refine at_lt (lt_move rfl) rfl ?_
              refine at_lt (lt_extract rfl rfl) rfl ?_
              refine at_lt (lt_extract rfl rfl) rfl ?_
              refine at_lt (lt_assign rfl) rfl ?_
              refine at_lt (lt_assign rfl) rfl ?_
              refine at_nil ?_
              refine at_then ?_
              refine at_seq ?_
              refine at_region ?_
              refine at_lt (lt_move rfl) rfl ?_
              replace hr := obind hr
              obtain ⟨x1795, h1796, hr⟩ := hr
              refine at_hv rfl ?_
              refine hv_call0 [10] (f15_spec h1796) rfl rfl rfl rfl ?_
              rintro s1797 _ ⟨_, rfl, rfl⟩
              replace hr := obind hr
              obtain ⟨x1798, h1799, hr⟩ := hr
              refine at_hv rfl ?_
              refine hv_call0 [0] (f23_spec h1799) rfl rfl rfl rfl ?_
              rintro _ _ ⟨rfl, rfl⟩
              refine at_inv 1 rfl (fun l1800 => ?_)
              replace l1800 : (-9223372036854775808) ≤ x1798.2 ∧ x1798.2 ≤ 9223372036854775807 := l1800
              refine at_lt (lt_move rfl) rfl ?_
              refine at_lt (lt_extract rfl rfl) rfl ?_
              refine at_lt (lt_extract rfl rfl) rfl ?_
              refine at_lt (lt_assign rfl) rfl ?_
              refine at_lt (lt_assign rfl) rfl ?_
              refine at_nil ?_
              refine at_then ?_
              refine at_seq ?_
              refine at_region ?_
              refine at_lt (lt_move rfl) rfl ?_
              replace hr := obind hr
              obtain ⟨x1801, h1802, hr⟩ := hr
              refine at_hv rfl ?_
              refine hv_call0 [0] (f19_spec h1802) rfl rfl rfl rfl ?_
              rintro _ _ ⟨s1803, rfl, rfl⟩
              refine at_inv 1 rfl (fun l1804 => ?_)
              replace l1804 : (-9223372036854775808) ≤ x1801.2.1 ∧ x1801.2.1 ≤ 9223372036854775807 := l1804
              refine at_inv 2 rfl (fun l1805 => ?_)
              replace l1805 : (-9223372036854775808) ≤ x1801.2.2 ∧ x1801.2.2 ≤ 9223372036854775807 := l1805
              refine at_lt (lt_move rfl) rfl ?_
              refine at_lt (lt_extract rfl rfl) rfl ?_
              refine at_lt (lt_extract rfl rfl) rfl ?_
              refine at_lt (lt_extract rfl rfl) rfl ?_
              refine at_lt (lt_assign rfl) rfl ?_
              refine at_lt (lt_assign rfl) rfl ?_
              refine at_lt (lt_assign rfl) rfl ?_
              refine at_nil ?_
              refine at_then ?_
              refine at_seq ?_
              refine at_region ?_
              refine at_lt (lt_move rfl) rfl ?_
              refine at_lt (lt_neq rfl rfl) rfl ?_
              refine at_lt (lt_move rfl) rfl ?_
              by_cases h1806 : x1774.2.2 = 0
              · replace hr := ipos h1806 hr
                refine at_on rfl rfl (nt (decide_eq_true (by first | exact h1806 | omega))) ?_
                refine at_lt (lt_move rfl) rfl ?_
                refine at_on rfl rfl (nt (decide_eq_true (by first | exact h1806 | omega))) ?_
                refine at_lt (lt_eql rfl rfl) rfl ?_
                refine at_on rfl rfl (nt (decide_eq_true (by first | exact h1806 | omega))) ?_
                refine at_lt (lt_move rfl) rfl ?_
                by_cases h1807 : x1792.2 = 0
                · replace hr := ipos h1807 hr
                  refine at_on rfl rfl (decide_eq_true (by first | exact h1807 | omega)) ?_
                  refine at_lt (lt_move rfl) rfl ?_
                  refine at_on rfl rfl (decide_eq_true (by first | exact h1807 | omega)) ?_
                  refine at_lt (lt_move rfl) rfl ?_
                  refine at_on rfl rfl (decide_eq_true (by first | exact h1807 | omega)) ?_
                  refine at_lt (lt_seql rfl rfl) rfl ?_
                  refine at_on rfl rfl (nt (decide_eq_true (by first | exact h1806 | omega))) ?_
                  refine at_lt (lt_pick true rfl (decide_eq_true (by first | exact h1807 | omega)) rfl) rfl ?_
                  refine at_lt (lt_pick false rfl (nt (decide_eq_true (by first | exact h1806 | omega))) rfl) rfl ?_
                  refine at_lt (lt_move rfl) rfl ?_
                  by_cases h1808 : x1792.1 = a0
                  · replace hr := ipos h1808 hr
                    refine at_on rfl rfl (decide_eq_true h1808) ?_
                    refine at_lt (lt_move rfl) rfl ?_
                    refine at_on rfl rfl (decide_eq_true h1808) ?_
                    refine at_lt (lt_neq rfl rfl) rfl ?_
                    refine at_on rfl rfl (decide_eq_true h1808) ?_
                    refine at_lt (lt_move rfl) rfl ?_
                    by_cases h1809 : x1798.2 = 0
                    · replace hr := ipos h1809 hr
                      refine at_on rfl rfl (nt (decide_eq_true (by first | exact h1809 | omega))) ?_
                      refine at_lt (lt_move rfl) rfl ?_
                      refine at_on rfl rfl (nt (decide_eq_true (by first | exact h1809 | omega))) ?_
                      refine at_lt (lt_eql rfl rfl) rfl ?_
                      refine at_on rfl rfl (nt (decide_eq_true (by first | exact h1809 | omega))) ?_
                      refine at_lt (lt_move rfl) rfl ?_
                      by_cases h1810 : x1801.2.2 = 0
                      · replace hr := ipos h1810 hr
                        refine at_on rfl rfl (decide_eq_true (by first | exact h1810 | omega)) ?_
                        refine at_lt (lt_move rfl) rfl ?_
                        replace hr := obind hr
                        obtain ⟨x1811, h1812, hr⟩ := hr
                        refine at_on rfl rfl (decide_eq_true (by first | exact h1810 | omega)) ?_
                        refine at_hv rfl ?_
                        refine hv_call0 [0] (f22_spec h1812) rfl rfl rfl rfl ?_
                        rintro s1813 _ ⟨_, rfl, rfl⟩
                        refine at_on rfl rfl (decide_eq_true (by first | exact h1810 | omega)) ?_
                        refine at_lt (lt_move rfl) rfl ?_
                        replace hr := obind hr
                        obtain ⟨x1814, h1815, hr⟩ := hr
                        refine at_on rfl rfl (decide_eq_true (by first | exact h1810 | omega)) ?_
                        refine at_hv rfl ?_
                        refine hv_call0 [0, 17] (f21_spec h1815) rfl rfl rfl rfl ?_
                        rintro _ _ ⟨rfl, rfl⟩
                        refine at_on rfl rfl (nt (decide_eq_true (by first | exact h1809 | omega))) ?_
                        refine at_lt (lt_pick true rfl (decide_eq_true (by first | exact h1810 | omega)) rfl) rfl ?_
                        refine at_on rfl rfl (decide_eq_true h1808) ?_
                        refine at_lt (lt_pick false rfl (nt (decide_eq_true (by first | exact h1809 | omega))) rfl) rfl ?_
                        refine at_lt (lt_pick true rfl (decide_eq_true h1808) rfl) rfl ?_
                        refine at_lt (lt_assign rfl) rfl ?_
                        refine at_nil ?_
                        refine at_then ?_
                        refine at_ret ?_
                        have hq := oinj hr
                        clear hr
                        subst hq
                        exact at_return (.bool x1814) [] hS Tryz.results4 (.cons (.tmp rfl) .nil) rfl rfl ⟨rfl, rfl⟩
                      · replace hr := ineg h1810 hr
                        refine at_off rfl rfl (decide_eq_false (by first | exact h1810 | omega)) rfl ?_
                        refine at_off rfl rfl (decide_eq_false (by first | exact h1810 | omega)) rfl ?_
                        refine at_off rfl rfl (decide_eq_false (by first | exact h1810 | omega)) rfl ?_
                        refine at_off rfl rfl (decide_eq_false (by first | exact h1810 | omega)) rfl ?_
                        refine at_on rfl rfl (nt (decide_eq_true (by first | exact h1809 | omega))) ?_
                        refine at_lt (lt_pick false rfl (decide_eq_false (by first | exact h1810 | omega)) rfl) rfl ?_
                        refine at_on rfl rfl (decide_eq_true h1808) ?_
                        refine at_lt (lt_pick false rfl (nt (decide_eq_true (by first | exact h1809 | omega))) rfl) rfl ?_
                        refine at_lt (lt_pick true rfl (decide_eq_true h1808) rfl) rfl ?_
                        refine at_lt (lt_assign rfl) rfl ?_
                        refine at_nil ?_
                        refine at_then ?_
                        refine at_ret ?_
                        have hq := oinj hr
                        clear hr
                        subst hq
                        exact at_return (.bool false) [] hS Tryz.results4 (.cons (.tmp rfl) .nil) rfl rfl ⟨rfl, rfl⟩
                    · replace hr := ineg h1809 hr
                      refine at_off rfl rfl (nf (decide_eq_false (by first | exact h1809 | omega))) rfl ?_
                      refine at_off rfl rfl (nf (decide_eq_false (by first | exact h1809 | omega))) rfl ?_
                      refine at_off rfl rfl (nf (decide_eq_false (by first | exact h1809 | omega))) rfl ?_
                      refine at_offu rfl rfl rfl ?_
                      refine at_offu rfl rfl rfl ?_
                      refine at_offu rfl rfl rfl ?_
                      refine at_offu rfl rfl rfl ?_
                      refine at_off rfl rfl (nf (decide_eq_false (by first | exact h1809 | omega))) rfl ?_
                      refine at_on rfl rfl (decide_eq_true h1808) ?_
                      refine at_lt (lt_pick true rfl (nf (decide_eq_false (by first | exact h1809 | omega))) rfl) rfl ?_
                      refine at_lt (lt_pick true rfl (decide_eq_true h1808) rfl) rfl ?_
                      refine at_lt (lt_assign rfl) rfl ?_
                      refine at_nil ?_
                      refine at_then ?_
                      refine at_ret ?_
                      have hq := oinj hr
                      clear hr
                      subst hq
                      exact at_return (.bool true) [] hS Tryz.results4 (.cons (.tmp rfl) .nil) rfl rfl ⟨rfl, rfl⟩
                  · replace hr := ineg h1808 hr
                    refine at_off rfl rfl (decide_eq_false h1808) rfl ?_
                    refine at_off rfl rfl (decide_eq_false h1808) rfl ?_
                    refine at_off rfl rfl (decide_eq_false h1808) rfl ?_
                    refine at_offu rfl rfl rfl ?_
                    refine at_offu rfl rfl rfl ?_
                    refine at_offu rfl rfl rfl ?_
                    refine at_offu rfl rfl rfl ?_
                    refine at_offu rfl rfl rfl ?_
                    refine at_offu rfl rfl rfl ?_
                    refine at_offu rfl rfl rfl ?_
                    refine at_offu rfl rfl rfl ?_
                    refine at_off rfl rfl (decide_eq_false h1808) rfl ?_
                    refine at_lt (lt_pick false rfl (decide_eq_false h1808) rfl) rfl ?_
                    refine at_lt (lt_assign rfl) rfl ?_
                    refine at_nil ?_
                    refine at_then ?_
                    refine at_ret ?_
                    have hq := oinj hr
                    clear hr
                    subst hq
                    exact at_return (.bool false) [] hS Tryz.results4 (.cons (.tmp rfl) .nil) rfl rfl ⟨rfl, rfl⟩
                · replace hr := ineg h1807 hr
                  refine at_off rfl rfl (decide_eq_false (by first | exact h1807 | omega)) rfl ?_
                  refine at_off rfl rfl (decide_eq_false (by first | exact h1807 | omega)) rfl ?_
                  refine at_off rfl rfl (decide_eq_false (by first | exact h1807 | omega)) rfl ?_
                  refine at_on rfl rfl (nt (decide_eq_true (by first | exact h1806 | omega))) ?_
                  refine at_lt (lt_pick false rfl (decide_eq_false (by first | exact h1807 | omega)) rfl) rfl ?_
                  refine at_lt (lt_pick false rfl (nt (decide_eq_true (by first | exact h1806 | omega))) rfl) rfl ?_
                  refine at_lt (lt_move rfl) rfl ?_
                  refine at_off rfl rfl rfl rfl ?_
                  refine at_off rfl rfl rfl rfl ?_
                  refine at_off rfl rfl rfl rfl ?_
                  refine at_offu rfl rfl rfl ?_
                  refine at_offu rfl rfl rfl ?_
                  refine at_offu rfl rfl rfl ?_
                  refine at_offu rfl rfl rfl ?_
                  refine at_offu rfl rfl rfl ?_
                  refine at_offu rfl rfl rfl ?_
                  refine at_offu rfl rfl rfl ?_
                  refine at_offu rfl rfl rfl ?_
                  refine at_off rfl rfl rfl rfl ?_
                  refine at_lt (lt_pick false rfl rfl rfl) rfl ?_
                  refine at_lt (lt_assign rfl) rfl ?_
                  refine at_nil ?_
                  refine at_then ?_
                  refine at_ret ?_
                  have hq := oinj hr
                  clear hr
                  subst hq
                  exact at_return (.bool false) [] hS Tryz.results4 (.cons (.tmp rfl) .nil) rfl rfl ⟨rfl, rfl⟩
              · replace hr := ineg h1806 hr
                refine at_off rfl rfl (nf (decide_eq_false (by first | exact h1806 | omega))) rfl ?_
                refine at_off rfl rfl (nf (decide_eq_false (by first | exact h1806 | omega))) rfl ?_
                refine at_off rfl rfl (nf (decide_eq_false (by first | exact h1806 | omega))) rfl ?_
                refine at_offu rfl rfl rfl ?_
                refine at_offu rfl rfl rfl ?_
                refine at_offu rfl rfl rfl ?_
                refine at_off rfl rfl (nf (decide_eq_false (by first | exact h1806 | omega))) rfl ?_
                refine at_lt (lt_pick true rfl (nf (decide_eq_false (by first | exact h1806 | omega))) rfl) rfl ?_
                refine at_lt (lt_move rfl) rfl ?_
                refine at_on rfl rfl rfl ?_
                refine at_lt (lt_move rfl) rfl ?_
                refine at_on rfl rfl rfl ?_
                refine at_lt (lt_neq rfl rfl) rfl ?_
                refine at_on rfl rfl rfl ?_
                refine at_lt (lt_move rfl) rfl ?_
                by_cases h1816 : x1798.2 = 0
                · replace hr := ipos h1816 hr
                  refine at_on rfl rfl (nt (decide_eq_true (by first | exact h1816 | omega))) ?_
                  refine at_lt (lt_move rfl) rfl ?_
                  refine at_on rfl rfl (nt (decide_eq_true (by first | exact h1816 | omega))) ?_
                  refine at_lt (lt_eql rfl rfl) rfl ?_
                  refine at_on rfl rfl (nt (decide_eq_true (by first | exact h1816 | omega))) ?_
                  refine at_lt (lt_move rfl) rfl ?_
                  by_cases h1817 : x1801.2.2 = 0
                  · replace hr := ipos h1817 hr
                    refine at_on rfl rfl (decide_eq_true (by first | exact h1817 | omega)) ?_
                    refine at_lt (lt_move rfl) rfl ?_
                    replace hr := obind hr
                    obtain ⟨x1818, h1819, hr⟩ := hr
                    refine at_on rfl rfl (decide_eq_true (by first | exact h1817 | omega)) ?_
                    refine at_hv rfl ?_
                    refine hv_call0 [0] (f22_spec h1819) rfl rfl rfl rfl ?_
                    rintro s1820 _ ⟨_, rfl, rfl⟩
                    refine at_on rfl rfl (decide_eq_true (by first | exact h1817 | omega)) ?_
                    refine at_lt (lt_move rfl) rfl ?_
                    replace hr := obind hr
                    obtain ⟨x1821, h1822, hr⟩ := hr
                    refine at_on rfl rfl (decide_eq_true (by first | exact h1817 | omega)) ?_
                    refine at_hv rfl ?_
                    refine hv_call0 [0, 17] (f21_spec h1822) rfl rfl rfl rfl ?_
                    rintro _ _ ⟨rfl, rfl⟩
                    refine at_on rfl rfl (nt (decide_eq_true (by first | exact h1816 | omega))) ?_
                    refine at_lt (lt_pick true rfl (decide_eq_true (by first | exact h1817 | omega)) rfl) rfl ?_
                    refine at_on rfl rfl rfl ?_
                    refine at_lt (lt_pick false rfl (nt (decide_eq_true (by first | exact h1816 | omega))) rfl) rfl ?_
                    refine at_lt (lt_pick true rfl rfl rfl) rfl ?_
                    refine at_lt (lt_assign rfl) rfl ?_
                    refine at_nil ?_
                    refine at_then ?_
                    refine at_ret ?_
                    have hq := oinj hr
                    clear hr
                    subst hq
                    exact at_return (.bool x1821) [] hS Tryz.results4 (.cons (.tmp rfl) .nil) rfl rfl ⟨rfl, rfl⟩
                  · replace hr := ineg h1817 hr
                    refine at_off rfl rfl (decide_eq_false (by first | exact h1817 | omega)) rfl ?_
                    refine at_off rfl rfl (decide_eq_false (by first | exact h1817 | omega)) rfl ?_
                    refine at_off rfl rfl (decide_eq_false (by first | exact h1817 | omega)) rfl ?_
                    refine at_off rfl rfl (decide_eq_false (by first | exact h1817 | omega)) rfl ?_
                    refine at_on rfl rfl (nt (decide_eq_true (by first | exact h1816 | omega))) ?_
                    refine at_lt (lt_pick false rfl (decide_eq_false (by first | exact h1817 | omega)) rfl) rfl ?_
                    refine at_on rfl rfl rfl ?_
                    refine at_lt (lt_pick false rfl (nt (decide_eq_true (by first | exact h1816 | omega))) rfl) rfl ?_
                    refine at_lt (lt_pick true rfl rfl rfl) rfl ?_
                    refine at_lt (lt_assign rfl) rfl ?_
                    refine at_nil ?_
                    refine at_then ?_
                    refine at_ret ?_
                    have hq := oinj hr
                    clear hr
                    subst hq
                    exact at_return (.bool false) [] hS Tryz.results4 (.cons (.tmp rfl) .nil) rfl rfl ⟨rfl, rfl⟩
                · replace hr := ineg h1816 hr
                  refine at_off rfl rfl (nf (decide_eq_false (by first | exact h1816 | omega))) rfl ?_
                  refine at_off rfl rfl (nf (decide_eq_false (by first | exact h1816 | omega))) rfl ?_
                  refine at_off rfl rfl (nf (decide_eq_false (by first | exact h1816 | omega))) rfl ?_
                  refine at_offu rfl rfl rfl ?_
                  refine at_offu rfl rfl rfl ?_
                  refine at_offu rfl rfl rfl ?_
                  refine at_offu rfl rfl rfl ?_
                  refine at_off rfl rfl (nf (decide_eq_false (by first | exact h1816 | omega))) rfl ?_
                  refine at_on rfl rfl rfl ?_
                  refine at_lt (lt_pick true rfl (nf (decide_eq_false (by first | exact h1816 | omega))) rfl) rfl ?_
                  refine at_lt (lt_pick true rfl rfl rfl) rfl ?_
                  refine at_lt (lt_assign rfl) rfl ?_
                  refine at_nil ?_
                  refine at_then ?_
                  refine at_ret ?_
                  have hq := oinj hr
                  clear hr
                  subst hq
                  exact at_return (.bool true) [] hS Tryz.results4 (.cons (.tmp rfl) .nil) rfl rfl ⟨rfl, rfl⟩
            · replace hr := ineg h1791 hr
              refine at_true rfl (nf (decide_eq_false (by first | exact h1791 | omega))) ?_
              refine at_seq ?_
              refine at_region ?_
              refine at_lt (lt_assign rfl) rfl ?_
              refine at_nil ?_
              refine at_then ?_
              refine at_ret ?_
              have hq := oinj hr
              clear hr
              subst hq
              refine at_then_ret ?_
              exact at_return (.bool false) [] hS Tryz.results4 (.cons (.tmp rfl) .nil) rfl rfl ⟨rfl, rfl⟩
          · replace hr := ineg h1790 hr
            refine at_off rfl rfl (nf (decide_eq_false (by first | exact h1790 | omega))) rfl ?_
            refine at_off rfl rfl (nf (decide_eq_false (by first | exact h1790 | omega))) rfl ?_
            refine at_off rfl rfl (nf (decide_eq_false (by first | exact h1790 | omega))) rfl ?_
            refine at_lt (lt_pick true rfl (nf (decide_eq_false (by first | exact h1790 | omega))) rfl) rfl ?_
            refine at_nil ?_
            refine at_then ?_
            refine at_true rfl rfl ?_
            refine at_seq ?_
            refine at_region ?_
            refine at_lt (lt_assign rfl) rfl ?_
            refine at_nil ?_
            refine at_then ?_
            refine at_ret ?_
            have hq := oinj hr
            clear hr
            subst hq
            refine at_then_ret ?_
            exact at_return (.bool false) [] hS Tryz.results4 (.cons (.tmp rfl) .nil) rfl rfl ⟨rfl, rfl⟩
        · replace hr := ineg h1789 hr
          refine at_off rfl rfl (nf (bf h1789)) rfl ?_
          refine at_off rfl rfl (nf (bf h1789)) rfl ?_
          refine at_off rfl rfl (nf (bf h1789)) rfl ?_
          refine at_lt (lt_pick true rfl (nf (bf h1789)) rfl) rfl ?_
          refine at_lt (lt_move rfl) rfl ?_
          refine at_off rfl rfl rfl rfl ?_
          refine at_off rfl rfl rfl rfl ?_
          refine at_off rfl rfl rfl rfl ?_
          refine at_lt (lt_pick true rfl rfl rfl) rfl ?_
          refine at_nil ?_
          refine at_then ?_
          refine at_true rfl rfl ?_
          refine at_seq ?_
          refine at_region ?_
          refine at_lt (lt_assign rfl) rfl ?_
          refine at_nil ?_
          refine at_then ?_
          refine at_ret ?_
          have hq := oinj hr
          clear hr
          subst hq
          refine at_then_ret ?_
          exact at_return (.bool false) [] hS Tryz.results4 (.cons (.tmp rfl) .nil) rfl rfl ⟨rfl, rfl⟩
      · replace hr := ineg h1773 hr
        refine at_true rfl (nf (bf h1773)) ?_
        refine at_seq ?_
        refine at_region ?_
        refine at_lt (lt_assign rfl) rfl ?_
        refine at_nil ?_
        refine at_then ?_
        refine at_ret ?_
        have hq := oinj hr
        clear hr
        subst hq
        refine at_then_ret ?_
        exact at_return (.bool true) [] hS Tryz.results4 (.cons (.tmp rfl) .nil) rfl rfl ⟨rfl, rfl⟩
  · replace hr := ineg h1768 hr
    refine at_true rfl (nf (bf h1768)) ?_
    refine at_seq ?_
    refine at_region ?_
    refine at_lt (lt_assign rfl) rfl ?_
    refine at_nil ?_
    refine at_then ?_
    refine at_ret ?_
    have hq := oinj hr
    clear hr
    subst hq
    refine at_then_ret ?_
    exact at_return (.bool false) [] hS Tryz.results4 (.cons (.tmp rfl) .nil) rfl rfl ⟨rfl, rfl⟩
end Go.WK.S
