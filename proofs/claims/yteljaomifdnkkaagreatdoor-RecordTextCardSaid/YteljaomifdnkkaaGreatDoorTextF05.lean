
/- What functions of this program compute: a model of each, and the proof that it is kept. -/
import Derived.Test.YteljaomifdnkkaaGreatDoorTextF04
import Derived.KernelRfl
set_option linter.unusedSimpArgs false
set_option linter.unusedVariables false
namespace Go.WK.S
open Go Go.Proofs Go.WK Go.RowKit
set_option linter.unusedVariables false
set_option maxRecDepth 100000
set_option maxHeartbeats 4000000
def m3 (a0 : D_api_Record) (a1 : Str) : Option Bool :=
  (m11).bind fun x1792 =>
  if x1792 = true then
   (m12 (⟨a0.ID, a0.Fields⟩ : D_api_Record) 61).bind fun x1795 =>
   if x1795 = true then
    if 600 < a1.length then
     some true
    else
     (m13 (⟨a0.ID, a0.Fields⟩ : D_api_Record)).bind fun x1800 =>
     (m14 (⟨a0.ID, a0.Fields⟩ : D_api_Record)).bind fun x1803 =>
     (m15 a1).bind fun x1806 =>
     (m16 a1).bind fun x1814 =>
     if x1800.1 = x1803.1 then
      if x1800.2 = x1803.2 then
       (m17 (⟨x1806.1.ID, x1806.1.Fields⟩ : D_api_Record) (⟨x1814.1.ID, x1814.1.Fields⟩ : D_api_Record)).bind fun x1824 =>
       if x1824 = true then
        if x1806.2.1 = x1814.2.1 then
         if x1806.2.2 = x1814.2.2 then
          (m15 x1800.1).bind fun x1829 =>
          (m13 (⟨x1806.1.ID, x1806.1.Fields⟩ : D_api_Record)).bind fun x1837 =>
          if x1800.2 = 0 then
           if x1829.2.2 = 0 then
            (m17 (⟨x1829.1.ID, x1829.1.Fields⟩ : D_api_Record) (⟨a0.ID, a0.Fields⟩ : D_api_Record)).bind fun x1842 =>
            if x1842 = true then
             if x1806.2.2 = 0 then
              if x1837.2 = 0 then
               some (decide (x1837.1 = a1))
              else
               some false
             else
              some true
            else
             some false
           else
            some false
          else
           if x1806.2.2 = 0 then
            if x1837.2 = 0 then
             some (decide (x1837.1 = a1))
            else
             some false
           else
            some true
         else
          some false
        else
         some false
       else
        some false
      else
       some false
     else
      some false
   else
    some true
  else
   some false
def post3 (r : Bool) (v : Value) (fs : List Fact) : Prop := v = .bool r ∧ fs = []
theorem en3 : Enters Tryz.prog 3 := ⟨_, Tryz.func3, by kernel_rfl, rfl⟩
theorem f3_spec {a0 : D_api_Record} {a1 : Str} {s1789 : Value} {r : Bool} (hr : m3 a0 a1 = some r) : Spec Tryz.prog 3 [.agg #[.int .i64 a0.ID, s1789], str a1] [(ty24.fact a0 [.int .i64 a0.ID, s1789]), (Ty.str.fact a1 [str a1]), (tabsF Tryz.prog 4 5)] (post3 r) := by
 refine spec_start (N := 111) Tryz.func3 (by kernel_rfl) rfl rfl rfl ?_
 intro g hS
 unfold m3 at hr
 refine at_open (A := Unit) 0 rfl (fun _ => True) (fun _ => [((Ty.int .i64).fact a0.ID [.int .i64 a0.ID]), ((Ty.slice ty59).fact a0.Fields [s1789])]) (fun F w h => ⟨(), trivial, ex24 h⟩) (fun _ _ => ?_)
 refine at_inv 0 rfl (fun l1790 => ?_)
 replace l1790 : (-9223372036854775808) ≤ a0.ID ∧ a0.ID ≤ 9223372036854775807 := l1790
 refine s_sr (at_hv rfl ?_)
 refine hv_box (cs := [.int .i64 a0.ID, s1789]) rfl rfl rfl (fun b1791 => ?_)
 refine s_as rfl (s_nt (at_seq (s_sr ?_)))
 replace hr := obind hr
 obtain ⟨x1792, h1793, hr⟩ := hr
 refine at_hv rfl (hv_call0 [4] (f11_spec h1793) rfl rfl rfl rfl ?_)
 rintro _ _ ⟨rfl, rfl⟩
 refine at_lt (lt_not rfl) rfl (s_nt ?_)
 by_cases h1794 : x1792 = true
 ·replace hr := ipos h1794 hr
  refine at_false rfl (nt h1794) (at_skip (at_then (at_seq (s_sr (at_lt (lt_load_box 0 rfl ti24 rfl rfl rfl rfl rfl) rfl ?_)))))
  replace hr := obind hr
  obtain ⟨x1795, h1796, hr⟩ := hr
  refine at_derive [0, 1] (ty24.fact (⟨a0.ID, a0.Fields⟩ : D_api_Record) [.int .i64 a0.ID, s1789]) rfl (fun F w h => mk24 (x := (⟨a0.ID, a0.Fields⟩ : D_api_Record)) h) ?_
  refine at_int .i64 61 (by simp only [lo, hi]; omega) (at_hv rfl (hv_call0 [1, 0] (f12_spec h1796) rfl rfl rfl rfl ?_))
  rintro _ _ ⟨rfl, rfl⟩
  refine at_lt (lt_not rfl) rfl (s_mv rfl ?_)
  by_cases h1797 : x1795 = true
  ·replace hr := ipos h1797 hr
   refine at_on rfl rfl (nt h1797) (s_mv rfl ?_)
   refine at_inv 5 rfl (fun l1798 => ?_)
   replace l1798 : a1.length ≤ 9223372036854775807 := l1798
   refine at_on rfl rfl (nt h1797) (at_lt (lt_slen rfl und9) rfl (at_on rfl rfl (nt h1797) (at_lt (lt_gtr rfl rfl) rfl (at_lt (lt_pick false rfl (nt h1797) rfl) rfl (s_nt ?_)))))
   by_cases h1799 : 600 < a1.length
   ·replace hr := ipos h1799 hr
    refine at_true rfl (decide_eq_true (by omega)) ?_
    refine s_sr (s_as rfl (s_nt (at_ret ?_)))
    have hq := oinj hr
    clear hr
    subst hq
    refine at_then_ret ?_
    exact at_return (.bool true) [] hS Tryz.results3 (.cons (.tmp rfl) .nil) rfl rfl ⟨rfl, rfl⟩
   replace hr := ineg h1799 hr
   refine at_false rfl (decide_eq_false (by omega)) ?_
   refine at_skip (s_tsr (at_lt (lt_load_box 0 rfl ti24 rfl rfl rfl rfl rfl) rfl ?_))
   replace hr := obind hr
   obtain ⟨x1800, h1801, hr⟩ := hr
   refine at_hv rfl (hv_call0 [1, 6] (f13_spec h1801) rfl rfl rfl rfl ?_)
   rintro _ _ ⟨rfl, rfl⟩
   refine at_inv 1 rfl (fun l1802 => ?_)
   replace l1802 : (-9223372036854775808) ≤ x1800.2 ∧ x1800.2 ≤ 9223372036854775807 := l1802
   refine s_mv rfl (at_lt (lt_extract rfl rfl) rfl (at_lt (lt_extract rfl rfl) rfl (s_as rfl (s_as rfl (s_ntsr (at_lt (lt_load_box 0 rfl ti24 rfl rfl rfl rfl rfl) rfl ?_))))))
   replace hr := obind hr
   obtain ⟨x1803, h1804, hr⟩ := hr
   refine at_hv rfl (hv_call0 [3] (f14_spec h1804) rfl rfl rfl rfl ?_)
   rintro _ _ ⟨rfl, rfl⟩
   refine at_inv 1 rfl (fun l1805 => ?_)
   replace l1805 : (-9223372036854775808) ≤ x1803.2 ∧ x1803.2 ≤ 9223372036854775807 := l1805
   refine s_mv rfl (at_lt (lt_extract rfl rfl) rfl (at_lt (lt_extract rfl rfl) rfl (s_as rfl (s_as rfl (s_ntsr (s_mv rfl ?_))))))
   replace hr := obind hr
   obtain ⟨x1806, h1807, hr⟩ := hr
   refine at_hv rfl (hv_call0 [9, 10] (f15_spec h1807) rfl rfl rfl rfl ?_)
   rintro _ _ ⟨s1808, rfl, rfl⟩
   refine at_open (A := Unit) 0 rfl (fun _ => True) (fun _ => [((Ty.int .i64).fact x1806.1.ID [.int .i64 x1806.1.ID]), ((Ty.slice ty59).fact x1806.1.Fields [s1808])]) (fun F w h => ⟨(), trivial, ex24 h⟩) (fun _ _ => ?_)
   refine at_inv 0 rfl (fun l1809 => ?_)
   replace l1809 : (-9223372036854775808) ≤ x1806.1.ID ∧ x1806.1.ID ≤ 9223372036854775807 := l1809
   refine at_inv 3 rfl (fun l1810 => ?_)
   replace l1810 : (-9223372036854775808) ≤ x1806.2.1 ∧ x1806.2.1 ≤ 9223372036854775807 := l1810
   refine at_inv 4 rfl (fun l1811 => ?_)
   replace l1811 : (-9223372036854775808) ≤ x1806.2.2 ∧ x1806.2.2 ≤ 9223372036854775807 := l1811
   refine s_mv rfl (at_lt (lt_extract rfl rfl) rfl (at_lt (lt_extract rfl rfl) rfl (at_lt (lt_extract rfl rfl) rfl (at_hv rfl ?_))))
   refine hv_alloc (cs := [.int .i64 0, (.slice none 0 0)]) ti24 rfl rfl (fun b1812 => ?_)
   refine at_one 1 rfl (fun ho1813 => ?_)
   refine at_hv rfl (hv_store_box 0 (cs' := [.int .i64 x1806.1.ID, s1808]) rfl rfl ti24 rfl rfl rfl rfl (allc rfl (allc ho1813 rfl)) (s_as rfl (s_as rfl (s_ntsr (s_mv rfl ?_)))))
   replace hr := obind hr
   obtain ⟨x1814, h1815, hr⟩ := hr
   refine at_hv rfl (hv_call0 [14] (f16_spec h1815) rfl rfl rfl rfl ?_)
   rintro _ _ ⟨s1816, rfl, rfl⟩
   refine at_open (A := Unit) 0 rfl (fun _ => True) (fun _ => [((Ty.int .i64).fact x1814.1.ID [.int .i64 x1814.1.ID]), ((Ty.slice ty59).fact x1814.1.Fields [s1816])]) (fun F w h => ⟨(), trivial, ex24 h⟩) (fun _ _ => ?_)
   refine at_inv 0 rfl (fun l1817 => ?_)
   replace l1817 : (-9223372036854775808) ≤ x1814.1.ID ∧ x1814.1.ID ≤ 9223372036854775807 := l1817
   refine at_inv 3 rfl (fun l1818 => ?_)
   replace l1818 : (-9223372036854775808) ≤ x1814.2.1 ∧ x1814.2.1 ≤ 9223372036854775807 := l1818
   refine at_inv 4 rfl (fun l1819 => ?_)
   replace l1819 : (-9223372036854775808) ≤ x1814.2.2 ∧ x1814.2.2 ≤ 9223372036854775807 := l1819
   refine s_mv rfl (at_lt (lt_extract rfl rfl) rfl (at_lt (lt_extract rfl rfl) rfl (at_lt (lt_extract rfl rfl) rfl (at_hv rfl ?_))))
   refine hv_alloc (cs := [.int .i64 0, (.slice none 0 0)]) ti24 rfl rfl (fun b1820 => ?_)
   refine at_one 1 rfl (fun ho1821 => ?_)
   refine at_hv rfl (hv_store_box 0 (cs' := [.int .i64 x1814.1.ID, s1816]) rfl rfl ti24 rfl rfl rfl rfl (allc rfl (allc ho1821 rfl)) (s_as rfl (s_as rfl (s_nt (at_seq (s_sr (s_mv rfl (s_mv rfl (at_lt (lt_sneq rfl rfl) rfl ?_)))))))))
   refine s_mv rfl ?_
   by_cases h1822 : x1800.1 = x1803.1
   ·replace hr := ipos h1822 hr
    refine at_on rfl rfl (nt (decide_eq_true h1822)) (s_mv rfl (at_on rfl rfl (nt (decide_eq_true h1822)) (s_mv rfl (at_on rfl rfl (nt (decide_eq_true h1822)) (at_lt (lt_neq rfl rfl) rfl (at_lt (lt_pick false rfl (nt (decide_eq_true h1822)) rfl) rfl (s_mv rfl ?_)))))))
    by_cases h1823 : x1800.2 = x1803.2
    ·replace hr := ipos h1823 hr
     refine at_on rfl rfl (nt (decide_eq_true (by first | exact h1823 | omega))) ?_
     refine at_lt (lt_load_box 1 rfl ti24 rfl rfl rfl rfl rfl) rfl ?_
     refine at_on rfl rfl (nt (decide_eq_true (by first | exact h1823 | omega))) ?_
     refine at_lt (lt_load_box 0 rfl ti24 rfl rfl rfl rfl rfl) rfl ?_
     replace hr := obind hr
     obtain ⟨x1824, h1825, hr⟩ := hr
     refine at_derive [5, 6] (ty24.fact (⟨x1806.1.ID, x1806.1.Fields⟩ : D_api_Record) [.int .i64 x1806.1.ID, s1808]) rfl (fun F w h => mk24 (x := (⟨x1806.1.ID, x1806.1.Fields⟩ : D_api_Record)) h) ?_
     refine at_derive [1, 2] (ty24.fact (⟨x1814.1.ID, x1814.1.Fields⟩ : D_api_Record) [.int .i64 x1814.1.ID, s1816]) rfl (fun F w h => mk24 (x := (⟨x1814.1.ID, x1814.1.Fields⟩ : D_api_Record)) h) ?_
     refine at_on rfl rfl (nt (decide_eq_true (by first | exact h1823 | omega))) ?_
     refine at_hv rfl (hv_call0 [1, 0] (f17_spec h1825) rfl rfl rfl rfl ?_)
     rintro _ _ ⟨rfl, rfl⟩
     refine at_on rfl rfl (nt (decide_eq_true (by first | exact h1823 | omega))) ?_
     refine at_lt (lt_not rfl) rfl ?_
     refine at_lt (lt_pick false rfl (nt (decide_eq_true (by first | exact h1823 | omega))) rfl) rfl ?_
     refine s_mv rfl ?_
     by_cases h1826 : x1824 = true
     ·replace hr := ipos h1826 hr
      refine at_on rfl rfl (nt h1826) (s_mv rfl (at_on rfl rfl (nt h1826) (s_mv rfl (at_on rfl rfl (nt h1826) (at_lt (lt_neq rfl rfl) rfl (at_lt (lt_pick false rfl (nt h1826) rfl) rfl (s_mv rfl ?_)))))))
      by_cases h1827 : x1806.2.1 = x1814.2.1
      ·replace hr := ipos h1827 hr
       refine at_on rfl rfl (nt (decide_eq_true (by first | exact h1827 | omega))) ?_
       refine s_mv rfl ?_
       refine at_on rfl rfl (nt (decide_eq_true (by first | exact h1827 | omega))) ?_
       refine s_mv rfl ?_
       refine at_on rfl rfl (nt (decide_eq_true (by first | exact h1827 | omega))) ?_
       refine at_lt (lt_neq rfl rfl) rfl ?_
       refine at_lt (lt_pick false rfl (nt (decide_eq_true (by first | exact h1827 | omega))) rfl) rfl ?_
       refine s_nt ?_
       by_cases h1828 : x1806.2.2 = x1814.2.2
       ·replace hr := ipos h1828 hr
        refine at_false rfl (nt (decide_eq_true (by first | exact h1828 | omega))) ?_
        refine at_skip (s_tsr (s_mv rfl ?_))
        replace hr := obind hr
        obtain ⟨x1829, h1830, hr⟩ := hr
        refine at_hv rfl (hv_call0 [14, 22] (f15_spec h1830) rfl rfl rfl rfl ?_)
        rintro _ _ ⟨s1831, rfl, rfl⟩
        refine at_open (A := Unit) 0 rfl (fun _ => True) (fun _ => [((Ty.int .i64).fact x1829.1.ID [.int .i64 x1829.1.ID]), ((Ty.slice ty59).fact x1829.1.Fields [s1831])]) (fun F w h => ⟨(), trivial, ex24 h⟩) (fun _ _ => ?_)
        refine at_inv 0 rfl (fun l1832 => ?_)
        replace l1832 : (-9223372036854775808) ≤ x1829.1.ID ∧ x1829.1.ID ≤ 9223372036854775807 := l1832
        refine at_inv 3 rfl (fun l1833 => ?_)
        replace l1833 : (-9223372036854775808) ≤ x1829.2.1 ∧ x1829.2.1 ≤ 9223372036854775807 := l1833
        refine at_inv 4 rfl (fun l1834 => ?_)
        replace l1834 : (-9223372036854775808) ≤ x1829.2.2 ∧ x1829.2.2 ≤ 9223372036854775807 := l1834
        refine s_mv rfl (at_lt (lt_extract rfl rfl) rfl (at_lt (lt_extract rfl rfl) rfl (at_lt (lt_extract rfl rfl) rfl (at_hv rfl ?_))))
        refine hv_alloc (cs := [.int .i64 0, (.slice none 0 0)]) ti24 rfl rfl (fun b1835 => ?_)
        refine at_one 1 rfl (fun ho1836 => ?_)
        refine at_hv rfl (hv_store_box 0 (cs' := [.int .i64 x1829.1.ID, s1831]) rfl rfl ti24 rfl rfl rfl rfl (allc rfl (allc ho1836 rfl)) (s_as rfl (s_as rfl (s_ntsr (at_lt (lt_load_box 2 rfl ti24 rfl rfl rfl rfl rfl) rfl ?_)))))
        replace hr := obind hr
        obtain ⟨x1837, h1838, hr⟩ := hr
        refine at_hv rfl (hv_call0 [6, 27] (f13_spec h1838) rfl rfl rfl rfl ?_)
        rintro _ _ ⟨rfl, rfl⟩
        refine at_inv 1 rfl (fun l1839 => ?_)
        replace l1839 : (-9223372036854775808) ≤ x1837.2 ∧ x1837.2 ≤ 9223372036854775807 := l1839
        refine s_mv rfl (at_lt (lt_extract rfl rfl) rfl (at_lt (lt_extract rfl rfl) rfl (s_as rfl (s_as rfl (s_ntsr (s_mv rfl (at_lt (lt_neq rfl rfl) rfl (s_mv rfl ?_))))))))
        by_cases h1840 : x1800.2 = 0
        ·replace hr := ipos h1840 hr
         refine at_on rfl rfl (nt (decide_eq_true (by first | exact h1840 | omega))) ?_
         refine s_mv rfl ?_
         refine at_on rfl rfl (nt (decide_eq_true (by first | exact h1840 | omega))) ?_
         refine at_lt (lt_eql rfl rfl) rfl ?_
         refine at_on rfl rfl (nt (decide_eq_true (by first | exact h1840 | omega))) ?_
         refine s_mv rfl ?_
         by_cases h1841 : x1829.2.2 = 0
         ·replace hr := ipos h1841 hr
          refine at_on rfl rfl (decide_eq_true (by first | exact h1841 | omega)) ?_
          refine at_lt (lt_load_box 0 rfl ti24 rfl rfl rfl rfl rfl) rfl ?_
          refine at_on rfl rfl (decide_eq_true (by first | exact h1841 | omega)) ?_
          refine at_lt (lt_load_box 3 rfl ti24 rfl rfl rfl rfl rfl) rfl ?_
          replace hr := obind hr
          obtain ⟨x1842, h1843, hr⟩ := hr
          refine at_derive [2, 3] (ty24.fact (⟨x1829.1.ID, x1829.1.Fields⟩ : D_api_Record) [.int .i64 x1829.1.ID, s1831]) rfl (fun F w h => mk24 (x := (⟨x1829.1.ID, x1829.1.Fields⟩ : D_api_Record)) h) ?_
          refine at_on rfl rfl (decide_eq_true (by first | exact h1841 | omega)) ?_
          refine at_hv rfl (hv_call0 [0, 25] (f17_spec h1843) rfl rfl rfl rfl ?_)
          rintro _ _ ⟨rfl, rfl⟩
          refine at_on rfl rfl (nt (decide_eq_true (by first | exact h1840 | omega))) ?_
          refine at_lt (lt_pick true rfl (decide_eq_true (by first | exact h1841 | omega)) rfl) rfl ?_
          refine at_lt (lt_pick false rfl (nt (decide_eq_true (by first | exact h1840 | omega))) rfl) rfl ?_
          refine s_mv rfl ?_
          by_cases h1844 : x1842 = true
          ·replace hr := ipos h1844 hr
           refine at_on rfl rfl h1844 (s_mv rfl (at_on rfl rfl h1844 (at_lt (lt_neq rfl rfl) rfl (at_on rfl rfl h1844 (s_mv rfl ?_)))))
           by_cases h1845 : x1806.2.2 = 0
           ·replace hr := ipos h1845 hr
            refine at_on rfl rfl (nt (decide_eq_true (by first | exact h1845 | omega))) ?_
            refine s_mv rfl ?_
            refine at_on rfl rfl (nt (decide_eq_true (by first | exact h1845 | omega))) ?_
            refine at_lt (lt_eql rfl rfl) rfl ?_
            refine at_on rfl rfl (nt (decide_eq_true (by first | exact h1845 | omega))) ?_
            refine s_mv rfl ?_
            by_cases h1846 : x1837.2 = 0
            ·replace hr := ipos h1846 hr
             refine at_on rfl rfl (decide_eq_true (by first | exact h1846 | omega)) ?_
             refine s_mv rfl ?_
             refine at_on rfl rfl (decide_eq_true (by first | exact h1846 | omega)) ?_
             refine s_mv rfl ?_
             refine at_on rfl rfl (decide_eq_true (by first | exact h1846 | omega)) ?_
             refine at_lt (lt_seql rfl rfl) rfl ?_
             refine at_on rfl rfl (nt (decide_eq_true (by first | exact h1845 | omega))) ?_
             refine at_lt (lt_pick true rfl (decide_eq_true (by first | exact h1846 | omega)) rfl) rfl ?_
             refine at_on rfl rfl h1844 ?_
             refine at_lt (lt_pick false rfl (nt (decide_eq_true (by first | exact h1845 | omega))) rfl) rfl ?_
             refine at_lt (lt_pick true rfl h1844 rfl) rfl (s_as rfl (s_nt (at_ret ?_)))
             have hq := oinj hr
             clear hr
             subst hq
             exact at_return (.bool (decide (x1837.1 = a1))) [] hS Tryz.results3 (.cons (.tmp rfl) .nil) rfl rfl ⟨rfl, rfl⟩
            replace hr := ineg h1846 hr
            refine at_off rfl rfl (decide_eq_false (by first | exact h1846 | omega)) rfl ?_
            refine at_off rfl rfl (decide_eq_false (by first | exact h1846 | omega)) rfl ?_
            refine at_off rfl rfl (decide_eq_false (by first | exact h1846 | omega)) rfl ?_
            refine at_on rfl rfl (nt (decide_eq_true (by first | exact h1845 | omega))) ?_
            refine at_lt (lt_pick false rfl (decide_eq_false (by first | exact h1846 | omega)) rfl) rfl ?_
            refine at_on rfl rfl h1844 ?_
            refine at_lt (lt_pick false rfl (nt (decide_eq_true (by first | exact h1845 | omega))) rfl) rfl ?_
            refine at_lt (lt_pick true rfl h1844 rfl) rfl (s_as rfl (s_nt (at_ret ?_)))
            have hq := oinj hr
            clear hr
            subst hq
            exact at_return (.bool false) [] hS Tryz.results3 (.cons (.tmp rfl) .nil) rfl rfl ⟨rfl, rfl⟩
           replace hr := ineg h1845 hr
           refine at_off rfl rfl (nf (decide_eq_false (by first | exact h1845 | omega))) rfl ?_
           refine at_off rfl rfl (nf (decide_eq_false (by first | exact h1845 | omega))) rfl ?_
           refine at_off rfl rfl (nf (decide_eq_false (by first | exact h1845 | omega))) rfl ?_
           refine at_offu rfl rfl rfl (at_offu rfl rfl rfl (at_offu rfl rfl rfl ?_))
           refine at_off rfl rfl (nf (decide_eq_false (by first | exact h1845 | omega))) rfl ?_
           refine at_on rfl rfl h1844 ?_
           refine at_lt (lt_pick true rfl (nf (decide_eq_false (by first | exact h1845 | omega))) rfl) rfl ?_
           refine at_lt (lt_pick true rfl h1844 rfl) rfl (s_as rfl (s_nt (at_ret ?_)))
           have hq := oinj hr
           clear hr
           subst hq
           exact at_return (.bool true) [] hS Tryz.results3 (.cons (.tmp rfl) .nil) rfl rfl ⟨rfl, rfl⟩
          replace hr := ineg h1844 hr
          refine at_off rfl rfl (bf h1844) rfl (at_off rfl rfl (bf h1844) rfl (at_off rfl rfl (bf h1844) rfl (at_offu rfl rfl rfl (at_offu rfl rfl rfl (at_offu rfl rfl rfl (at_offu rfl rfl rfl (at_offu rfl rfl rfl (at_offu rfl rfl rfl (at_offu rfl rfl rfl ?_)))))))))
          refine at_off rfl rfl (bf h1844) rfl (at_lt (lt_pick false rfl (bf h1844) rfl) rfl (s_as rfl (s_nt (at_ret ?_))))
          have hq := oinj hr
          clear hr
          subst hq
          exact at_return (.bool false) [] hS Tryz.results3 (.cons (.tmp rfl) .nil) rfl rfl ⟨rfl, rfl⟩
         replace hr := ineg h1841 hr
         refine at_off rfl rfl (decide_eq_false (by first | exact h1841 | omega)) rfl ?_
         refine at_off rfl rfl (decide_eq_false (by first | exact h1841 | omega)) rfl ?_
         refine at_off rfl rfl (decide_eq_false (by first | exact h1841 | omega)) rfl ?_
         refine at_on rfl rfl (nt (decide_eq_true (by first | exact h1840 | omega))) ?_
         refine at_lt (lt_pick false rfl (decide_eq_false (by first | exact h1841 | omega)) rfl) rfl ?_
         refine at_lt (lt_pick false rfl (nt (decide_eq_true (by first | exact h1840 | omega))) rfl) rfl ?_
         refine s_mv rfl (at_off rfl rfl rfl rfl (at_off rfl rfl rfl rfl (at_off rfl rfl rfl rfl (at_offu rfl rfl rfl (at_offu rfl rfl rfl (at_offu rfl rfl rfl (at_offu rfl rfl rfl (at_offu rfl rfl rfl (at_offu rfl rfl rfl ?_)))))))))
         refine at_offu rfl rfl rfl (at_off rfl rfl rfl rfl (at_lt (lt_pick false rfl rfl rfl) rfl (s_as rfl (s_nt (at_ret ?_)))))
         have hq := oinj hr
         clear hr
         subst hq
         exact at_return (.bool false) [] hS Tryz.results3 (.cons (.tmp rfl) .nil) rfl rfl ⟨rfl, rfl⟩
        replace hr := ineg h1840 hr
        refine at_off rfl rfl (nf (decide_eq_false (by first | exact h1840 | omega))) rfl ?_
        refine at_off rfl rfl (nf (decide_eq_false (by first | exact h1840 | omega))) rfl ?_
        refine at_off rfl rfl (nf (decide_eq_false (by first | exact h1840 | omega))) rfl ?_
        refine at_offu rfl rfl rfl (at_offu rfl rfl rfl (at_offu rfl rfl rfl ?_))
        refine at_off rfl rfl (nf (decide_eq_false (by first | exact h1840 | omega))) rfl ?_
        refine at_lt (lt_pick true rfl (nf (decide_eq_false (by first | exact h1840 | omega))) rfl) rfl ?_
        refine s_mv rfl (at_on rfl rfl rfl (s_mv rfl (at_on rfl rfl rfl (at_lt (lt_neq rfl rfl) rfl (at_on rfl rfl rfl (s_mv rfl ?_))))))
        by_cases h1847 : x1806.2.2 = 0
        ·replace hr := ipos h1847 hr
         refine at_on rfl rfl (nt (decide_eq_true (by first | exact h1847 | omega))) ?_
         refine s_mv rfl ?_
         refine at_on rfl rfl (nt (decide_eq_true (by first | exact h1847 | omega))) ?_
         refine at_lt (lt_eql rfl rfl) rfl ?_
         refine at_on rfl rfl (nt (decide_eq_true (by first | exact h1847 | omega))) ?_
         refine s_mv rfl ?_
         by_cases h1848 : x1837.2 = 0
         ·replace hr := ipos h1848 hr
          refine at_on rfl rfl (decide_eq_true (by first | exact h1848 | omega)) ?_
          refine s_mv rfl ?_
          refine at_on rfl rfl (decide_eq_true (by first | exact h1848 | omega)) ?_
          refine s_mv rfl ?_
          refine at_on rfl rfl (decide_eq_true (by first | exact h1848 | omega)) ?_
          refine at_lt (lt_seql rfl rfl) rfl ?_
          refine at_on rfl rfl (nt (decide_eq_true (by first | exact h1847 | omega))) ?_
          refine at_lt (lt_pick true rfl (decide_eq_true (by first | exact h1848 | omega)) rfl) rfl ?_
          refine at_on rfl rfl rfl ?_
          refine at_lt (lt_pick false rfl (nt (decide_eq_true (by first | exact h1847 | omega))) rfl) rfl ?_
          refine at_lt (lt_pick true rfl rfl rfl) rfl (s_as rfl (s_nt (at_ret ?_)))
          have hq := oinj hr
          clear hr
          subst hq
          exact at_return (.bool (decide (x1837.1 = a1))) [] hS Tryz.results3 (.cons (.tmp rfl) .nil) rfl rfl ⟨rfl, rfl⟩
         replace hr := ineg h1848 hr
         refine at_off rfl rfl (decide_eq_false (by first | exact h1848 | omega)) rfl ?_
         refine at_off rfl rfl (decide_eq_false (by first | exact h1848 | omega)) rfl ?_
         refine at_off rfl rfl (decide_eq_false (by first | exact h1848 | omega)) rfl ?_
         refine at_on rfl rfl (nt (decide_eq_true (by first | exact h1847 | omega))) ?_
         refine at_lt (lt_pick false rfl (decide_eq_false (by first | exact h1848 | omega)) rfl) rfl ?_
         refine at_on rfl rfl rfl ?_
         refine at_lt (lt_pick false rfl (nt (decide_eq_true (by first | exact h1847 | omega))) rfl) rfl ?_
         refine at_lt (lt_pick true rfl rfl rfl) rfl (s_as rfl (s_nt (at_ret ?_)))
         have hq := oinj hr
         clear hr
         subst hq
         exact at_return (.bool false) [] hS Tryz.results3 (.cons (.tmp rfl) .nil) rfl rfl ⟨rfl, rfl⟩
        replace hr := ineg h1847 hr
        refine at_off rfl rfl (nf (decide_eq_false (by first | exact h1847 | omega))) rfl ?_
        refine at_off rfl rfl (nf (decide_eq_false (by first | exact h1847 | omega))) rfl ?_
        refine at_off rfl rfl (nf (decide_eq_false (by first | exact h1847 | omega))) rfl ?_
        refine at_offu rfl rfl rfl (at_offu rfl rfl rfl (at_offu rfl rfl rfl ?_))
        refine at_off rfl rfl (nf (decide_eq_false (by first | exact h1847 | omega))) rfl ?_
        refine at_on rfl rfl rfl ?_
        refine at_lt (lt_pick true rfl (nf (decide_eq_false (by first | exact h1847 | omega))) rfl) rfl ?_
        refine at_lt (lt_pick true rfl rfl rfl) rfl (s_as rfl (s_nt (at_ret ?_)))
        have hq := oinj hr
        clear hr
        subst hq
        exact at_return (.bool true) [] hS Tryz.results3 (.cons (.tmp rfl) .nil) rfl rfl ⟨rfl, rfl⟩
       replace hr := ineg h1828 hr
       refine at_true rfl (nf (decide_eq_false (by first | exact h1828 | omega))) ?_
       refine s_sr (s_as rfl (s_nt (at_ret ?_)))
       have hq := oinj hr
       clear hr
       subst hq
       refine at_then_ret ?_
       exact at_return (.bool false) [] hS Tryz.results3 (.cons (.tmp rfl) .nil) rfl rfl ⟨rfl, rfl⟩
      replace hr := ineg h1827 hr
      refine at_off rfl rfl (nf (decide_eq_false (by first | exact h1827 | omega))) rfl ?_
      refine at_off rfl rfl (nf (decide_eq_false (by first | exact h1827 | omega))) rfl ?_
      refine at_off rfl rfl (nf (decide_eq_false (by first | exact h1827 | omega))) rfl ?_
      refine at_lt (lt_pick true rfl (nf (decide_eq_false (by first | exact h1827 | omega))) rfl) rfl ?_
      refine s_nt (at_true rfl rfl (s_sr (s_as rfl (s_nt (at_ret ?_)))))
      have hq := oinj hr
      clear hr
      subst hq
      refine at_then_ret ?_
      exact at_return (.bool false) [] hS Tryz.results3 (.cons (.tmp rfl) .nil) rfl rfl ⟨rfl, rfl⟩
     replace hr := ineg h1826 hr
     refine at_off rfl rfl (nf (bf h1826)) rfl (at_off rfl rfl (nf (bf h1826)) rfl (at_off rfl rfl (nf (bf h1826)) rfl (at_lt (lt_pick true rfl (nf (bf h1826)) rfl) rfl (s_mv rfl (at_off rfl rfl rfl rfl (at_off rfl rfl rfl rfl (at_off rfl rfl rfl rfl (at_lt (lt_pick true rfl rfl rfl) rfl (s_nt ?_)))))))))
     refine at_true rfl rfl (s_sr (s_as rfl (s_nt (at_ret ?_))))
     have hq := oinj hr
     clear hr
     subst hq
     refine at_then_ret ?_
     exact at_return (.bool false) [] hS Tryz.results3 (.cons (.tmp rfl) .nil) rfl rfl ⟨rfl, rfl⟩
    replace hr := ineg h1823 hr
    refine at_off rfl rfl (nf (decide_eq_false (by first | exact h1823 | omega))) rfl ?_
    refine at_off rfl rfl (nf (decide_eq_false (by first | exact h1823 | omega))) rfl ?_
    refine at_off rfl rfl (nf (decide_eq_false (by first | exact h1823 | omega))) rfl ?_
    refine at_off rfl rfl (nf (decide_eq_false (by first | exact h1823 | omega))) rfl ?_
    refine at_lt (lt_pick true rfl (nf (decide_eq_false (by first | exact h1823 | omega))) rfl) rfl ?_
    refine s_mv rfl (at_off rfl rfl rfl rfl (at_off rfl rfl rfl rfl (at_off rfl rfl rfl rfl (at_lt (lt_pick true rfl rfl rfl) rfl (s_mv rfl (at_off rfl rfl rfl rfl (at_off rfl rfl rfl rfl (at_off rfl rfl rfl rfl (at_lt (lt_pick true rfl rfl rfl) rfl ?_)))))))))
    refine s_nt (at_true rfl rfl (s_sr (s_as rfl (s_nt (at_ret ?_)))))
    have hq := oinj hr
    clear hr
    subst hq
    refine at_then_ret ?_
    exact at_return (.bool false) [] hS Tryz.results3 (.cons (.tmp rfl) .nil) rfl rfl ⟨rfl, rfl⟩
   replace hr := ineg h1822 hr
   refine at_off rfl rfl (nf (decide_eq_false h1822)) rfl (at_off rfl rfl (nf (decide_eq_false h1822)) rfl (at_off rfl rfl (nf (decide_eq_false h1822)) rfl (at_lt (lt_pick true rfl (nf (decide_eq_false h1822)) rfl) rfl (s_mv rfl (at_off rfl rfl rfl rfl (at_off rfl rfl rfl rfl (at_off rfl rfl rfl rfl (at_off rfl rfl rfl rfl (at_lt (lt_pick true rfl rfl rfl) rfl ?_)))))))))
   refine s_mv rfl (at_off rfl rfl rfl rfl (at_off rfl rfl rfl rfl (at_off rfl rfl rfl rfl (at_lt (lt_pick true rfl rfl rfl) rfl (s_mv rfl (at_off rfl rfl rfl rfl (at_off rfl rfl rfl rfl (at_off rfl rfl rfl rfl (at_lt (lt_pick true rfl rfl rfl) rfl ?_)))))))))
   refine s_nt (at_true rfl rfl (s_sr (s_as rfl (s_nt (at_ret ?_)))))
   have hq := oinj hr
   clear hr
   subst hq
   refine at_then_ret ?_
   exact at_return (.bool false) [] hS Tryz.results3 (.cons (.tmp rfl) .nil) rfl rfl ⟨rfl, rfl⟩
  replace hr := ineg h1797 hr
  refine at_off rfl rfl (nf (bf h1797)) rfl (at_off rfl rfl (nf (bf h1797)) rfl (at_off rfl rfl (nf (bf h1797)) rfl (at_lt (lt_pick true rfl (nf (bf h1797)) rfl) rfl (s_nt (at_true rfl rfl (s_sr (s_as rfl (s_nt (at_ret ?_)))))))))
  have hq := oinj hr
  clear hr
  subst hq
  refine at_then_ret ?_
  exact at_return (.bool true) [] hS Tryz.results3 (.cons (.tmp rfl) .nil) rfl rfl ⟨rfl, rfl⟩
 replace hr := ineg h1794 hr
 refine at_true rfl (nf (bf h1794)) (s_sr (s_as rfl (s_nt (at_ret ?_))))
 have hq := oinj hr
 clear hr
 subst hq
 refine at_then_ret ?_
 exact at_return (.bool false) [] hS Tryz.results3 (.cons (.tmp rfl) .nil) rfl rfl ⟨rfl, rfl⟩
end Go.WK.S
