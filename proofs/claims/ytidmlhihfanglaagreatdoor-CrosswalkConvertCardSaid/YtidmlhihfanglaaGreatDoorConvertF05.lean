
/- What functions of this program compute: a model of each, and the proof that it is kept. -/
import Derived.Test.YtidmlhihfanglaaGreatDoorConvertF04
import Derived.KernelRfl
set_option linter.unusedSimpArgs false
set_option linter.unusedVariables false
namespace Go.WK.S
open Go Go.Proofs Go.WK Go.RowKit
set_option linter.unusedVariables false
set_option maxRecDepth 100000
set_option maxHeartbeats 4000000
def m38_l1 (x1978 : D_api_Record) : Nat → Nat → (List D_api_Field) → Option (List D_api_Field)
  | 0, _, _ => none
  | k + 1, x1985, x1986 =>
    if x1985 < x1978.Fields.length then
     (x1978.Fields[x1985]?).bind fun x1995 =>
     (m75 x1986 x1995).bind fun x2000 =>
     m38_l1 x1978 k (x1985 + 1) x2000
    else
     some x1986
def m38 (a0 : D_api_Record) : Option D_api_Record :=
  (m74 (⟨a0.ID, a0.Fields⟩ : D_api_Record)).bind fun x1978 =>
  (m38_l1 x1978 (x1978.Fields.length + 1) 0 ([] : (List D_api_Field))).bind fun x1988 =>
  some (⟨a0.ID, x1988⟩ : D_api_Record)
def post38 (r : D_api_Record) (v : Value) (fs : List Fact) : Prop := ∃ s2006 : Value, v = .agg #[.int .i64 r.ID, s2006] ∧ fs = [(ty25.fact r [.int .i64 r.ID, s2006])]
theorem en38 : Enters Tryz.prog 38 := ⟨_, Tryz.func38, by kernel_rfl, rfl⟩
theorem f38_spec {a0 : D_api_Record} {s1974 : Value} {r : D_api_Record} (hr : m38 a0 = some r) : Spec Tryz.prog 38 [.agg #[.int .i64 a0.ID, s1974]] [(ty25.fact a0 [.int .i64 a0.ID, s1974])] (post38 r) := by
 refine spec_start (N := 28) Tryz.func38 (by kernel_rfl) rfl rfl rfl ?_
 intro g hS
 unfold m38 at hr
 refine at_open (A := Unit) 0 rfl (fun _ => True) (fun _ => [((Ty.int .i64).fact a0.ID [.int .i64 a0.ID]), ((Ty.slice ty69).fact a0.Fields [s1974])]) (fun F w h => ⟨(), trivial, ex25 h⟩) (fun _ _ => ?_)
 refine at_inv 0 rfl (fun l1975 => ?_)
 replace l1975 : (-9223372036854775808) ≤ a0.ID ∧ a0.ID ≤ 9223372036854775807 := l1975
 refine s_sr (at_hv rfl ?_)
 refine hv_box (cs := [.int .i64 a0.ID, s1974]) rfl rfl rfl (fun b1976 => ?_)
 refine at_hv rfl ?_
 refine hv_alloc (cs := [.int .i64 0, (.slice none 0 0)]) ti25 rfl rfl (fun b1977 => ?_)
 refine s_ntsr (at_lt (lt_load_box 1 rfl ti25 rfl rfl rfl rfl rfl) rfl ?_)
 replace hr := obind hr
 obtain ⟨x1978, h1979, hr⟩ := hr
 refine at_derive [0, 1] (ty25.fact (⟨a0.ID, a0.Fields⟩ : D_api_Record) [.int .i64 a0.ID, s1974]) rfl (fun F w h => mk25 (x := (⟨a0.ID, a0.Fields⟩ : D_api_Record)) h) ?_
 refine at_hv rfl (hv_call0 [0] (f74_spec h1979) rfl rfl rfl rfl ?_)
 rintro _ _ ⟨s1980, rfl, rfl⟩
 refine at_open (A := Unit) 0 rfl (fun _ => True) (fun _ => [((Ty.int .i64).fact x1978.ID [.int .i64 x1978.ID]), ((Ty.slice ty69).fact x1978.Fields [s1980])]) (fun F w h => ⟨(), trivial, ex25 h⟩) (fun _ _ => ?_)
 refine at_inv 0 rfl (fun l1981 => ?_)
 replace l1981 : (-9223372036854775808) ≤ x1978.ID ∧ x1978.ID ≤ 9223372036854775807 := l1981
 refine at_hv rfl ?_
 refine hv_alloc (cs := [.int .i64 0, (.slice none 0 0)]) ti25 rfl rfl (fun b1982 => ?_)
 refine at_one 1 rfl (fun ho1983 => ?_)
 refine at_hv rfl (hv_store_box 0 (cs' := [.int .i64 x1978.ID, s1980]) rfl rfl ti25 rfl rfl rfl rfl (allc rfl (allc ho1983 rfl)) (s_ntsr (at_lt (lt_fieldAddr 0 rfl fld25_0 rfl) rfl (at_lt (lt_load_box 2 rfl ti3 rfl rfl rfl rfl rfl) rfl (at_lt (lt_build (cs := [.int .i64 a0.ID, (.slice none 0 0)]) rfl ti25 pl25 rfl) rfl (at_hv rfl ?_))))))
 refine hv_alloc (cs := [.int .i64 0, (.slice none 0 0)]) ti25 rfl rfl (fun b1984 => ?_)
 refine at_hv rfl (hv_store_box 0 (cs' := [.int .i64 a0.ID, (.slice none 0 0)]) rfl rfl ti25 rfl rfl rfl rfl rfl (s_nt (at_seq (s_sr (s_as rfl (s_nt (at_int .i64 0 (by simp only [lo, hi]; omega) (at_fnil ty69 none ?_))))))))
 replace hr := obind hr
 obtain ⟨x1988, hl1990, hr⟩ := hr
 refine at_cut (V := Value) (fun e => (⟨[(2, .pointer (some (Addr.add ⟨b1977, 0, none⟩ 0))), (4, .pointer (some (Addr.add ⟨b1984, 0, none⟩ 0)))], [⟨b1984, [.int .i64 a0.ID, e], 25⟩, ⟨b1977, [.int .i64 0, (.slice none 0 0)], 25⟩], [], [((Ty.slice ty69).fact x1988 [e]), ((Ty.int .i64).fact a0.ID [.int .i64 a0.ID])]⟩ : St)) ?_ ?_
 ·refine at_block ?_
  refine at_loopW (σ := (Nat × (List D_api_Field))) (V := Value) (r := x1988) (fun n s => m38_l1 x1978 n s.1 s.2) (fun s e => (⟨[(2, .pointer (some (Addr.add ⟨b1977, 0, none⟩ 0))), (3, .pointer (some (Addr.add ⟨b1982, 0, none⟩ 0))), (4, .pointer (some (Addr.add ⟨b1984, 0, none⟩ 0))), (5, .int .i64 (s.1 : Int))], [⟨b1984, [.int .i64 a0.ID, e], 25⟩, ⟨b1982, [.int .i64 x1978.ID, s1980], 25⟩, ⟨b1977, [.int .i64 0, (.slice none 0 0)], 25⟩], [], [((Ty.int .i64).fact (s.1 : Int) [.int .i64 (s.1 : Int)]), ((Ty.slice ty69).fact s.2 [e]), ((Ty.int .i64).fact a0.ID [.int .i64 a0.ID]), ((Ty.int .i64).fact x1978.ID [.int .i64 x1978.ID]), ((Ty.slice ty69).fact x1978.Fields [s1980])]⟩ : St)) (fun _ => rfl) _ (0, ([] : (List D_api_Field))) (.slice none 0 0) hl1990 ⟨⟨rfl, ⟨rfl, ⟨rfl, ⟨rfl, trivial⟩⟩⟩⟩, ⟨[true, true, true, false], rfl⟩, ⟨[], rfl⟩, ⟨[1, 0, 6, 2, 3], rfl⟩⟩ ?_
  clear hr hl1990
  intro n s hr v1987
  obtain ⟨x1985, x1986⟩ := s
  skip
  change m38_l1 x1978 (n + 1) x1985 x1986 = some x1988 at hr
  change At _ _ (⟨[(2, .pointer (some (Addr.add ⟨b1977, 0, none⟩ 0))), (3, .pointer (some (Addr.add ⟨b1982, 0, none⟩ 0))), (4, .pointer (some (Addr.add ⟨b1984, 0, none⟩ 0))), (5, .int .i64 (x1985 : Int))], [⟨b1984, [.int .i64 a0.ID, v1987], 25⟩, ⟨b1982, [.int .i64 x1978.ID, s1980], 25⟩, ⟨b1977, [.int .i64 0, (.slice none 0 0)], 25⟩], [], [((Ty.int .i64).fact (x1985 : Int) [.int .i64 (x1985 : Int)]), ((Ty.slice ty69).fact x1986 [v1987]), ((Ty.int .i64).fact a0.ID [.int .i64 a0.ID]), ((Ty.int .i64).fact x1978.ID [.int .i64 x1978.ID]), ((Ty.slice ty69).fact x1978.Fields [s1980])]⟩ : St) _
  rw [m38_l1] at hr
  refine at_seq (s_sr (s_mv rfl (at_lt (lt_fieldAddr 1 rfl fld25_1 rfl) rfl (at_lt (lt_load_box 1 rfl ti23 rfl rfl rfl rfl rfl) rfl ?_))))
  refine at_inv 4 rfl (fun i1992 => ?_)
  have l1993 := slice_len i1992
  refine at_lt (lt_flen 4 rfl rfl und23) rfl (at_lt (lt_lss rfl rfl) rfl (s_nt ?_))
  by_cases h1994 : x1985 < x1978.Fields.length
  ·replace hr := ipos h1994 hr
   refine at_true rfl (decide_eq_true (by omega)) ?_
   refine at_skip (at_then (at_seq (at_block ?_)))
   replace hr := obind hr
   obtain ⟨x1995, h1996, hr⟩ := hr
   have := (List.getElem?_eq_some_iff.1 h1996).1
   refine at_elem 4 rfl (nat_at' h1996) (fun p1998 ec pa1999 => ?_)
   refine at_open (A := Value) 0 rfl _ _ (fun F w h => op69 h) ?_
   rintro s1997 rfl
   replace hr := obind hr
   obtain ⟨x2000, h2001, hr⟩ := hr
   refine aa_start 9 (by kernel_rfl) ?_
   refine aa_p 0 rfl (lt_fieldAddr 1 rfl fld25_1 rfl) (aa_l 1 rfl (lt_load_box 0 rfl ti23 rfl rfl rfl rfl rfl) (aa_p 2 rfl (lt_fieldAddr 1 rfl fld25_1 rfl) (aa_l 3 rfl (lt_load_box 1 rfl ti23 rfl rfl rfl rfl rfl) (aa_p 4 rfl (lt_move rfl) (aa_p 5 rfl (lt_idx rfl rfl pa1999 und23 ti69) (aa_l 6 rfl (lt_load_peek 3 rfl ti69 rfl rfl rfl rfl rfl) (aa_one 7 (aa_op rfl rfl (hv_call0 [5, 2] (f75_spec h2001) rfl rfl rfl rfl ?_)))))))))
   rintro s2002 _ ⟨_, rfl, rfl⟩
   refine aa_pure 8 rfl (by kernel_rfl) rfl rfl (lt_fieldAddr 1 rfl fld25_1 rfl) rfl (ts_in 0 1 rfl rfl) ?_
   refine aa_all (rs := [9]) (by kernel_rfl) rfl (ts_in 0 1 rfl rfl) (List.forall_mem_singleton.2 ?_)
   refine at_one 0 rfl (fun ho2004 => ?_)
   refine aa_op rfl rfl (hv_store1 0 (cs' := [.int .i64 a0.ID, s2002]) rfl rfl ti23 rfl rfl rfl rfl ho2004 ?_)
   refine aa_done (by kernel_rfl) (ts_out rfl) ?_
   refine at_in (s_tr (s_mv rfl (at_lt (lt_add rfl rfl (by simp only [lo, hi]; omega)) rfl (s_as rfl (at_nil (at_int .i64 (x1985 + 1 : Int) (by simp only [lo, hi]; omega) ?_))))))
   exact at_again (σ := (Nat × (List D_api_Field))) (V := Value) (lp := fun n s => m38_l1 x1978 n s.1 s.2) (S := fun s e => (⟨[(2, .pointer (some (Addr.add ⟨b1977, 0, none⟩ 0))), (3, .pointer (some (Addr.add ⟨b1982, 0, none⟩ 0))), (4, .pointer (some (Addr.add ⟨b1984, 0, none⟩ 0))), (5, .int .i64 (s.1 : Int))], [⟨b1984, [.int .i64 a0.ID, e], 25⟩, ⟨b1982, [.int .i64 x1978.ID, s1980], 25⟩, ⟨b1977, [.int .i64 0, (.slice none 0 0)], 25⟩], [], [((Ty.int .i64).fact (s.1 : Int) [.int .i64 (s.1 : Int)]), ((Ty.slice ty69).fact s.2 [e]), ((Ty.int .i64).fact a0.ID [.int .i64 a0.ID]), ((Ty.int .i64).fact x1978.ID [.int .i64 x1978.ID]), ((Ty.slice ty69).fact x1978.Fields [s1980])]⟩ : St)) (x1985 + 1, x2000) s2002 hr ⟨⟨rfl, ⟨rfl, ⟨rfl, ⟨rfl, trivial⟩⟩⟩⟩, ⟨[true, true, true], rfl⟩, ⟨[], rfl⟩, ⟨[0, 1, 8, 9, 10], rfl⟩⟩
  replace hr := ineg h1994 hr
  refine at_false rfl (decide_eq_false (by omega)) ?_
  refine at_exit (at_then_exit (at_then_exit (at_in_exit ?_)))
  have hq := oinj hr
  clear hr
  subst hq
  exact at_leaf v1987 ⟨⟨rfl, ⟨rfl, trivial⟩⟩, ⟨[true, false, true], rfl⟩, ⟨[], rfl⟩, ⟨[1, 2], rfl⟩⟩
 clear hl1990
 intro v1989
 change At _ _ (⟨[(2, .pointer (some (Addr.add ⟨b1977, 0, none⟩ 0))), (4, .pointer (some (Addr.add ⟨b1984, 0, none⟩ 0)))], [⟨b1984, [.int .i64 a0.ID, v1989], 25⟩, ⟨b1977, [.int .i64 0, (.slice none 0 0)], 25⟩], [], [((Ty.slice ty69).fact x1988 [v1989]), ((Ty.int .i64).fact a0.ID [.int .i64 a0.ID])]⟩ : St) _
 refine s_tsr (at_lt (lt_load_box 0 rfl ti25 rfl rfl rfl rfl rfl) rfl ?_)
 refine at_one 0 rfl (fun ho2005 => ?_)
 refine at_hv rfl (hv_store_box 1 (cs' := [.int .i64 a0.ID, v1989]) rfl rfl ti25 rfl rfl rfl rfl (allc rfl (allc ho2005 rfl)) (s_nt (at_ret ?_)))
 have hq := oinj hr
 clear hr
 subst hq
 refine at_derive [1, 0] (ty25.fact (⟨a0.ID, x1988⟩ : D_api_Record) [.int .i64 a0.ID, v1989]) rfl (fun F w h => mk25 (x := (⟨a0.ID, x1988⟩ : D_api_Record)) h) ?_
 exact at_return (.agg #[.int .i64 a0.ID, v1989]) [0] hS Tryz.results38 (.cons (.cell 1 rfl ti25 rfl rfl rfl rfl) .nil) rfl rfl ⟨v1989, rfl, rfl⟩
def m39_l1 (a0 : (List D_ref16_Entry)) (a1 : Str) (a2 : Bool) : Nat → Nat → Option (Fl Int Unit)
  | 0, _ => none
  | k + 1, x2008 =>
    if x2008 < a0.length then
     if a2 = true then
      (a0[x2008]?).bind fun x2016 =>
      if x2016.To = a1 then
       some (Fl.ret (x2008 : Int))
      else
       m39_l1 a0 a1 a2 k (x2008 + 1)
     else
      (a0[x2008]?).bind fun x2022 =>
      if x2022.From = a1 then
       some (Fl.ret (x2008 : Int))
      else
       m39_l1 a0 a1 a2 k (x2008 + 1)
    else
     some (Fl.go ())
def m39 (a0 : (List D_ref16_Entry)) (a1 : Str) (a2 : Bool) : Option Int :=
  (m39_l1 a0 a1 a2 (a0.length + 1) 0).bind fun r => match r with
  | .ret x => some x
  | .go _ =>
   some (-1)
def post39 (r : Int) (v : Value) (fs : List Fact) : Prop := v = .int .i64 r ∧ fs = [((Ty.int .i64).fact r [.int .i64 r])]
theorem en39 : Enters Tryz.prog 39 := ⟨_, Tryz.func39, by kernel_rfl, rfl⟩
theorem f39_spec {a0 : (List D_ref16_Entry)} {a1 : Str} {a2 : Bool} {w2007 : Value} {r : Int} (hr : m39 a0 a1 a2 = some r) : Spec Tryz.prog 39 [w2007, str a1, .bool a2] [((Ty.slice ty50).fact a0 [w2007]), (Ty.str.fact a1 [str a1])] (post39 r) := by
 refine spec_start (N := 38) Tryz.func39 (by kernel_rfl) rfl rfl rfl ?_
 intro g hS
 unfold m39 at hr
 refine s_sr (s_as rfl (s_nt (at_seq (s_sr (s_as rfl (s_nt (at_int .i64 0 (by simp only [lo, hi]; omega) ?_)))))))
 replace hr := obind hr
 obtain ⟨r2009, hl2010, hk2011⟩ := hr
 refine at_cutP (V := (Unit) × (Unit)) (fun v => r2009 = Fl.go v.1) (fun v => (⟨[], [], [], []⟩ : St)) ?_ ?_
 ·refine at_block ?_
  refine at_loopW (σ := Nat) (V := Unit) (r := r2009) (fun n s => m39_l1 a0 a1 a2 n s) (fun s e => (⟨[(0, w2007), (1, str a1), (2, .bool a2), (7, .int .i64 (s : Int))], [], [], [((Ty.int .i64).fact (s : Int) [.int .i64 (s : Int)]), ((Ty.slice ty50).fact a0 [w2007]), (Ty.str.fact a1 [str a1])]⟩ : St)) (fun _ => rfl) _ 0 () hl2010 ⟨⟨rfl, ⟨rfl, ⟨rfl, ⟨rfl, trivial⟩⟩⟩⟩, ⟨[], rfl⟩, ⟨[], rfl⟩, ⟨[0, 1, 2], rfl⟩⟩ ?_
  clear hl2010
  intro n x2008 hr e
  skip
  skip
  change m39_l1 a0 a1 a2 (n + 1) x2008 = some r2009 at hr
  change At _ _ (⟨[(0, w2007), (1, str a1), (2, .bool a2), (7, .int .i64 (x2008 : Int))], [], [], [((Ty.int .i64).fact (x2008 : Int) [.int .i64 (x2008 : Int)]), ((Ty.slice ty50).fact a0 [w2007]), (Ty.str.fact a1 [str a1])]⟩ : St) _
  rw [m39_l1] at hr
  refine at_seq (s_sr (s_mv rfl (s_mv rfl ?_)))
  refine at_inv 1 rfl (fun i2012 => ?_)
  have l2013 := slice_len i2012
  refine at_lt (lt_flen 1 rfl rfl und22) rfl (at_lt (lt_lss rfl rfl) rfl (s_nt ?_))
  by_cases h2014 : x2008 < a0.length
  ·replace hr := ipos h2014 hr
   refine at_true rfl (decide_eq_true (by omega)) ?_
   refine at_skip (at_then (at_seq (at_block (s_sr (s_mv rfl (at_lt (lt_not rfl) rfl (s_mv rfl ?_)))))))
   by_cases h2015 : a2 = true
   ·replace hr := ipos h2015 hr
    refine at_off rfl rfl (nt h2015) rfl (at_off rfl rfl (nt h2015) rfl (at_off rfl rfl (nt h2015) rfl (at_off rfl rfl (nt h2015) rfl (at_off rfl rfl (nt h2015) rfl (at_off rfl rfl (nt h2015) rfl (at_off rfl rfl (nt h2015) rfl (at_lt (lt_pick false rfl (nt h2015) rfl) rfl (s_mv rfl (at_on rfl rfl rfl ?_)))))))))
    refine s_mv rfl (at_on rfl rfl rfl (s_mv rfl (at_on rfl rfl h2015 (s_mv rfl (at_on rfl rfl h2015 (s_mv rfl ?_))))))
    replace hr := obind hr
    obtain ⟨x2016, h2017, hr⟩ := hr
    have := (List.getElem?_eq_some_iff.1 h2017).1
    refine at_elem 1 rfl (nat_at' h2017) (fun p2019 ec pa2020 => ?_)
    refine at_open (A := Value) 0 rfl _ _ (fun F w h => op50 h) ?_
    rintro s2018 rfl
    refine at_on rfl rfl h2015 (at_lt (lt_idx rfl rfl pa2020 und22 ti50) rfl (at_on rfl rfl h2015 (at_lt (lt_fieldAddr 1 rfl fld50_1 rfl) rfl (at_on rfl rfl h2015 (at_lt (lt_load_peek 4 rfl ti9 rfl rfl rfl rfl rfl) rfl (at_on rfl rfl h2015 (s_mv rfl (at_on rfl rfl h2015 (at_lt (lt_seql rfl rfl) rfl ?_)))))))))
    refine at_on rfl rfl rfl (at_lt (lt_pick true rfl h2015 rfl) rfl (at_lt (lt_pick false rfl rfl rfl) rfl (s_nt ?_)))
    by_cases h2021 : x2016.To = a1
    ·replace hr := ipos h2021 hr
     refine at_true rfl (decide_eq_true h2021) (s_sr (s_mv rfl (s_as rfl (s_nt (at_ret ?_)))))
     have hq := oinj hr
     clear hr
     subst hq
     have hq := oinj hk2011
     clear hk2011
     subst hq
     refine at_in_ret (at_then_ret (at_then_ret (at_in_ret (at_then_ret (at_then_ret ?_)))))
     exact at_return (.int .i64 (x2008 : Int)) [5] hS Tryz.results39 (.cons (.tmp rfl) .nil) rfl rfl ⟨rfl, rfl⟩
    replace hr := ineg h2021 hr
    refine at_false rfl (decide_eq_false h2021) (at_skip (at_in (s_tr (s_mv rfl (at_lt (lt_add rfl rfl (by simp only [lo, hi]; omega)) rfl (s_as rfl (at_nil (at_int .i64 (x2008 + 1 : Int) (by simp only [lo, hi]; omega) ?_))))))))
    exact at_again (σ := Nat) (V := Unit) (lp := fun n s => m39_l1 a0 a1 a2 n s) (S := fun s e => (⟨[(0, w2007), (1, str a1), (2, .bool a2), (7, .int .i64 (s : Int))], [], [], [((Ty.int .i64).fact (s : Int) [.int .i64 (s : Int)]), ((Ty.slice ty50).fact a0 [w2007]), (Ty.str.fact a1 [str a1])]⟩ : St)) (x2008 + 1) () hr ⟨⟨rfl, ⟨rfl, ⟨rfl, ⟨rfl, trivial⟩⟩⟩⟩, ⟨[], rfl⟩, ⟨[], rfl⟩, ⟨[0, 7, 8], rfl⟩⟩
   replace hr := ineg h2015 hr
   refine at_on rfl rfl (nf (bf h2015)) (s_mv rfl (at_on rfl rfl (nf (bf h2015)) (s_mv rfl ?_)))
   replace hr := obind hr
   obtain ⟨x2022, h2023, hr⟩ := hr
   have := (List.getElem?_eq_some_iff.1 h2023).1
   refine at_elem 1 rfl (nat_at' h2023) (fun p2025 ec pa2026 => ?_)
   refine at_open (A := Value) 0 rfl _ _ (fun F w h => op50 h) ?_
   rintro s2024 rfl
   refine at_on rfl rfl (nf (bf h2015)) (at_lt (lt_idx rfl rfl pa2026 und22 ti50) rfl (at_on rfl rfl (nf (bf h2015)) (at_lt (lt_fieldAddr 0 rfl fld50_0 rfl) rfl (at_on rfl rfl (nf (bf h2015)) (at_lt (lt_load_peek 4 rfl ti9 rfl rfl rfl rfl rfl) rfl (at_on rfl rfl (nf (bf h2015)) (s_mv rfl (at_on rfl rfl (nf (bf h2015)) (at_lt (lt_seql rfl rfl) rfl ?_)))))))))
   refine at_lt (lt_pick true rfl (nf (bf h2015)) rfl) rfl (s_mv rfl ?_)
   by_cases h2027 : x2022.From = a1
   ·replace hr := ipos h2027 hr
    refine at_off rfl rfl (decide_eq_true h2027) rfl (at_off rfl rfl (decide_eq_true h2027) rfl (at_offu rfl rfl rfl (at_offu rfl rfl rfl (at_offu rfl rfl rfl (at_offu rfl rfl rfl (at_offu rfl rfl rfl (at_offu rfl rfl rfl (at_offu rfl rfl rfl (at_off rfl rfl (decide_eq_true h2027) rfl ?_)))))))))
    refine at_lt (lt_pick true rfl (decide_eq_true h2027) rfl) rfl (s_nt (at_true rfl rfl (s_sr (s_mv rfl (s_as rfl (s_nt (at_ret ?_)))))))
    have hq := oinj hr
    clear hr
    subst hq
    have hq := oinj hk2011
    clear hk2011
    subst hq
    refine at_in_ret (at_then_ret (at_then_ret (at_in_ret (at_then_ret (at_then_ret ?_)))))
    exact at_return (.int .i64 (x2008 : Int)) [5] hS Tryz.results39 (.cons (.tmp rfl) .nil) rfl rfl ⟨rfl, rfl⟩
   replace hr := ineg h2027 hr
   refine at_on rfl rfl (decide_eq_false h2027) (s_mv rfl (at_on rfl rfl (decide_eq_false h2027) (s_mv rfl (at_off rfl rfl (bf h2015) rfl (at_off rfl rfl (bf h2015) rfl (at_off rfl rfl (bf h2015) rfl (at_off rfl rfl (bf h2015) rfl (at_off rfl rfl (bf h2015) rfl (at_off rfl rfl (bf h2015) rfl ?_)))))))))
   refine at_off rfl rfl (bf h2015) rfl (at_on rfl rfl (decide_eq_false h2027) (at_lt (lt_pick false rfl (bf h2015) rfl) rfl (at_lt (lt_pick false rfl (decide_eq_false h2027) rfl) rfl (s_nt (at_false rfl rfl (at_skip (at_in (s_tr (s_mv rfl ?_)))))))))
   refine at_lt (lt_add rfl rfl (by simp only [lo, hi]; omega)) rfl (s_as rfl (at_nil (at_int .i64 (x2008 + 1 : Int) (by simp only [lo, hi]; omega) ?_)))
   exact at_again (σ := Nat) (V := Unit) (lp := fun n s => m39_l1 a0 a1 a2 n s) (S := fun s e => (⟨[(0, w2007), (1, str a1), (2, .bool a2), (7, .int .i64 (s : Int))], [], [], [((Ty.int .i64).fact (s : Int) [.int .i64 (s : Int)]), ((Ty.slice ty50).fact a0 [w2007]), (Ty.str.fact a1 [str a1])]⟩ : St)) (x2008 + 1) () hr ⟨⟨rfl, ⟨rfl, ⟨rfl, ⟨rfl, trivial⟩⟩⟩⟩, ⟨[], rfl⟩, ⟨[], rfl⟩, ⟨[0, 7, 8], rfl⟩⟩
  replace hr := ineg h2014 hr
  refine at_false rfl (decide_eq_false (by omega)) ?_
  refine at_exit (at_then_exit (at_then_exit (at_in_exit ?_)))
  have hq := oinj hr
  clear hr
  subst hq
  exact at_leafP ((), ()) rfl ⟨trivial, ⟨[], rfl⟩, ⟨[], rfl⟩, ⟨[], rfl⟩⟩
 rintro ⟨_, _⟩ hp
 replace hr := hk2011
 subst hp
 clear hl2010
 change At _ _ (⟨[], [], [], []⟩ : St) _
 refine s_tsr (s_as rfl (s_nt (at_ret ?_)))
 have hq := oinj hr
 clear hr
 subst hq
 refine at_int .i64 (-1) (by simp only [lo, hi]; omega) ?_
 exact at_return (.int .i64 (-1)) [0] hS Tryz.results39 (.cons (.tmp rfl) .nil) rfl rfl ⟨rfl, rfl⟩
def m40_l1 (a0 : (List D_ref16_Pair)) (a1 : UInt8) (a2 : Bool) : Nat → Nat → Option (Fl UInt8 Unit)
  | 0, _ => none
  | k + 1, x2029 =>
    if x2029 < a0.length then
     Option.bind (α := Bool) (
      if a2 = true then
       some false
      else
       (a0[x2029]?).bind fun x2039 =>
       some (decide ((x2039.From.toNat : Int) = (a1.toNat : Int)))
     ) fun x2036 =>
     if x2036 = true then
      (a0[x2029]?).bind fun x2044 =>
      some (Fl.ret x2044.To)
     else
      Option.bind (α := Bool) (
       if a2 = true then
        (a0[x2029]?).bind fun x2051 =>
        some (decide ((x2051.To.toNat : Int) = (a1.toNat : Int)))
       else
        some false
      ) fun x2048 =>
      if x2048 = true then
       (a0[x2029]?).bind fun x2056 =>
       some (Fl.ret x2056.From)
      else
       m40_l1 a0 a1 a2 k (x2029 + 1)
    else
     some (Fl.go ())
def m40 (a0 : (List D_ref16_Pair)) (a1 : UInt8) (a2 : Bool) : Option UInt8 :=
  (m40_l1 a0 a1 a2 (a0.length + 1) 0).bind fun r => match r with
  | .ret x => some x
  | .go _ =>
   some 0
def post40 (r : UInt8) (v : Value) (fs : List Fact) : Prop := v = .int .u8 (r.toNat : Int) ∧ fs = []
theorem en40 : Enters Tryz.prog 40 := ⟨_, Tryz.func40, by kernel_rfl, rfl⟩
theorem f40_spec {a0 : (List D_ref16_Pair)} {a1 : UInt8} {a2 : Bool} {w2028 : Value} {r : UInt8} (hr : m40 a0 a1 a2 = some r) : Spec Tryz.prog 40 [w2028, .int .u8 (a1.toNat : Int), .bool a2] [((Ty.slice ty83).fact a0 [w2028])] (post40 r) := by
 refine spec_start (N := 45) Tryz.func40 (by kernel_rfl) rfl rfl rfl ?_
 intro g hS
 unfold m40 at hr
 refine s_sr (s_as rfl (s_nt (at_seq (s_sr (s_as rfl (s_nt (at_int .i64 0 (by simp only [lo, hi]; omega) ?_)))))))
 replace hr := obind hr
 obtain ⟨r2030, hl2031, hk2032⟩ := hr
 refine at_cutP (V := (Unit) × (Unit)) (fun v => r2030 = Fl.go v.1) (fun v => (⟨[], [], [], []⟩ : St)) ?_ ?_
 ·refine at_block ?_
  refine at_loopW (σ := Nat) (V := Unit) (r := r2030) (fun n s => m40_l1 a0 a1 a2 n s) (fun s e => (⟨[(0, w2028), (1, .int .u8 (a1.toNat : Int)), (2, .bool a2), (7, .int .i64 (s : Int))], [], [], [((Ty.int .i64).fact (s : Int) [.int .i64 (s : Int)]), ((Ty.slice ty83).fact a0 [w2028])]⟩ : St)) (fun _ => rfl) _ 0 () hl2031 ⟨⟨rfl, ⟨rfl, ⟨rfl, ⟨rfl, trivial⟩⟩⟩⟩, ⟨[], rfl⟩, ⟨[], rfl⟩, ⟨[0, 1], rfl⟩⟩ ?_
  clear hl2031
  intro n x2029 hr e
  skip
  skip
  change m40_l1 a0 a1 a2 (n + 1) x2029 = some r2030 at hr
  change At _ _ (⟨[(0, w2028), (1, .int .u8 (a1.toNat : Int)), (2, .bool a2), (7, .int .i64 (x2029 : Int))], [], [], [((Ty.int .i64).fact (x2029 : Int) [.int .i64 (x2029 : Int)]), ((Ty.slice ty83).fact a0 [w2028])]⟩ : St) _
  rw [m40_l1] at hr
  refine at_seq (s_sr (s_mv rfl (s_mv rfl ?_)))
  refine at_inv 1 rfl (fun i2033 => ?_)
  have l2034 := slice_len i2033
  refine at_lt (lt_flen 1 rfl rfl und48) rfl (at_lt (lt_lss rfl rfl) rfl (s_nt ?_))
  by_cases h2035 : x2029 < a0.length
  ·replace hr := ipos h2035 hr
   refine at_true rfl (decide_eq_true (by omega)) ?_
   refine at_skip (at_then (at_seq (at_block (at_seq (at_seq ?_)))))
   replace hr := obind hr
   obtain ⟨x2036, hc2037, hr⟩ := hr
   refine at_cut (V := Unit) (fun e => (⟨[(0, w2028), (1, .int .u8 (a1.toNat : Int)), (2, .bool a2), (7, .int .i64 (x2029 : Int)), (24, .bool x2036)], [], [], [((Ty.slice ty83).fact a0 [w2028]), ((Ty.int .i64).fact (x2029 : Int) [.int .i64 (x2029 : Int)])]⟩ : St)) ?_ ?_
   ·clear hr
    have hr := hc2037
    clear hc2037
    refine at_region (s_mv rfl (at_lt (lt_not rfl) rfl (s_mv rfl ?_)))
    by_cases h2038 : a2 = true
    ·replace hr := ipos h2038 hr
     refine at_off rfl rfl (nt h2038) rfl (at_off rfl rfl (nt h2038) rfl (at_off rfl rfl (nt h2038) rfl (at_off rfl rfl (nt h2038) rfl (at_off rfl rfl (nt h2038) rfl (at_off rfl rfl (nt h2038) rfl (at_off rfl rfl (nt h2038) rfl (at_lt (lt_pick false rfl (nt h2038) rfl) rfl (at_nil ?_))))))))
     have hq := oinj hr
     clear hr
     subst hq
     exact at_leaf () ⟨⟨rfl, ⟨rfl, ⟨rfl, ⟨rfl, ⟨rfl, trivial⟩⟩⟩⟩⟩, ⟨[], rfl⟩, ⟨[], rfl⟩, ⟨[1, 0], rfl⟩⟩
    replace hr := ineg h2038 hr
    refine at_on rfl rfl (nf (bf h2038)) (s_mv rfl (at_on rfl rfl (nf (bf h2038)) (s_mv rfl ?_)))
    replace hr := obind hr
    obtain ⟨x2039, h2040, hr⟩ := hr
    have := (List.getElem?_eq_some_iff.1 h2040).1
    refine at_elem 1 rfl (nat_at' h2040) (fun p2041 ec pa2042 => ?_)
    refine at_open (A := Unit) 0 rfl _ _ (fun F w h => op83 h) ?_
    rintro _ rfl
    refine at_on rfl rfl (nf (bf h2038)) (at_lt (lt_idx rfl rfl pa2042 und48 ti83) rfl (at_on rfl rfl (nf (bf h2038)) (at_lt (lt_fieldAddr 0 rfl fld83_0 rfl) rfl (at_on rfl rfl (nf (bf h2038)) (at_lt (lt_load_peek 1 rfl ti5 rfl rfl rfl rfl rfl) rfl (at_on rfl rfl (nf (bf h2038)) (s_mv rfl (at_on rfl rfl (nf (bf h2038)) (at_lt (lt_eql rfl rfl) rfl ?_)))))))))
    refine at_lt (lt_pick true rfl (nf (bf h2038)) rfl) rfl (at_nil ?_)
    have hq := oinj hr
    clear hr
    subst hq
    exact at_leaf () ⟨⟨rfl, ⟨rfl, ⟨rfl, ⟨rfl, ⟨rfl, trivial⟩⟩⟩⟩⟩, ⟨[], rfl⟩, ⟨[], rfl⟩, ⟨[3, 2], rfl⟩⟩
   clear hc2037
   intro _
   change At _ _ (⟨[(0, w2028), (1, .int .u8 (a1.toNat : Int)), (2, .bool a2), (7, .int .i64 (x2029 : Int)), (24, .bool x2036)], [], [], [((Ty.slice ty83).fact a0 [w2028]), ((Ty.int .i64).fact (x2029 : Int) [.int .i64 (x2029 : Int)])]⟩ : St) _
   refine at_then ?_
   by_cases h2043 : x2036 = true
   ·replace hr := ipos h2043 hr
    refine at_true rfl h2043 (s_sr (s_mv rfl (s_mv rfl ?_)))
    replace hr := obind hr
    obtain ⟨x2044, h2045, hr⟩ := hr
    have := (List.getElem?_eq_some_iff.1 h2045).1
    refine at_elem 0 rfl (nat_at' h2045) (fun p2046 ec pa2047 => ?_)
    refine at_open (A := Unit) 0 rfl _ _ (fun F w h => op83 h) ?_
    rintro _ rfl
    refine at_lt (lt_idx rfl rfl pa2047 und48 ti83) rfl (at_lt (lt_fieldAddr 1 rfl fld83_1 rfl) rfl (at_lt (lt_load_peek 1 rfl ti5 rfl rfl rfl rfl rfl) rfl (s_as rfl (s_nt (at_ret ?_)))))
    have hq := oinj hr
    clear hr
    subst hq
    have hq := oinj hk2032
    clear hk2032
    subst hq
    refine at_then_ret (at_in_ret (at_then_ret (at_then_ret (at_in_ret (at_then_ret (at_then_ret ?_))))))
    exact at_return (.int .u8 (x2044.To.toNat : Int)) [] hS Tryz.results40 (.cons (.tmp rfl) .nil) rfl rfl ⟨rfl, rfl⟩
   replace hr := ineg h2043 hr
   refine at_false rfl (bf h2043) (at_skip (at_then (at_seq ?_)))
   replace hr := obind hr
   obtain ⟨x2048, hc2049, hr⟩ := hr
   refine at_cut (V := Unit) (fun e => (⟨[(0, w2028), (1, .int .u8 (a1.toNat : Int)), (2, .bool a2), (7, .int .i64 (x2029 : Int)), (39, .bool x2048)], [], [], [((Ty.slice ty83).fact a0 [w2028]), ((Ty.int .i64).fact (x2029 : Int) [.int .i64 (x2029 : Int)])]⟩ : St)) ?_ ?_
   ·clear hr
    have hr := hc2049
    clear hc2049
    refine at_region (s_mv rfl (s_mv rfl ?_))
    by_cases h2050 : a2 = true
    ·replace hr := ipos h2050 hr
     refine at_on rfl rfl h2050 (s_mv rfl (at_on rfl rfl h2050 (s_mv rfl ?_)))
     replace hr := obind hr
     obtain ⟨x2051, h2052, hr⟩ := hr
     have := (List.getElem?_eq_some_iff.1 h2052).1
     refine at_elem 0 rfl (nat_at' h2052) (fun p2053 ec pa2054 => ?_)
     refine at_open (A := Unit) 0 rfl _ _ (fun F w h => op83 h) ?_
     rintro _ rfl
     refine at_on rfl rfl h2050 (at_lt (lt_idx rfl rfl pa2054 und48 ti83) rfl (at_on rfl rfl h2050 (at_lt (lt_fieldAddr 1 rfl fld83_1 rfl) rfl (at_on rfl rfl h2050 (at_lt (lt_load_peek 1 rfl ti5 rfl rfl rfl rfl rfl) rfl (at_on rfl rfl h2050 (s_mv rfl (at_on rfl rfl h2050 (at_lt (lt_eql rfl rfl) rfl ?_)))))))))
     refine at_lt (lt_pick true rfl h2050 rfl) rfl (at_nil ?_)
     have hq := oinj hr
     clear hr
     subst hq
     exact at_leaf () ⟨⟨rfl, ⟨rfl, ⟨rfl, ⟨rfl, ⟨rfl, trivial⟩⟩⟩⟩⟩, ⟨[], rfl⟩, ⟨[], rfl⟩, ⟨[2, 3], rfl⟩⟩
    replace hr := ineg h2050 hr
    refine at_off rfl rfl (bf h2050) rfl (at_off rfl rfl (bf h2050) rfl (at_off rfl rfl (bf h2050) rfl (at_off rfl rfl (bf h2050) rfl (at_off rfl rfl (bf h2050) rfl (at_off rfl rfl (bf h2050) rfl (at_off rfl rfl (bf h2050) rfl (at_lt (lt_pick false rfl (bf h2050) rfl) rfl (at_nil ?_))))))))
    have hq := oinj hr
    clear hr
    subst hq
    exact at_leaf () ⟨⟨rfl, ⟨rfl, ⟨rfl, ⟨rfl, ⟨rfl, trivial⟩⟩⟩⟩⟩, ⟨[], rfl⟩, ⟨[], rfl⟩, ⟨[0, 1], rfl⟩⟩
   clear hc2049
   intro _
   change At _ _ (⟨[(0, w2028), (1, .int .u8 (a1.toNat : Int)), (2, .bool a2), (7, .int .i64 (x2029 : Int)), (39, .bool x2048)], [], [], [((Ty.slice ty83).fact a0 [w2028]), ((Ty.int .i64).fact (x2029 : Int) [.int .i64 (x2029 : Int)])]⟩ : St) _
   refine at_then ?_
   by_cases h2055 : x2048 = true
   ·replace hr := ipos h2055 hr
    refine at_true rfl h2055 (s_sr (s_mv rfl (s_mv rfl ?_)))
    replace hr := obind hr
    obtain ⟨x2056, h2057, hr⟩ := hr
    have := (List.getElem?_eq_some_iff.1 h2057).1
    refine at_elem 0 rfl (nat_at' h2057) (fun p2058 ec pa2059 => ?_)
    refine at_open (A := Unit) 0 rfl _ _ (fun F w h => op83 h) ?_
    rintro _ rfl
    refine at_lt (lt_idx rfl rfl pa2059 und48 ti83) rfl (at_lt (lt_fieldAddr 0 rfl fld83_0 rfl) rfl (at_lt (lt_load_peek 1 rfl ti5 rfl rfl rfl rfl rfl) rfl (s_as rfl (s_nt (at_ret ?_)))))
    have hq := oinj hr
    clear hr
    subst hq
    have hq := oinj hk2032
    clear hk2032
    subst hq
    refine at_in_ret (at_then_ret (at_then_ret (at_in_ret (at_then_ret (at_then_ret ?_)))))
    exact at_return (.int .u8 (x2056.From.toNat : Int)) [] hS Tryz.results40 (.cons (.tmp rfl) .nil) rfl rfl ⟨rfl, rfl⟩
   replace hr := ineg h2055 hr
   refine at_false rfl (bf h2055) (at_skip (at_in (s_tr (s_mv rfl (at_lt (lt_add rfl rfl (by simp only [lo, hi]; omega)) rfl (s_as rfl (at_nil (at_int .i64 (x2029 + 1 : Int) (by simp only [lo, hi]; omega) ?_))))))))
   exact at_again (σ := Nat) (V := Unit) (lp := fun n s => m40_l1 a0 a1 a2 n s) (S := fun s e => (⟨[(0, w2028), (1, .int .u8 (a1.toNat : Int)), (2, .bool a2), (7, .int .i64 (s : Int))], [], [], [((Ty.int .i64).fact (s : Int) [.int .i64 (s : Int)]), ((Ty.slice ty83).fact a0 [w2028])]⟩ : St)) (x2029 + 1) () hr ⟨⟨rfl, ⟨rfl, ⟨rfl, ⟨rfl, trivial⟩⟩⟩⟩, ⟨[], rfl⟩, ⟨[], rfl⟩, ⟨[0, 1], rfl⟩⟩
  replace hr := ineg h2035 hr
  refine at_false rfl (decide_eq_false (by omega)) ?_
  refine at_exit (at_then_exit (at_then_exit (at_in_exit ?_)))
  have hq := oinj hr
  clear hr
  subst hq
  exact at_leafP ((), ()) rfl ⟨trivial, ⟨[], rfl⟩, ⟨[], rfl⟩, ⟨[], rfl⟩⟩
 rintro ⟨_, _⟩ hp
 replace hr := hk2032
 subst hp
 clear hl2031
 change At _ _ (⟨[], [], [], []⟩ : St) _
 refine s_tsr (s_as rfl (s_nt (at_ret ?_)))
 have hq := oinj hr
 clear hr
 subst hq
 exact at_return (.int .u8 0) [] hS Tryz.results40 (.cons (.tmp rfl) .nil) rfl rfl ⟨rfl, rfl⟩
def m13_l2 (a0 : (List D_ref16_Entry)) (a1 : D_api_Record) (x2078 : Nat) (x2090 : Int) : Nat → Nat → Option (Fl (Fl Bool Unit) Unit)
  | 0, _ => none
  | k + 1, x2094 =>
    (a1.Fields[x2078]?).bind fun x2098 =>
    if x2094 < x2098.Subs.length then
     (at? a0 x2090).bind fun x2106 =>
     (a1.Fields[x2078]?).bind fun x2111 =>
     (x2111.Subs[x2094]?).bind fun x2116 =>
     (m40 x2106.Codes x2116.Code false).bind fun x2120 =>
     if x2120.toNat = 0 then
      some (Fl.ret (Fl.ret false))
     else
      m13_l2 a0 a1 x2078 x2090 k (x2094 + 1)
    else
     some (Fl.go ())
def m13_l1 (a0 : (List D_ref16_Entry)) (a1 : D_api_Record) : Nat → Nat → Option (Fl Bool Unit)
  | 0, _ => none
  | k + 1, x2078 =>
    if x2078 < a1.Fields.length then
     (a1.Fields[x2078]?).bind fun x2085 =>
     (m39 a0 x2085.Tag false).bind fun x2090 =>
     if x2090 < 0 then
      some (Fl.ret false)
     else
      (m13_l2 a0 a1 x2078 x2090 9223372036854775808 0).bind fun r => match r with
      | .ret x => some x
      | .go _ =>
       m13_l1 a0 a1 k (x2078 + 1)
    else
     some (Fl.go ())
def m13 (a0 : (List D_ref16_Entry)) (a1 : D_api_Record) : Option Bool :=
  (m24 a0).bind fun x2064 =>
  if x2064 = true then
   (m25 (⟨a1.ID, a1.Fields⟩ : D_api_Record)).bind fun x2067 =>
   if x2067 = true then
    (m38 (⟨a1.ID, a1.Fields⟩ : D_api_Record)).bind fun x2070 =>
    (m18 x2070 (⟨a1.ID, a1.Fields⟩ : D_api_Record)).bind fun x2074 =>
    if x2074 = true then
     (m13_l1 a0 a1 (a1.Fields.length + 1) 0).bind fun r => match r with
     | .ret x => some x
     | .go _ =>
      some true
    else
     some false
   else
    some false
  else
   some false
def post13 (r : Bool) (v : Value) (fs : List Fact) : Prop := v = .bool r ∧ fs = []
theorem en13 : Enters Tryz.prog 13 := ⟨_, Tryz.func13, by kernel_rfl, rfl⟩
theorem f13_spec {a0 : (List D_ref16_Entry)} {a1 : D_api_Record} {w2060 : Value} {s2061 : Value} {r : Bool} (hr : m13 a0 a1 = some r) : Spec Tryz.prog 13 [w2060, .agg #[.int .i64 a1.ID, s2061]] [((Ty.slice ty50).fact a0 [w2060]), (ty25.fact a1 [.int .i64 a1.ID, s2061])] (post13 r) := by
 refine spec_start (N := 68) Tryz.func13 (by kernel_rfl) rfl rfl rfl ?_
 intro g hS
 unfold m13 at hr
 refine at_open (A := Unit) 1 rfl (fun _ => True) (fun _ => [((Ty.int .i64).fact a1.ID [.int .i64 a1.ID]), ((Ty.slice ty69).fact a1.Fields [s2061])]) (fun F w h => ⟨(), trivial, ex25 h⟩) (fun _ _ => ?_)
 refine at_inv 0 rfl (fun l2062 => ?_)
 replace l2062 : (-9223372036854775808) ≤ a1.ID ∧ a1.ID ≤ 9223372036854775807 := l2062
 refine s_sr (at_hv rfl ?_)
 refine hv_box (cs := [.int .i64 a1.ID, s2061]) rfl rfl rfl (fun b2063 => ?_)
 refine s_as rfl (s_nt (at_seq (at_seq ?_)))
 replace hr := obind hr
 obtain ⟨x2064, h2065, hr⟩ := hr
 by_cases h2066 : x2064 = true
 ·replace hr := ipos h2066 hr
  replace hr := obind hr
  obtain ⟨x2067, h2068, hr⟩ := hr
  by_cases h2069 : x2067 = true
  ·replace hr := ipos h2069 hr
   replace hr := obind hr
   obtain ⟨x2070, h2071, hr⟩ := hr
   replace hr := obind hr
   obtain ⟨x2074, h2075, hr⟩ := hr
   refine aa_start 15 (by kernel_rfl) ?_
   refine aa_p 0 rfl (lt_move rfl) (aa_one 1 (aa_op rfl rfl (hv_call0 [2] (f24_spec h2065) rfl rfl rfl rfl ?_)))
   rintro _ _ ⟨rfl, rfl⟩
   refine aa_p 2 rfl (lt_not rfl) (aa_p 3 rfl (lt_move rfl) ?_)
   refine aa_lg 4 rfl ⟨11, rfl, .inl ⟨_, rfl, gdq (v := false) (nt h2066) rfl⟩⟩ (lt_load_box 0 rfl ti25 rfl rfl rfl rfl rfl) ?_
   refine aa_one 5 ?_
   refine at_derive [0, 1] (ty25.fact (⟨a1.ID, a1.Fields⟩ : D_api_Record) [.int .i64 a1.ID, s2061]) rfl (fun F w h => mk25 (x := (⟨a1.ID, a1.Fields⟩ : D_api_Record)) h) ?_
   refine aa_op rfl ⟨11, rfl, .inl ⟨_, rfl, gdq (v := false) (nt h2066) rfl⟩⟩ ?_
   refine hv_call0 [0] (f25_spec h2068) rfl rfl rfl rfl ?_
   rintro _ _ ⟨rfl, rfl⟩
   refine aa_pure 6 rfl (by kernel_rfl) rfl ⟨11, rfl, .inl ⟨_, rfl, gdq (v := false) (nt h2066) rfl⟩⟩ (lt_not rfl) rfl (ts_in 0 1 rfl rfl) ?_
   refine aa_pure 7 rfl (by kernel_rfl) rfl rfl (lt_pick false rfl (nt h2066) rfl) rfl (ts_in 0 1 rfl rfl) ?_
   refine aa_pure 8 rfl (by kernel_rfl) rfl rfl (lt_move rfl) rfl (ts_in 0 1 rfl rfl) ?_
   refine aa_load 9 rfl (by kernel_rfl) rfl ⟨16, rfl, .inl ⟨_, rfl, gdq (v := false) (nt h2069) rfl⟩⟩ (lt_load_box 0 rfl ti25 rfl rfl rfl rfl rfl) rfl (ts_in 0 1 rfl rfl) ?_
   refine aa_load 11 rfl (by kernel_rfl) rfl ⟨16, rfl, .inl ⟨_, rfl, gdq (v := false) (nt h2069) rfl⟩⟩ (lt_load_box 0 rfl ti25 rfl rfl rfl rfl rfl) rfl (ts_in 0 1 rfl rfl) ?_
   refine aa_all (rs := [10]) (by kernel_rfl) rfl (ts_in 0 1 rfl rfl) (List.forall_mem_singleton.2 ?_)
   refine aa_op rfl ⟨16, rfl, .inl ⟨_, rfl, gdq (v := false) (nt h2069) rfl⟩⟩ ?_
   refine hv_call0 [0] (f38_spec h2071) rfl rfl rfl rfl ?_
   rintro _ _ ⟨s2072, rfl, rfl⟩
   refine at_open (A := Unit) 0 rfl (fun _ => True) (fun _ => [((Ty.int .i64).fact x2070.ID [.int .i64 x2070.ID]), ((Ty.slice ty69).fact x2070.Fields [s2072])]) (fun F w h => ⟨(), trivial, ex25 h⟩) (fun _ _ => ?_)
   refine at_inv 0 rfl (fun l2076 => ?_)
   replace l2076 : (-9223372036854775808) ≤ x2070.ID ∧ x2070.ID ≤ 9223372036854775807 := l2076
   refine aa_all (rs := [12]) (by kernel_rfl) rfl (ts_in 0 4 rfl rfl) (List.forall_mem_singleton.2 ?_)
   refine aa_op rfl ⟨16, rfl, .inl ⟨_, rfl, gdq (v := false) (nt h2069) rfl⟩⟩ ?_
   refine hv_call0 [2, 3] (f18_spec h2075) rfl rfl rfl rfl ?_
   rintro _ _ ⟨rfl, rfl⟩
   refine aa_pure 13 rfl (by kernel_rfl) rfl ⟨16, rfl, .inl ⟨_, rfl, gdq (v := false) (nt h2069) rfl⟩⟩ (lt_not rfl) rfl (ts_in 0 4 rfl rfl) ?_
   refine aa_pure 14 rfl (by kernel_rfl) rfl rfl (lt_pick false rfl (nt h2069) rfl) rfl (ts_in 0 4 rfl rfl) ?_
   refine aa_done (by kernel_rfl) (ts_in 0 4 rfl rfl) ?_
   refine at_then ?_
   by_cases h2077 : x2074 = true
   ·replace hr := ipos h2077 hr
    refine at_false rfl (nt h2077) (at_skip (at_then (at_seq (s_sr (s_as rfl (s_nt (at_int .i64 0 (by simp only [lo, hi]; omega) ?_)))))))
    replace hr := obind hr
    obtain ⟨r2079, hl2080, hk2081⟩ := hr
    refine at_cutP (V := (Unit) × (Unit)) (fun v => r2079 = Fl.go v.1) (fun v => (⟨[], [], [], []⟩ : St)) ?_ ?_
    ·refine at_block ?_
     refine at_loopW (σ := Nat) (V := Unit) (r := r2079) (fun n s => m13_l1 a0 a1 n s) (fun s e => (⟨[(0, w2060), (3, .pointer (some (Addr.add ⟨b2063, 0, none⟩ 0))), (5, .int .i64 (s : Int))], [⟨b2063, [.int .i64 a1.ID, s2061], 25⟩], [], [((Ty.int .i64).fact (s : Int) [.int .i64 (s : Int)]), ((Ty.slice ty50).fact a0 [w2060]), ((Ty.int .i64).fact a1.ID [.int .i64 a1.ID]), ((Ty.slice ty69).fact a1.Fields [s2061])]⟩ : St)) (fun _ => rfl) _ 0 () hl2080 ⟨⟨rfl, ⟨rfl, ⟨rfl, trivial⟩⟩⟩, ⟨[true], rfl⟩, ⟨[], rfl⟩, ⟨[0, 7, 5, 6], rfl⟩⟩ ?_
     clear hl2080
     intro n x2078 hr e
     skip
     skip
     change m13_l1 a0 a1 (n + 1) x2078 = some r2079 at hr
     change At _ _ (⟨[(0, w2060), (3, .pointer (some (Addr.add ⟨b2063, 0, none⟩ 0))), (5, .int .i64 (x2078 : Int))], [⟨b2063, [.int .i64 a1.ID, s2061], 25⟩], [], [((Ty.int .i64).fact (x2078 : Int) [.int .i64 (x2078 : Int)]), ((Ty.slice ty50).fact a0 [w2060]), ((Ty.int .i64).fact a1.ID [.int .i64 a1.ID]), ((Ty.slice ty69).fact a1.Fields [s2061])]⟩ : St) _
     rw [m13_l1] at hr
     refine at_seq (s_sr (s_mv rfl (at_lt (lt_fieldAddr 1 rfl fld25_1 rfl) rfl (at_lt (lt_load_box 0 rfl ti23 rfl rfl rfl rfl rfl) rfl ?_))))
     refine at_inv 3 rfl (fun i2082 => ?_)
     have l2083 := slice_len i2082
     refine at_lt (lt_flen 3 rfl rfl und23) rfl (at_lt (lt_lss rfl rfl) rfl (s_nt ?_))
     by_cases h2084 : x2078 < a1.Fields.length
     ·replace hr := ipos h2084 hr
      refine at_true rfl (decide_eq_true (by omega)) ?_
      refine at_skip (at_then (at_seq (at_block (s_sr (s_mv rfl (at_lt (lt_fieldAddr 1 rfl fld25_1 rfl) rfl (at_lt (lt_load_box 0 rfl ti23 rfl rfl rfl rfl rfl) rfl (s_mv rfl ?_))))))))
      replace hr := obind hr
      obtain ⟨x2085, h2086, hr⟩ := hr
      have := (List.getElem?_eq_some_iff.1 h2086).1
      refine at_elem 3 rfl (nat_at' h2086) (fun p2088 ec pa2089 => ?_)
      refine at_open (A := Value) 0 rfl _ _ (fun F w h => op69 h) ?_
      rintro s2087 rfl
      refine at_lt (lt_idx rfl rfl pa2089 und23 ti69) rfl (at_lt (lt_fieldAddr 0 rfl fld69_0 rfl) rfl (at_lt (lt_load_peek 3 rfl ti9 rfl rfl rfl rfl rfl) rfl ?_))
      replace hr := obind hr
      obtain ⟨x2090, h2091, hr⟩ := hr
      refine at_hv rfl (hv_call0 [5, 0] (f39_spec h2091) rfl rfl rfl rfl ?_)
      rintro _ _ ⟨rfl, rfl⟩
      refine at_inv 0 rfl (fun l2092 => ?_)
      replace l2092 : (-9223372036854775808) ≤ x2090 ∧ x2090 ≤ 9223372036854775807 := l2092
      refine s_as rfl (s_nt (at_seq (s_sr (s_mv rfl (at_lt (lt_lss rfl rfl) rfl (s_nt ?_))))))
      by_cases h2093 : x2090 < 0
      ·replace hr := ipos h2093 hr
       refine at_true rfl (decide_eq_true (by first | exact h2093 | omega)) ?_
       refine s_sr (s_as rfl (s_nt (at_ret ?_)))
       have hq := oinj hr
       clear hr
       subst hq
       have hq := oinj hk2081
       clear hk2081
       subst hq
       refine at_then_ret (at_in_ret (at_then_ret (at_then_ret (at_in_ret (at_then_ret (at_then_ret ?_))))))
       exact at_return (.bool false) [] hS Tryz.results13 (.cons (.tmp rfl) .nil) rfl rfl ⟨rfl, rfl⟩
      replace hr := ineg h2093 hr
      refine at_false rfl (decide_eq_false (by first | exact h2093 | omega)) ?_
      refine at_skip (s_tsr (s_as rfl (s_nt (at_int .i64 0 (by simp only [lo, hi]; omega) ?_))))
      replace hr := obind hr
      obtain ⟨r2095, hl2096, hk2097⟩ := hr
      refine at_cutP (V := (Unit) × (Unit)) (fun v => r2095 = Fl.go v.1) (fun v => (⟨[(0, w2060), (3, .pointer (some (Addr.add ⟨b2063, 0, none⟩ 0))), (5, .int .i64 (x2078 : Int))], [⟨b2063, [.int .i64 a1.ID, s2061], 25⟩], [], [((Ty.slice ty50).fact a0 [w2060]), ((Ty.int .i64).fact (x2078 : Int) [.int .i64 (x2078 : Int)]), ((Ty.int .i64).fact a1.ID [.int .i64 a1.ID]), ((Ty.slice ty69).fact a1.Fields [s2061])]⟩ : St)) ?_ ?_
      ·refine at_block ?_
       refine at_loopW (σ := Nat) (V := Unit) (r := r2095) (fun n s => m13_l2 a0 a1 x2078 x2090 n s) (fun s e => (⟨[(0, w2060), (3, .pointer (some (Addr.add ⟨b2063, 0, none⟩ 0))), (5, .int .i64 (x2078 : Int)), (6, .int .i64 x2090), (7, .int .i64 (s : Int))], [⟨b2063, [.int .i64 a1.ID, s2061], 25⟩], [], [((Ty.int .i64).fact (s : Int) [.int .i64 (s : Int)]), ((Ty.slice ty50).fact a0 [w2060]), ((Ty.int .i64).fact (x2078 : Int) [.int .i64 (x2078 : Int)]), ((Ty.int .i64).fact x2090 [.int .i64 x2090]), ((Ty.int .i64).fact a1.ID [.int .i64 a1.ID]), ((Ty.slice ty69).fact a1.Fields [s2061])]⟩ : St)) (fun _ => rfl) _ 0 () hl2096 ⟨⟨rfl, ⟨rfl, ⟨rfl, ⟨rfl, ⟨rfl, trivial⟩⟩⟩⟩⟩, ⟨[true], rfl⟩, ⟨[], rfl⟩, ⟨[0, 7, 6, 1, 8, 9], rfl⟩⟩ ?_
       clear hl2096
       intro n x2094 hr e
       skip
       skip
       change m13_l2 a0 a1 x2078 x2090 (n + 1) x2094 = some r2095 at hr
       change At _ _ (⟨[(0, w2060), (3, .pointer (some (Addr.add ⟨b2063, 0, none⟩ 0))), (5, .int .i64 (x2078 : Int)), (6, .int .i64 x2090), (7, .int .i64 (x2094 : Int))], [⟨b2063, [.int .i64 a1.ID, s2061], 25⟩], [], [((Ty.int .i64).fact (x2094 : Int) [.int .i64 (x2094 : Int)]), ((Ty.slice ty50).fact a0 [w2060]), ((Ty.int .i64).fact (x2078 : Int) [.int .i64 (x2078 : Int)]), ((Ty.int .i64).fact x2090 [.int .i64 x2090]), ((Ty.int .i64).fact a1.ID [.int .i64 a1.ID]), ((Ty.slice ty69).fact a1.Fields [s2061])]⟩ : St) _
       rw [m13_l2] at hr
       refine at_seq (s_sr (s_mv rfl (at_lt (lt_fieldAddr 1 rfl fld25_1 rfl) rfl (at_lt (lt_load_box 0 rfl ti23 rfl rfl rfl rfl rfl) rfl (s_mv rfl ?_)))))
       replace hr := obind hr
       obtain ⟨x2098, h2099, hr⟩ := hr
       have := (List.getElem?_eq_some_iff.1 h2099).1
       refine at_elem 5 rfl (nat_at' h2099) (fun p2101 ec pa2102 => ?_)
       refine at_open (A := Value) 0 rfl _ _ (fun F w h => op69 h) ?_
       rintro s2100 rfl
       refine at_lt (lt_idx rfl rfl pa2102 und23 ti69) rfl (at_lt (lt_fieldAddr 3 rfl fld69_2 rfl) rfl (at_lt (lt_load_peek 3 rfl ti67 rfl rfl rfl rfl rfl) rfl ?_))
       refine at_inv 1 rfl (fun i2103 => ?_)
       have l2104 := slice_len i2103
       refine at_lt (lt_flen 1 rfl rfl und67) rfl (at_lt (lt_lss rfl rfl) rfl (s_nt ?_))
       by_cases h2105 : x2094 < x2098.Subs.length
       ·replace hr := ipos h2105 hr
        refine at_true rfl (decide_eq_true (by omega)) ?_
        refine at_skip (at_then (at_seq (at_block (at_seq ?_))))
        replace hr := obind hr
        obtain ⟨x2106, h2107, hr⟩ := hr
        have := at?_lt h2107
        refine at_elem 5 rfl h2107 (fun p2109 ec pa2110 => ?_)
        refine at_open (A := Value) 0 rfl _ _ (fun F w h => op50 h) ?_
        rintro s2108 rfl
        replace hr := obind hr
        obtain ⟨x2111, h2112, hr⟩ := hr
        have := (List.getElem?_eq_some_iff.1 h2112).1
        refine at_elem 14 rfl (nat_at' h2112) (fun p2114 ec pa2115 => ?_)
        refine at_open (A := Value) 0 rfl _ _ (fun F w h => op69 h) ?_
        rintro s2113 rfl
        replace hr := obind hr
        obtain ⟨x2116, h2117, hr⟩ := hr
        have := (List.getElem?_eq_some_iff.1 h2117).1
        refine at_elem 1 rfl (nat_at' h2117) (fun p2118 ec pa2119 => ?_)
        refine at_open (A := Unit) 0 rfl _ _ (fun F w h => op66 h) ?_
        rintro _ rfl
        replace hr := obind hr
        obtain ⟨x2120, h2121, hr⟩ := hr
        refine aa_start 17 (by kernel_rfl) ?_
        refine aa_p 0 rfl (lt_move rfl) (aa_p 1 rfl (lt_move rfl) (aa_p 2 rfl (lt_idx rfl rfl pa2110 und22 ti50) (aa_p 3 rfl (lt_fieldAddr 2 rfl fld50_2 rfl) (aa_l 4 rfl (lt_load_peek 11 rfl ti48 rfl rfl rfl rfl rfl) (aa_p 5 rfl (lt_fieldAddr 1 rfl fld25_1 rfl) (aa_l 6 rfl (lt_load_box 0 rfl ti23 rfl rfl rfl rfl rfl) (aa_p 7 rfl (lt_move rfl) (aa_p 8 rfl (lt_idx rfl rfl pa2115 und23 ti69) (aa_p 9 rfl (lt_fieldAddr 3 rfl fld69_2 rfl) ?_)))))))))
        refine aa_l 10 rfl (lt_load_peek 6 rfl ti67 rfl rfl rfl rfl rfl) (aa_p 11 rfl (lt_move rfl) (aa_p 12 rfl (lt_idx rfl rfl pa2119 und67 ti66) (aa_p 13 rfl (lt_fieldAddr 0 rfl fld66_0 rfl) (aa_l 14 rfl (lt_load_peek 2 rfl ti5 rfl rfl rfl rfl rfl) (aa_one 15 (aa_op rfl rfl (hv_call0 [9] (f40_spec h2121) rfl rfl rfl rfl ?_)))))))
        rintro _ _ ⟨rfl, rfl⟩
        refine aa_p 16 rfl (lt_eql rfl rfl) ?_
        refine aa_done (by kernel_rfl) (ts_in 0 0 rfl rfl) ?_
        refine at_then ?_
        by_cases h2122 : x2120.toNat = 0
        ·replace hr := ipos h2122 hr
         refine at_true rfl (decide_eq_true (by omega)) ?_
         refine s_sr (s_as rfl (s_nt (at_ret ?_)))
         have hq := oinj hr
         clear hr
         subst hq
         have hq := oinj hk2097
         clear hk2097
         subst hq
         have hq := oinj hk2081
         clear hk2081
         subst hq
         refine at_in_ret (at_then_ret (at_then_ret (at_in_ret (at_then_ret (at_in_ret (at_then_ret (at_then_ret (at_in_ret (at_then_ret ?_)))))))))
         refine at_then_ret ?_
         exact at_return (.bool false) [] hS Tryz.results13 (.cons (.tmp rfl) .nil) rfl rfl ⟨rfl, rfl⟩
        replace hr := ineg h2122 hr
        refine at_false rfl (decide_eq_false (by omega)) ?_
        refine at_skip (at_in (s_tr (s_mv rfl (at_lt (lt_add rfl rfl (by simp only [lo, hi]; omega)) rfl (s_as rfl (at_nil (at_int .i64 (x2094 + 1 : Int) (by simp only [lo, hi]; omega) ?_)))))))
        exact at_again (σ := Nat) (V := Unit) (lp := fun n s => m13_l2 a0 a1 x2078 x2090 n s) (S := fun s e => (⟨[(0, w2060), (3, .pointer (some (Addr.add ⟨b2063, 0, none⟩ 0))), (5, .int .i64 (x2078 : Int)), (6, .int .i64 x2090), (7, .int .i64 (s : Int))], [⟨b2063, [.int .i64 a1.ID, s2061], 25⟩], [], [((Ty.int .i64).fact (s : Int) [.int .i64 (s : Int)]), ((Ty.slice ty50).fact a0 [w2060]), ((Ty.int .i64).fact (x2078 : Int) [.int .i64 (x2078 : Int)]), ((Ty.int .i64).fact x2090 [.int .i64 x2090]), ((Ty.int .i64).fact a1.ID [.int .i64 a1.ID]), ((Ty.slice ty69).fact a1.Fields [s2061])]⟩ : St)) (x2094 + 1) () hr ⟨⟨rfl, ⟨rfl, ⟨rfl, ⟨rfl, ⟨rfl, trivial⟩⟩⟩⟩⟩, ⟨[true], rfl⟩, ⟨[], rfl⟩, ⟨[0, 18, 19, 20, 21, 22], rfl⟩⟩
       replace hr := ineg h2105 hr
       refine at_false rfl (decide_eq_false (by omega)) ?_
       refine at_exit (at_then_exit (at_then_exit (at_in_exit ?_)))
       have hq := oinj hr
       clear hr
       subst hq
       exact at_leafP ((), ()) rfl ⟨⟨rfl, ⟨rfl, ⟨rfl, trivial⟩⟩⟩, ⟨[true], rfl⟩, ⟨[], rfl⟩, ⟨[5, 6, 8, 9], rfl⟩⟩
      rintro ⟨_, _⟩ hp
      replace hr := hk2097
      subst hp
      clear hl2096
      change At _ _ (⟨[(0, w2060), (3, .pointer (some (Addr.add ⟨b2063, 0, none⟩ 0))), (5, .int .i64 (x2078 : Int))], [⟨b2063, [.int .i64 a1.ID, s2061], 25⟩], [], [((Ty.slice ty50).fact a0 [w2060]), ((Ty.int .i64).fact (x2078 : Int) [.int .i64 (x2078 : Int)]), ((Ty.int .i64).fact a1.ID [.int .i64 a1.ID]), ((Ty.slice ty69).fact a1.Fields [s2061])]⟩ : St) _
      refine at_in (s_tr (s_mv rfl (at_lt (lt_add rfl rfl (by simp only [lo, hi]; omega)) rfl (s_as rfl (at_nil (at_int .i64 (x2078 + 1 : Int) (by simp only [lo, hi]; omega) ?_))))))
      exact at_again (σ := Nat) (V := Unit) (lp := fun n s => m13_l1 a0 a1 n s) (S := fun s e => (⟨[(0, w2060), (3, .pointer (some (Addr.add ⟨b2063, 0, none⟩ 0))), (5, .int .i64 (s : Int))], [⟨b2063, [.int .i64 a1.ID, s2061], 25⟩], [], [((Ty.int .i64).fact (s : Int) [.int .i64 (s : Int)]), ((Ty.slice ty50).fact a0 [w2060]), ((Ty.int .i64).fact a1.ID [.int .i64 a1.ID]), ((Ty.slice ty69).fact a1.Fields [s2061])]⟩ : St)) (x2078 + 1) () hr ⟨⟨rfl, ⟨rfl, ⟨rfl, trivial⟩⟩⟩, ⟨[true], rfl⟩, ⟨[], rfl⟩, ⟨[0, 1, 3, 4], rfl⟩⟩
     replace hr := ineg h2084 hr
     refine at_false rfl (decide_eq_false (by omega)) ?_
     refine at_exit (at_then_exit (at_then_exit (at_in_exit ?_)))
     have hq := oinj hr
     clear hr
     subst hq
     exact at_leafP ((), ()) rfl ⟨trivial, ⟨[false], rfl⟩, ⟨[], rfl⟩, ⟨[], rfl⟩⟩
    rintro ⟨_, _⟩ hp
    replace hr := hk2081
    subst hp
    clear hl2080
    change At _ _ (⟨[], [], [], []⟩ : St) _
    refine s_tsr (s_as rfl (s_nt (at_ret ?_)))
    have hq := oinj hr
    clear hr
    subst hq
    exact at_return (.bool true) [] hS Tryz.results13 (.cons (.tmp rfl) .nil) rfl rfl ⟨rfl, rfl⟩
   replace hr := ineg h2077 hr
   refine at_true rfl (nf (bf h2077)) (s_sr (s_as rfl (s_nt (at_ret ?_))))
   have hq := oinj hr
   clear hr
   subst hq
   refine at_then_ret ?_
   exact at_return (.bool false) [] hS Tryz.results13 (.cons (.tmp rfl) .nil) rfl rfl ⟨rfl, rfl⟩
  replace hr := ineg h2069 hr
  refine aa_start 15 (by kernel_rfl) ?_
  refine aa_p 0 rfl (lt_move rfl) (aa_one 1 (aa_op rfl rfl (hv_call0 [2] (f24_spec h2065) rfl rfl rfl rfl ?_)))
  rintro _ _ ⟨rfl, rfl⟩
  refine aa_p 2 rfl (lt_not rfl) (aa_p 3 rfl (lt_move rfl) ?_)
  refine aa_lg 4 rfl ⟨11, rfl, .inl ⟨_, rfl, gdq (v := false) (nt h2066) rfl⟩⟩ (lt_load_box 0 rfl ti25 rfl rfl rfl rfl rfl) ?_
  refine aa_one 5 ?_
  refine at_derive [0, 1] (ty25.fact (⟨a1.ID, a1.Fields⟩ : D_api_Record) [.int .i64 a1.ID, s2061]) rfl (fun F w h => mk25 (x := (⟨a1.ID, a1.Fields⟩ : D_api_Record)) h) ?_
  refine aa_op rfl ⟨11, rfl, .inl ⟨_, rfl, gdq (v := false) (nt h2066) rfl⟩⟩ ?_
  refine hv_call0 [0] (f25_spec h2068) rfl rfl rfl rfl ?_
  rintro _ _ ⟨rfl, rfl⟩
  refine aa_pure 6 rfl (by kernel_rfl) rfl ⟨11, rfl, .inl ⟨_, rfl, gdq (v := false) (nt h2066) rfl⟩⟩ (lt_not rfl) rfl (ts_in 0 1 rfl rfl) ?_
  refine aa_pure 7 rfl (by kernel_rfl) rfl rfl (lt_pick false rfl (nt h2066) rfl) rfl (ts_in 0 1 rfl rfl) ?_
  refine aa_pure 8 rfl (by kernel_rfl) rfl rfl (lt_move rfl) rfl (ts_in 0 1 rfl rfl) ?_
  refine aa_off 9 rfl (by kernel_rfl) rfl ⟨16, rfl, .inl ⟨_, rfl, gdq (v := true) (nf (bf h2069)) rfl⟩⟩ rfl (ts_in 0 1 rfl rfl) ?_
  refine aa_off 10 rfl (by kernel_rfl) rfl ⟨16, rfl, .inl ⟨_, rfl, gdq (v := true) (nf (bf h2069)) rfl⟩⟩ rfl (ts_in 0 1 rfl rfl) ?_
  refine aa_off 11 rfl (by kernel_rfl) rfl ⟨16, rfl, .inl ⟨_, rfl, gdq (v := true) (nf (bf h2069)) rfl⟩⟩ rfl (ts_in 0 1 rfl rfl) ?_
  refine aa_off 12 rfl (by kernel_rfl) rfl ⟨16, rfl, .inl ⟨_, rfl, gdq (v := true) (nf (bf h2069)) rfl⟩⟩ rfl (ts_in 0 1 rfl rfl) ?_
  refine aa_off 13 rfl (by kernel_rfl) rfl ⟨16, rfl, .inl ⟨_, rfl, gdq (v := true) (nf (bf h2069)) rfl⟩⟩ rfl (ts_in 0 1 rfl rfl) ?_
  refine aa_pure 14 rfl (by kernel_rfl) rfl rfl (lt_pick true rfl (nf (bf h2069)) rfl) rfl (ts_in 0 1 rfl rfl) ?_
  refine aa_done (by kernel_rfl) (ts_in 0 1 rfl rfl) ?_
  refine at_then (at_true rfl rfl (s_sr (s_as rfl (s_nt (at_ret ?_)))))
  have hq := oinj hr
  clear hr
  subst hq
  refine at_then_ret ?_
  exact at_return (.bool false) [] hS Tryz.results13 (.cons (.tmp rfl) .nil) rfl rfl ⟨rfl, rfl⟩
 replace hr := ineg h2066 hr
 refine aa_start 15 (by kernel_rfl) ?_
 refine aa_p 0 rfl (lt_move rfl) (aa_one 1 (aa_op rfl rfl (hv_call0 [2] (f24_spec h2065) rfl rfl rfl rfl ?_)))
 rintro _ _ ⟨rfl, rfl⟩
 refine aa_p 2 rfl (lt_not rfl) (aa_p 3 rfl (lt_move rfl) ?_)
 refine aa_o 4 rfl ⟨11, rfl, .inl ⟨_, rfl, gdq (v := true) (nf (bf h2066)) rfl⟩⟩ ?_
 refine aa_o 5 rfl ⟨11, rfl, .inl ⟨_, rfl, gdq (v := true) (nf (bf h2066)) rfl⟩⟩ ?_
 refine aa_o 6 rfl ⟨11, rfl, .inl ⟨_, rfl, gdq (v := true) (nf (bf h2066)) rfl⟩⟩ ?_
 refine aa_p 7 rfl (lt_pick true rfl (nf (bf h2066)) rfl) (aa_p 8 rfl (lt_move rfl) ?_)
 refine aa_o 9 rfl ⟨16, rfl, .inl ⟨_, rfl, gdq (v := true) rfl rfl⟩⟩ ?_
 refine aa_o 10 rfl ⟨16, rfl, .inl ⟨_, rfl, gdq (v := true) rfl rfl⟩⟩ ?_
 refine aa_o 11 rfl ⟨16, rfl, .inl ⟨_, rfl, gdq (v := true) rfl rfl⟩⟩ ?_
 refine aa_o 12 rfl ⟨16, rfl, .inl ⟨_, rfl, gdq (v := true) rfl rfl⟩⟩ ?_
 refine aa_o 13 rfl ⟨16, rfl, .inl ⟨_, rfl, gdq (v := true) rfl rfl⟩⟩ ?_
 refine aa_p 14 rfl (lt_pick true rfl rfl rfl) ?_
 refine aa_done (by kernel_rfl) (ts_in 0 0 rfl rfl) ?_
 refine at_then (at_true rfl rfl (s_sr (s_as rfl (s_nt (at_ret ?_)))))
 have hq := oinj hr
 clear hr
 subst hq
 refine at_then_ret ?_
 exact at_return (.bool false) [] hS Tryz.results13 (.cons (.tmp rfl) .nil) rfl rfl ⟨rfl, rfl⟩
def m15_l2 (a0 : (List D_ref16_Entry)) (x2125 : Nat) : Nat → Nat → (List D_crosswalk_Pair) → Option (List D_crosswalk_Pair)
  | 0, _, _ => none
  | k + 1, x2150, x2151 =>
    (a0[x2125]?).bind fun x2161 =>
    if x2150 < x2161.Codes.length then
     (a0[x2125]?).bind fun x2169 =>
     (x2169.Codes[x2150]?).bind fun x2174 =>
     if x2151.length + 1 ≤ 70368744177664 then
      m15_l2 a0 x2125 k (x2150 + 1) (x2151 ++ [(⟨x2174.From, x2174.To⟩ : D_crosswalk_Pair)])
     else none
    else
     some x2151
def m15_l1 (a0 : (List D_ref16_Entry)) : Nat → (List D_crosswalk_Entry) → Nat → Option (List D_crosswalk_Entry)
  | 0, _, _ => none
  | k + 1, x2124, x2125 =>
    if x2125 < a0.length then
     (a0[x2125]?).bind fun x2138 =>
     (a0[x2125]?).bind fun x2143 =>
     (m15_l2 a0 x2125 9223372036854775808 0 ([] : (List D_crosswalk_Pair))).bind fun x2155 =>
     if x2124.length + 1 ≤ 2513169434916 then
      m15_l1 a0 k (x2124 ++ [(⟨x2138.From, x2143.To, x2155⟩ : D_crosswalk_Entry)]) (x2125 + 1)
     else none
    else
     some x2124
def m15 (a0 : (List D_ref16_Entry)) : Option (List D_crosswalk_Entry) :=
  (m15_l1 a0 (a0.length + 1) ([] : (List D_crosswalk_Entry)) 0).bind fun x2129 =>
  some x2129
def post15 (r : (List D_crosswalk_Entry)) (v : Value) (fs : List Fact) : Prop := ∃ s2194 : Value, v = s2194 ∧ fs = [((Ty.slice ty76).fact r [s2194])]
theorem en15 : Enters Tryz.prog 15 := ⟨_, Tryz.func15, by kernel_rfl, rfl⟩
theorem f15_spec {a0 : (List D_ref16_Entry)} {w2123 : Value} {r : (List D_crosswalk_Entry)} (hr : m15 a0 = some r) : Spec Tryz.prog 15 [w2123] [((Ty.slice ty50).fact a0 [w2123])] (post15 r) := by
 refine spec_start (N := 52) Tryz.func15 (by kernel_rfl) rfl rfl rfl ?_
 intro g hS
 unfold m15 at hr
 refine s_sr (s_as rfl (s_ntsr (s_as rfl (s_nt (at_seq (s_sr (s_as rfl (s_nt (at_rownew none 76 3 ?_)))))))))
 refine at_rownil ty76 ?_
 refine at_mkpure (q := (([] : (List D_crosswalk_Entry)).length * ty76.bytes ≤ 140737488355328)) (by simp only [List.nil_append, List.cons_append, List.length_cons, List.length_nil, ty76_bytes] <;> omega) ?_
 refine at_int .i64 0 (by simp only [lo, hi]; omega) ?_
 replace hr := obind hr
 obtain ⟨x2129, hl2133, hr⟩ := hr
 refine at_cut (V := Value × Nat × (List Value)) (fun e => (⟨[(3, e.1)], [], [⟨e.1, 76, 3, e.2.1, e.2.2⟩], [(ty76.row x2129 e.2.2), (pureF (x2129.length * ty76.bytes ≤ 140737488355328))]⟩ : St)) ?_ ?_
 ·refine at_block ?_
  refine at_loopW (σ := ((List D_crosswalk_Entry) × Nat)) (V := Value × Nat × (List Value)) (r := x2129) (fun n s => m15_l1 a0 n s.1 s.2) (fun s e => (⟨[(0, w2123), (3, e.1), (4, .int .i64 (s.2 : Int))], [], [⟨e.1, 76, 3, e.2.1, e.2.2⟩], [(ty76.row s.1 e.2.2), (pureF (s.1.length * ty76.bytes ≤ 140737488355328)), ((Ty.int .i64).fact (s.2 : Int) [.int .i64 (s.2 : Int)]), ((Ty.slice ty50).fact a0 [w2123])]⟩ : St)) (fun _ => rfl) _ (([] : (List D_crosswalk_Entry)), 0) ((.slice none 0 0), 0, []) hl2133 ⟨⟨rfl, ⟨rfl, ⟨rfl, trivial⟩⟩⟩, ⟨[], rfl⟩, ⟨[true], rfl⟩, ⟨[2, 1, 0, 3], rfl⟩⟩ ?_
  clear hr hl2133
  intro n s hr e
  obtain ⟨x2124, x2125⟩ := s
  obtain ⟨v2126, n2127, i2128⟩ := e
  change m15_l1 a0 (n + 1) x2124 x2125 = some x2129 at hr
  change At _ _ (⟨[(0, w2123), (3, v2126), (4, .int .i64 (x2125 : Int))], [], [⟨v2126, 76, 3, n2127, i2128⟩], [(ty76.row x2124 i2128), (pureF (x2124.length * ty76.bytes ≤ 140737488355328)), ((Ty.int .i64).fact (x2125 : Int) [.int .i64 (x2125 : Int)]), ((Ty.slice ty50).fact a0 [w2123])]⟩ : St) _
  rw [m15_l1] at hr
  refine at_seq (s_sr (s_mv rfl (s_mv rfl ?_)))
  refine at_inv 3 rfl (fun i2135 => ?_)
  have l2136 := slice_len i2135
  refine at_lt (lt_flen 3 rfl rfl und22) rfl (at_lt (lt_lss rfl rfl) rfl (s_nt ?_))
  by_cases h2137 : x2125 < a0.length
  ·replace hr := ipos h2137 hr
   refine at_true rfl (decide_eq_true (by omega)) ?_
   refine at_skip (at_then (at_seq (at_block (at_seq ?_))))
   replace hr := obind hr
   obtain ⟨x2138, h2139, hr⟩ := hr
   have := (List.getElem?_eq_some_iff.1 h2139).1
   refine at_elem 3 rfl (nat_at' h2139) (fun p2141 ec pa2142 => ?_)
   refine at_open (A := Value) 0 rfl _ _ (fun F w h => op50 h) ?_
   rintro s2140 rfl
   replace hr := obind hr
   obtain ⟨x2143, h2144, hr⟩ := hr
   have := (List.getElem?_eq_some_iff.1 h2144).1
   refine at_elem 8 rfl (nat_at' h2144) (fun p2146 ec pa2147 => ?_)
   refine at_open (A := Value) 0 rfl _ _ (fun F w h => op50 h) ?_
   rintro s2145 rfl
   refine aa_start 13 (by kernel_rfl) ?_
   refine aa_p 0 rfl (lt_move rfl) (aa_p 1 rfl (lt_move rfl) (aa_p 2 rfl (lt_idx rfl rfl pa2142 und22 ti50) (aa_p 3 rfl (lt_fieldAddr 0 rfl fld50_0 rfl) (aa_l 4 rfl (lt_load_peek 9 rfl ti9 rfl rfl rfl rfl rfl) (aa_p 5 rfl (lt_move rfl) (aa_p 6 rfl (lt_move rfl) (aa_p 7 rfl (lt_idx rfl rfl pa2147 und22 ti50) (aa_p 8 rfl (lt_fieldAddr 1 rfl fld50_1 rfl) (aa_l 9 rfl (lt_load_peek 4 rfl ti9 rfl rfl rfl rfl rfl) ?_)))))))))
   refine aa_p 10 rfl (lt_build (cs := [str x2138.From, str x2143.To, (.slice none 0 0)]) rfl ti76 pl76 rfl) (aa_one 11 (aa_op rfl rfl ?_))
   refine hv_alloc (cs := [str ([] : Str), str ([] : Str), (.slice none 0 0)]) ti76 rfl rfl (fun b2149 => ?_)
   refine aa_all (rs := [12]) (by kernel_rfl) rfl (ts_in 1 0 rfl rfl) (List.forall_mem_singleton.2 ?_)
   refine aa_op rfl rfl (hv_store_box 0 (cs' := [str x2138.From, str x2143.To, (.slice none 0 0)]) rfl rfl ti76 rfl rfl rfl rfl rfl ?_)
   refine aa_done (by kernel_rfl) (ts_in 1 0 rfl rfl) ?_
   refine at_then (at_seq (s_sr (s_as rfl (s_nt (at_int .i64 0 (by simp only [lo, hi]; omega) (at_rownew none 82 2 (at_rownil ty82 ?_)))))))
   refine at_mkpure (q := (([] : (List D_crosswalk_Pair)).length * ty82.bytes ≤ 140737488355328)) (by simp only [List.nil_append, List.cons_append, List.length_cons, List.length_nil, ty82_bytes] <;> omega) ?_
   replace hr := obind hr
   obtain ⟨x2155, hl2159, hr⟩ := hr
   refine at_cut (V := Value × Nat × (List Value)) (fun e => (⟨[(0, w2123), (3, v2126), (4, .int .i64 (x2125 : Int)), (5, .pointer (some (Addr.add ⟨b2149, 0, none⟩ 0)))], [⟨b2149, [str x2138.From, str x2143.To, e.1], 76⟩], [⟨e.1, 82, 2, e.2.1, e.2.2⟩, ⟨v2126, 76, 3, n2127, i2128⟩], [(ty82.row x2155 e.2.2), (pureF (x2155.length * ty82.bytes ≤ 140737488355328)), ((Ty.slice ty50).fact a0 [w2123]), (ty76.row x2124 i2128), (pureF (x2124.length * ty76.bytes ≤ 140737488355328)), ((Ty.int .i64).fact (x2125 : Int) [.int .i64 (x2125 : Int)]), (Ty.str.fact x2138.From [str x2138.From]), (Ty.str.fact x2143.To [str x2143.To])]⟩ : St)) ?_ ?_
   ·refine at_block ?_
    refine at_loopW (σ := (Nat × (List D_crosswalk_Pair))) (V := Value × Nat × (List Value)) (r := x2155) (fun n s => m15_l2 a0 x2125 n s.1 s.2) (fun s e => (⟨[(0, w2123), (3, v2126), (4, .int .i64 (x2125 : Int)), (5, .pointer (some (Addr.add ⟨b2149, 0, none⟩ 0))), (6, .int .i64 (s.1 : Int))], [⟨b2149, [str x2138.From, str x2143.To, e.1], 76⟩], [⟨e.1, 82, 2, e.2.1, e.2.2⟩, ⟨v2126, 76, 3, n2127, i2128⟩], [((Ty.int .i64).fact (s.1 : Int) [.int .i64 (s.1 : Int)]), (ty82.row s.2 e.2.2), (pureF (s.2.length * ty82.bytes ≤ 140737488355328)), ((Ty.slice ty50).fact a0 [w2123]), (ty76.row x2124 i2128), (pureF (x2124.length * ty76.bytes ≤ 140737488355328)), ((Ty.int .i64).fact (x2125 : Int) [.int .i64 (x2125 : Int)]), (Ty.str.fact x2138.From [str x2138.From]), (Ty.str.fact x2143.To [str x2143.To])]⟩ : St)) (fun _ => rfl) _ (0, ([] : (List D_crosswalk_Pair))) ((.slice none 0 0), 0, []) hl2159 ⟨⟨rfl, ⟨rfl, ⟨rfl, ⟨rfl, ⟨rfl, trivial⟩⟩⟩⟩⟩, ⟨[true], rfl⟩, ⟨[true, true], rfl⟩, ⟨[2, 1, 0, 16, 13, 14, 15, 8, 4], rfl⟩⟩ ?_
    clear hr hl2159
    intro n s hr e
    obtain ⟨x2150, x2151⟩ := s
    obtain ⟨v2152, n2153, i2154⟩ := e
    change m15_l2 a0 x2125 (n + 1) x2150 x2151 = some x2155 at hr
    change At _ _ (⟨[(0, w2123), (3, v2126), (4, .int .i64 (x2125 : Int)), (5, .pointer (some (Addr.add ⟨b2149, 0, none⟩ 0))), (6, .int .i64 (x2150 : Int))], [⟨b2149, [str x2138.From, str x2143.To, v2152], 76⟩], [⟨v2152, 82, 2, n2153, i2154⟩, ⟨v2126, 76, 3, n2127, i2128⟩], [((Ty.int .i64).fact (x2150 : Int) [.int .i64 (x2150 : Int)]), (ty82.row x2151 i2154), (pureF (x2151.length * ty82.bytes ≤ 140737488355328)), ((Ty.slice ty50).fact a0 [w2123]), (ty76.row x2124 i2128), (pureF (x2124.length * ty76.bytes ≤ 140737488355328)), ((Ty.int .i64).fact (x2125 : Int) [.int .i64 (x2125 : Int)]), (Ty.str.fact x2138.From [str x2138.From]), (Ty.str.fact x2143.To [str x2143.To])]⟩ : St) _
    rw [m15_l2] at hr
    refine at_seq (s_sr (s_mv rfl (s_mv rfl (s_mv rfl ?_))))
    replace hr := obind hr
    obtain ⟨x2161, h2162, hr⟩ := hr
    have := (List.getElem?_eq_some_iff.1 h2162).1
    refine at_elem 3 rfl (nat_at' h2162) (fun p2164 ec pa2165 => ?_)
    refine at_open (A := Value) 0 rfl _ _ (fun F w h => op50 h) ?_
    rintro s2163 rfl
    refine at_lt (lt_idx rfl rfl pa2165 und22 ti50) rfl (at_lt (lt_fieldAddr 2 rfl fld50_2 rfl) rfl (at_lt (lt_load_peek 4 rfl ti48 rfl rfl rfl rfl rfl) rfl ?_))
    refine at_inv 2 rfl (fun i2166 => ?_)
    have l2167 := slice_len i2166
    refine at_lt (lt_flen 2 rfl rfl und48) rfl (at_lt (lt_lss rfl rfl) rfl (s_nt ?_))
    by_cases h2168 : x2150 < x2161.Codes.length
    ·replace hr := ipos h2168 hr
     refine at_true rfl (decide_eq_true (by omega)) ?_
     refine at_skip (at_then (at_seq (at_block ?_)))
     replace hr := obind hr
     obtain ⟨x2169, h2170, hr⟩ := hr
     have := (List.getElem?_eq_some_iff.1 h2170).1
     refine at_elem 8 rfl (nat_at' h2170) (fun p2172 ec pa2173 => ?_)
     refine at_open (A := Value) 0 rfl _ _ (fun F w h => op50 h) ?_
     rintro s2171 rfl
     replace hr := obind hr
     obtain ⟨x2174, h2175, hr⟩ := hr
     have := (List.getElem?_eq_some_iff.1 h2175).1
     refine at_elem 2 rfl (nat_at' h2175) (fun p2176 ec pa2177 => ?_)
     refine at_open (A := Unit) 0 rfl _ _ (fun F w h => op83 h) ?_
     rintro _ rfl
     replace hr := imust hr
     obtain ⟨h2179, hr⟩ := hr
     refine aa_start 13 (by kernel_rfl) ?_
     refine aa_p 0 rfl (lt_fieldAddr 2 rfl fld76_2 rfl) (aa_l 1 rfl (lt_load_box 0 rfl ti74 rfl rfl rfl rfl rfl) (aa_p 2 rfl (lt_move rfl) (aa_p 3 rfl (lt_move rfl) (aa_p 4 rfl (lt_idx rfl rfl pa2173 und22 ti50) (aa_p 5 rfl (lt_fieldAddr 2 rfl fld50_2 rfl) (aa_l 6 rfl (lt_load_peek 6 rfl ti48 rfl rfl rfl rfl rfl) (aa_p 7 rfl (lt_move rfl) (aa_p 8 rfl (lt_idx rfl rfl pa2177 und48 ti83) (aa_l 9 rfl (lt_load_peek 1 rfl ti83 rfl rfl rfl rfl rfl) ?_)))))))))
     refine aa_one 10 (aa_op rfl rfl ?_)
     refine hv_bslice (cs := [.int .u8 (x2174.From.toNat : Int), .int .u8 (x2174.To.toNat : Int)]) rfl und74 ti82 rfl rfl rfl rfl rfl (fun s2183 => ?_)
     refine aa_one 11 ?_
     refine at_derive [] (ty82.fact (⟨x2174.From, x2174.To⟩ : D_crosswalk_Pair) [.int .u8 (x2174.From.toNat : Int), .int .u8 (x2174.To.toNat : Int)]) rfl (fun F w h => mk82 (x := (⟨x2174.From, x2174.To⟩ : D_crosswalk_Pair)) h) ?_
     refine at_rown 1 14 rfl rfl rfl (fun hn2185 => ?_)
     refine aa_op rfl rfl ?_
     refine hv_append 1 0 rfl rfl rfl rfl und74 ti82 rfl rfl rfl (by omega) (by omega) rfl (fun s2184 => ?_)
     refine at_rowsnoc 14 0 rfl rfl ?_
     refine aa_pure 12 rfl (by kernel_rfl) rfl rfl (lt_fieldAddr 2 rfl fld76_2 rfl) rfl (ts_in 0 2 rfl rfl) ?_
     refine aa_all (rs := [13]) (by kernel_rfl) rfl (ts_in 0 2 rfl rfl) (List.forall_mem_singleton.2 ?_)
     refine at_rowv 1 rfl (fun ho2186 => ?_)
     replace ho2186 := row_one (by obtain ⟨a, c, h⟩ := ho2186; exact ⟨a, _, c, h⟩)
     refine aa_op rfl rfl (hv_store1 0 (cs' := [str x2138.From, str x2143.To, s2184]) rfl rfl ti74 rfl rfl rfl rfl ho2186 ?_)
     refine aa_done (by kernel_rfl) (ts_out rfl) ?_
     refine at_in (s_tr (s_mv rfl (at_lt (lt_add rfl rfl (by simp only [lo, hi]; omega)) rfl (s_as rfl (at_nil (at_int .i64 (x2150 + 1 : Int) (by simp only [lo, hi]; omega) ?_))))))
     refine at_mkpure (q := ((x2151 ++ [(⟨x2174.From, x2174.To⟩ : D_crosswalk_Pair)]).length * ty82.bytes ≤ 140737488355328)) (by simp only [List.length_append, List.length_cons, List.length_nil, ty82_bytes] <;> omega) ?_
     exact at_again (σ := (Nat × (List D_crosswalk_Pair))) (V := Value × Nat × (List Value)) (lp := fun n s => m15_l2 a0 x2125 n s.1 s.2) (S := fun s e => (⟨[(0, w2123), (3, v2126), (4, .int .i64 (x2125 : Int)), (5, .pointer (some (Addr.add ⟨b2149, 0, none⟩ 0))), (6, .int .i64 (s.1 : Int))], [⟨b2149, [str x2138.From, str x2143.To, e.1], 76⟩], [⟨e.1, 82, 2, e.2.1, e.2.2⟩, ⟨v2126, 76, 3, n2127, i2128⟩], [((Ty.int .i64).fact (s.1 : Int) [.int .i64 (s.1 : Int)]), (ty82.row s.2 e.2.2), (pureF (s.2.length * ty82.bytes ≤ 140737488355328)), ((Ty.slice ty50).fact a0 [w2123]), (ty76.row x2124 i2128), (pureF (x2124.length * ty76.bytes ≤ 140737488355328)), ((Ty.int .i64).fact (x2125 : Int) [.int .i64 (x2125 : Int)]), (Ty.str.fact x2138.From [str x2138.From]), (Ty.str.fact x2143.To [str x2143.To])]⟩ : St)) (x2150 + 1, x2151 ++ [(⟨x2174.From, x2174.To⟩ : D_crosswalk_Pair)]) (s2184, n2153 + 1, i2154 ++ [.int .u8 (x2174.From.toNat : Int), .int .u8 (x2174.To.toNat : Int)]) hr ⟨⟨rfl, ⟨rfl, ⟨rfl, ⟨rfl, ⟨rfl, trivial⟩⟩⟩⟩⟩, ⟨[true], rfl⟩, ⟨[false, true, true], rfl⟩, ⟨[1, 2, 0, 19, 20, 21, 22, 23, 24], rfl⟩⟩
    replace hr := ineg h2168 hr
    refine at_false rfl (decide_eq_false (by omega)) ?_
    refine at_exit (at_then_exit (at_then_exit (at_in_exit ?_)))
    have hq := oinj hr
    clear hr
    subst hq
    exact at_leaf (v2152, n2153, i2154) ⟨⟨rfl, ⟨rfl, ⟨rfl, ⟨rfl, trivial⟩⟩⟩⟩, ⟨[true], rfl⟩, ⟨[true, true], rfl⟩, ⟨[6, 7, 8, 9, 10, 11, 12, 13], rfl⟩⟩
   clear hl2159
   intro e
   obtain ⟨v2156, n2157, i2158⟩ := e
   change At _ _ (⟨[(0, w2123), (3, v2126), (4, .int .i64 (x2125 : Int)), (5, .pointer (some (Addr.add ⟨b2149, 0, none⟩ 0)))], [⟨b2149, [str x2138.From, str x2143.To, v2156], 76⟩], [⟨v2156, 82, 2, n2157, i2158⟩, ⟨v2126, 76, 3, n2127, i2128⟩], [(ty82.row x2155 i2158), (pureF (x2155.length * ty82.bytes ≤ 140737488355328)), ((Ty.slice ty50).fact a0 [w2123]), (ty76.row x2124 i2128), (pureF (x2124.length * ty76.bytes ≤ 140737488355328)), ((Ty.int .i64).fact (x2125 : Int) [.int .i64 (x2125 : Int)]), (Ty.str.fact x2138.From [str x2138.From]), (Ty.str.fact x2143.To [str x2143.To])]⟩ : St) _
   refine s_tr (s_mv rfl (at_lt (lt_load_box 0 rfl ti76 rfl rfl rfl rfl rfl) rfl (at_hv rfl ?_)))
   refine hv_bslice (cs := [str x2138.From, str x2143.To, v2156]) rfl und34 ti76 rfl rfl rfl rfl rfl (fun s2187 => ?_)
   replace hr := imust hr
   obtain ⟨h2188, hr⟩ := hr
   refine at_pure 1 rfl (fun hb2190 => ?_)
   refine at_release 1 0 rfl rfl rfl hb2190 ?_
   refine at_derive [7, 8, 0] (ty76.fact (⟨x2138.From, x2143.To, x2155⟩ : D_crosswalk_Entry) [str x2138.From, str x2143.To, v2156]) rfl (fun F w h => mk76 (x := (⟨x2138.From, x2143.To, x2155⟩ : D_crosswalk_Entry)) h) ?_
   refine at_rown 1 5 rfl rfl rfl (fun hn2191 => ?_)
   refine at_one 1 rfl (fun ho2192 => ?_)
   refine at_hv rfl ?_
   refine hv_append 1 0 rfl rfl rfl rfl und34 ti76 rfl rfl (allc rfl (allc rfl (allc ho2192 rfl))) (by omega) (by omega) rfl (fun s2189 => ?_)
   refine at_rowsnoc 5 0 rfl rfl (s_as rfl (at_nil (at_in (s_tr (s_mv rfl (at_lt (lt_add rfl rfl (by simp only [lo, hi]; omega)) rfl (s_as rfl (at_nil ?_))))))))
   refine at_mkpure (q := ((x2124 ++ [(⟨x2138.From, x2143.To, x2155⟩ : D_crosswalk_Entry)]).length * ty76.bytes ≤ 140737488355328)) (by simp only [List.length_append, List.length_cons, List.length_nil, ty76_bytes] <;> omega) ?_
   refine at_int .i64 (x2125 + 1 : Int) (by simp only [lo, hi]; omega) ?_
   exact at_again (σ := ((List D_crosswalk_Entry) × Nat)) (V := Value × Nat × (List Value)) (lp := fun n s => m15_l1 a0 n s.1 s.2) (S := fun s e => (⟨[(0, w2123), (3, e.1), (4, .int .i64 (s.2 : Int))], [], [⟨e.1, 76, 3, e.2.1, e.2.2⟩], [(ty76.row s.1 e.2.2), (pureF (s.1.length * ty76.bytes ≤ 140737488355328)), ((Ty.int .i64).fact (s.2 : Int) [.int .i64 (s.2 : Int)]), ((Ty.slice ty50).fact a0 [w2123])]⟩ : St)) (x2124 ++ [(⟨x2138.From, x2143.To, x2155⟩ : D_crosswalk_Entry)], x2125 + 1) (s2189, n2127 + 1, i2128 ++ [str x2138.From, str x2143.To, v2156]) hr ⟨⟨rfl, ⟨rfl, ⟨rfl, trivial⟩⟩⟩, ⟨[false], rfl⟩, ⟨[false, true], rfl⟩, ⟨[2, 1, 0, 7], rfl⟩⟩
  replace hr := ineg h2137 hr
  refine at_false rfl (decide_eq_false (by omega)) ?_
  refine at_exit (at_then_exit (at_then_exit (at_in_exit ?_)))
  have hq := oinj hr
  clear hr
  subst hq
  exact at_leaf (v2126, n2127, i2128) ⟨⟨rfl, trivial⟩, ⟨[], rfl⟩, ⟨[true], rfl⟩, ⟨[0, 1], rfl⟩⟩
 clear hl2133
 intro e
 obtain ⟨v2130, n2131, i2132⟩ := e
 change At _ _ (⟨[(3, v2130)], [], [⟨v2130, 76, 3, n2131, i2132⟩], [(ty76.row x2129 i2132), (pureF (x2129.length * ty76.bytes ≤ 140737488355328))]⟩ : St) _
 refine s_tsr (s_mv rfl (s_as rfl (s_nt (at_ret ?_))))
 have hq := oinj hr
 clear hr
 subst hq
 refine at_pure 1 rfl (fun hb2193 => ?_)
 refine at_release 0 0 rfl rfl rfl hb2193 ?_
 exact at_return (v2130) [0] hS Tryz.results15 (.cons (.tmp rfl) .nil) rfl rfl ⟨v2130, rfl, rfl⟩
def m45 (a0 : Str) (c0 : (List D_crosswalk_Entry)) : Option (D_crosswalk_Entry × Str × Bool) :=
  (m46 c0 a0).bind fun x2198 =>
  some ((⟨x2198.1.From, x2198.1.To, x2198.1.Codes⟩ : D_crosswalk_Entry), x2198.1.From, x2198.2)
def post45 (r : (D_crosswalk_Entry × Str × Bool)) (v : Value) (fs : List Fact) : Prop := ∃ s2203 : Value, v = .tuple #[.agg #[str r.1.From, str r.1.To, s2203], str r.2.1, .bool r.2.2] ∧ fs = [(ty76.fact r.1 [str r.1.From, str r.1.To, s2203]), (Ty.str.fact r.2.1 [str r.2.1])]
theorem en45 : Enters Tryz.prog 45 := ⟨_, Tryz.func45, by kernel_rfl, rfl⟩
theorem f45_spec {a0 : Str} {c0 : (List D_crosswalk_Entry)} {b2195 : Nat} {w2196 : Value} {r : (D_crosswalk_Entry × Str × Bool)} (hr : m45 a0 c0 = some r) : Spec Tryz.prog 45 [str a0, .pointer (some (Addr.add ⟨b2195, 0, none⟩ 0))] [(Ty.str.fact a0 [str a0]), (peek ⟨b2195, 0, none⟩ [w2196]), ((Ty.slice ty76).fact c0 [w2196])] (post45 r) := by
 refine spec_start (N := 18) Tryz.func45 (by kernel_rfl) rfl rfl rfl ?_
 intro g hS
 unfold m45 at hr
 refine s_sr (at_hv rfl ?_)
 refine hv_alloc (cs := [str ([] : Str), str ([] : Str), (.slice none 0 0)]) ti76 rfl rfl (fun b2197 => ?_)
 refine s_as rfl (s_as rfl (s_ntsr (at_lt (lt_load_peek 1 rfl ti34 rfl rfl rfl rfl rfl) rfl (s_mv rfl ?_))))
 replace hr := obind hr
 obtain ⟨x2198, h2199, hr⟩ := hr
 refine at_hv rfl (hv_call0 [2, 0] (f46_spec h2199) rfl rfl rfl rfl ?_)
 rintro _ _ ⟨s2200, rfl, rfl⟩
 refine at_open (A := Unit) 0 rfl (fun _ => True) (fun _ => [(Ty.str.fact x2198.1.From [str x2198.1.From]), (Ty.str.fact x2198.1.To [str x2198.1.To]), ((Ty.slice ty82).fact x2198.1.Codes [s2200])]) (fun F w h => ⟨(), trivial, ex76 h⟩) (fun _ _ => ?_)
 refine s_mv rfl (at_lt (lt_extract rfl rfl) rfl (at_lt (lt_extract rfl rfl) rfl (at_hv rfl ?_)))
 refine hv_alloc (cs := [str ([] : Str), str ([] : Str), (.slice none 0 0)]) ti76 rfl rfl (fun b2201 => ?_)
 refine at_one 2 rfl (fun ho2202 => ?_)
 refine at_hv rfl (hv_store_box 0 (cs' := [str x2198.1.From, str x2198.1.To, s2200]) rfl rfl ti76 rfl rfl rfl rfl (allc rfl (allc rfl (allc ho2202 rfl))) (s_as rfl (s_nt (at_seq ?_))))
 refine aa_start 4 (by kernel_rfl) ?_
 refine aa_l 0 rfl (lt_load_box 0 rfl ti76 rfl rfl rfl rfl rfl) (aa_p 1 rfl (lt_fieldAddr 0 rfl fld76_0 rfl) (aa_p 3 rfl (lt_move rfl) ?_))
 refine aa_all (rs := [2, 4]) (by kernel_rfl) rfl (ts_in 0 0 rfl rfl) (List.forall_mem_cons.2 ⟨?_, (List.forall_mem_singleton.2 ?_)⟩)
 ·refine aa_op rfl rfl ?_
  refine hv_lt (lt_load_box 0 rfl ti9 rfl rfl rfl rfl rfl) rfl (aa_one 4 (aa_op rfl rfl (hv_store_box 1 (cs' := [str x2198.1.From, str x2198.1.To, s2200]) rfl rfl ti76 rfl rfl rfl rfl (allc rfl (allc rfl (allc ho2202 rfl))) ?_)))
  refine aa_all (rs := [5]) (by kernel_rfl) rfl (ts_out rfl) (List.forall_mem_singleton.2 ?_)
  refine aa_op rfl rfl (hv_lt (lt_assign rfl) rfl ?_)
  refine aa_all (rs := [6]) (by kernel_rfl) rfl (ts_out rfl) (List.forall_mem_singleton.2 ?_)
  refine aa_op rfl rfl (hv_lt (lt_assign rfl) rfl ?_)
  refine aa_done (by kernel_rfl) (ts_out rfl) ?_
  refine at_then (at_ret ?_)
  have hq := oinj hr
  clear hr
  subst hq
  refine at_derive [0, 1, 2] (ty76.fact (⟨x2198.1.From, x2198.1.To, x2198.1.Codes⟩ : D_crosswalk_Entry) [str x2198.1.From, str x2198.1.To, s2200]) rfl (fun F w h => mk76 (x := (⟨x2198.1.From, x2198.1.To, x2198.1.Codes⟩ : D_crosswalk_Entry)) h) ?_
  exact at_return (.tuple #[.agg #[str x2198.1.From, str x2198.1.To, s2200], str x2198.1.From, .bool x2198.2]) [0, 1] hS Tryz.results45 (.cons (.cell 1 rfl ti76 rfl rfl rfl rfl) (.cons (.tmp rfl) (.cons (.tmp rfl) .nil))) rfl rfl ⟨s2200, rfl, rfl⟩
 ·refine aa_op rfl rfl ?_
  refine hv_store_box 1 (cs' := [str x2198.1.From, str x2198.1.To, s2200]) rfl rfl ti76 rfl rfl rfl rfl (allc rfl (allc rfl (allc ho2202 rfl))) ?_
  refine aa_all (rs := [2]) (by kernel_rfl) rfl (ts_out rfl) (List.forall_mem_singleton.2 ?_)
  refine aa_op rfl rfl (hv_lt (lt_load_box 0 rfl ti9 rfl rfl rfl rfl rfl) rfl ?_)
  refine aa_all (rs := [5]) (by kernel_rfl) rfl (ts_out rfl) (List.forall_mem_singleton.2 ?_)
  refine aa_op rfl rfl (hv_lt (lt_assign rfl) rfl ?_)
  refine aa_all (rs := [6]) (by kernel_rfl) rfl (ts_out rfl) (List.forall_mem_singleton.2 ?_)
  refine aa_op rfl rfl (hv_lt (lt_assign rfl) rfl ?_)
  refine aa_done (by kernel_rfl) (ts_out rfl) ?_
  refine at_then (at_ret ?_)
  have hq := oinj hr
  clear hr
  subst hq
  refine at_derive [0, 1, 2] (ty76.fact (⟨x2198.1.From, x2198.1.To, x2198.1.Codes⟩ : D_crosswalk_Entry) [str x2198.1.From, str x2198.1.To, s2200]) rfl (fun F w h => mk76 (x := (⟨x2198.1.From, x2198.1.To, x2198.1.Codes⟩ : D_crosswalk_Entry)) h) ?_
  exact at_return (.tuple #[.agg #[str x2198.1.From, str x2198.1.To, s2200], str x2198.1.From, .bool x2198.2]) [0, 1] hS Tryz.results45 (.cons (.cell 1 rfl ti76 rfl rfl rfl rfl) (.cons (.tmp rfl) (.cons (.tmp rfl) .nil))) rfl rfl ⟨s2200, rfl, rfl⟩
def m16 (a0 : (List D_crosswalk_Entry)) (a1 : D_api_Record) : Option (D_api_Record × Int) :=
  (m41 a0 (⟨a1.ID, a1.Fields⟩ : D_api_Record) (fun y0 => m45 y0 a0) m47).bind fun x2211 =>
  some ((⟨x2211.1.ID, x2211.1.Fields⟩ : D_api_Record), x2211.2)
def post16 (r : (D_api_Record × Int)) (v : Value) (fs : List Fact) : Prop := ∃ s2218 : Value, v = .tuple #[.agg #[.int .i64 r.1.ID, s2218], .int .i64 r.2] ∧ fs = [(ty25.fact r.1 [.int .i64 r.1.ID, s2218]), ((Ty.int .i64).fact r.2 [.int .i64 r.2])]
theorem en16 : Enters Tryz.prog 16 := ⟨_, Tryz.func16, by kernel_rfl, rfl⟩
theorem f16_spec {a0 : (List D_crosswalk_Entry)} {a1 : D_api_Record} {w2204 : Value} {s2205 : Value} {r : (D_api_Record × Int)} (hr : m16 a0 a1 = some r) : Spec Tryz.prog 16 [w2204, .agg #[.int .i64 a1.ID, s2205]] [((Ty.slice ty76).fact a0 [w2204]), (ty25.fact a1 [.int .i64 a1.ID, s2205]), (utf8F 1 2)] (post16 r) := by
 refine spec_start (N := 12) Tryz.func16 (by kernel_rfl) rfl rfl rfl ?_
 intro g hS
 unfold m16 at hr
 refine at_open (A := Unit) 1 rfl (fun _ => True) (fun _ => [((Ty.int .i64).fact a1.ID [.int .i64 a1.ID]), ((Ty.slice ty69).fact a1.Fields [s2205])]) (fun F w h => ⟨(), trivial, ex25 h⟩) (fun _ _ => ?_)
 refine at_inv 0 rfl (fun l2206 => ?_)
 replace l2206 : (-9223372036854775808) ≤ a1.ID ∧ a1.ID ≤ 9223372036854775807 := l2206
 refine s_sr ?_
 refine at_one 2 rfl (fun ho2208 => ?_)
 refine at_hv rfl ?_
 refine hv_box (cs := [w2204]) rfl (cells_one ho2208) rfl (fun b2207 => ?_)
 refine at_hv rfl ?_
 refine hv_box (cs := [.int .i64 a1.ID, s2205]) rfl rfl rfl (fun b2209 => ?_)
 refine at_hv rfl ?_
 refine hv_alloc (cs := [.int .i64 0, (.slice none 0 0)]) ti25 rfl rfl (fun b2210 => ?_)
 refine s_as rfl (s_ntsr (at_lt (lt_load_box 2 rfl ti34 rfl rfl rfl rfl rfl) rfl (at_lt (lt_load_box 1 rfl ti25 rfl rfl rfl rfl rfl) rfl (at_lt (lt_makeFunc rfl) rfl ?_))))
 replace hr := obind hr
 obtain ⟨x2211, h2212, hr⟩ := hr
 refine at_freeze 2 rfl ?_
 refine at_fn 45 [.pointer (some (Addr.add ⟨b2207, 0, none⟩ 0))] [0, 3] (sp79 (fun y0 => m45 y0 a0)) en45 rfl (by rintro _ _ _ ⟨a0, r, h, rfl, rfl, rfl⟩; exact f45_spec h) ?_
 refine at_fn 47 [] [] (sp80 m47) en47 rfl (by rintro _ _ _ ⟨a0, a1, r, s2214, h, rfl, rfl, rfl⟩; exact f47_spec h) ?_
 refine at_derive [3, 4] (ty25.fact (⟨a1.ID, a1.Fields⟩ : D_api_Record) [.int .i64 a1.ID, s2205]) rfl (fun F w h => mk25 (x := (⟨a1.ID, a1.Fields⟩ : D_api_Record)) h) ?_
 refine at_hv rfl (hv_call0 [6, 0, 2, 1, 8] (f41_spec h2212) rfl rfl rfl rfl ?_)
 rintro _ _ ⟨s2213, rfl, rfl⟩
 refine at_open (A := Unit) 0 rfl (fun _ => True) (fun _ => [((Ty.int .i64).fact x2211.1.ID [.int .i64 x2211.1.ID]), ((Ty.slice ty69).fact x2211.1.Fields [s2213])]) (fun F w h => ⟨(), trivial, ex25 h⟩) (fun _ _ => ?_)
 refine at_inv 0 rfl (fun l2215 => ?_)
 replace l2215 : (-9223372036854775808) ≤ x2211.1.ID ∧ x2211.1.ID ≤ 9223372036854775807 := l2215
 refine at_inv 3 rfl (fun l2216 => ?_)
 replace l2216 : (-9223372036854775808) ≤ x2211.2 ∧ x2211.2 ≤ 9223372036854775807 := l2216
 refine at_lt (lt_extract rfl rfl) rfl (at_lt (lt_extract rfl rfl) rfl ?_)
 refine at_one 1 rfl (fun ho2217 => ?_)
 refine at_hv rfl (hv_store_box 0 (cs' := [.int .i64 x2211.1.ID, s2213]) rfl rfl ti25 rfl rfl rfl rfl (allc rfl (allc ho2217 rfl)) (s_as rfl (s_nt (at_ret ?_))))
 have hq := oinj hr
 clear hr
 subst hq
 refine at_derive [0, 1] (ty25.fact (⟨x2211.1.ID, x2211.1.Fields⟩ : D_api_Record) [.int .i64 x2211.1.ID, s2213]) rfl (fun F w h => mk25 (x := (⟨x2211.1.ID, x2211.1.Fields⟩ : D_api_Record)) h) ?_
 exact at_return (.tuple #[.agg #[.int .i64 x2211.1.ID, s2213], .int .i64 x2211.2]) [0, 4] hS Tryz.results16 (.cons (.cell 0 rfl ti25 rfl rfl rfl rfl) (.cons (.tmp rfl) .nil)) rfl rfl ⟨s2213, rfl, rfl⟩
def m58_l2 (a0 : (List D_ref16_Entry)) (a2 : Bool) (x2245 : D_api_Field) (x2252 : Int) : Nat → Nat → (List D_api_Sub) → Option (List D_api_Sub)
  | 0, _, _ => none
  | k + 1, x2271, x2272 =>
    if x2271 < x2245.Subs.length then
     (at? a0 x2252).bind fun x2285 =>
     (x2245.Subs[x2271]?).bind fun x2290 =>
     (m40 x2285.Codes x2290.Code a2).bind fun x2294 =>
     Option.bind (α := (List D_api_Sub)) (
      if x2294.toNat = 0 then
       some x2272
      else
       (x2245.Subs[x2271]?).bind fun x2302 =>
       if x2272.length + 1 ≤ 5864062014805 then
        some (x2272 ++ [(⟨x2294, x2302.Value⟩ : D_api_Sub)])
       else none
     ) fun x2296 =>
     m58_l2 a0 a2 x2245 x2252 k (x2271 + 1) x2296
    else
     some x2272
def m58_l1 (a0 : (List D_ref16_Entry)) (a1 : D_api_Record) (a2 : Bool) : Nat → Nat → (List D_api_Field) → Option (List D_api_Field)
  | 0, _, _ => none
  | k + 1, x2231, x2232 =>
    if x2231 < a1.Fields.length then
     (a1.Fields[x2231]?).bind fun x2245 =>
     (m39 a0 x2245.Tag a2).bind fun x2252 =>
     if x2252 < 0 then
      m58_l1 a0 a1 a2 k (x2231 + 1) x2232
     else
      (at? a0 x2252).bind fun x2256 =>
      Option.bind (α := Str) (
       if a2 = true then
        (at? a0 x2252).bind fun x2266 =>
        some x2266.From
       else
        some x2256.To
      ) fun x2263 =>
      (m58_l2 a0 a2 x2245 x2252 (x2245.Subs.length + 1) 0 ([] : (List D_api_Sub))).bind fun x2276 =>
      Option.bind (α := (List D_api_Field)) (
       if 0 < x2276.length then
        if x2232.length + 1 ≤ 2932031007402 then
         some (x2232 ++ [(⟨x2263, x2245.Ind_0, x2245.Ind_1, x2276⟩ : D_api_Field)])
        else none
       else
        some x2232
      ) fun x2317 =>
      m58_l1 a0 a1 a2 k (x2231 + 1) x2317
    else
     some x2232
def m58 (a0 : (List D_ref16_Entry)) (a1 : D_api_Record) (a2 : Bool) : Option (D_api_Record × Int) :=
  (m24 a0).bind fun x2224 =>
  if x2224 = true then
   (m25 (⟨a1.ID, a1.Fields⟩ : D_api_Record)).bind fun x2227 =>
   if x2227 = true then
    (m58_l1 a0 a1 a2 (a1.Fields.length + 1) 0 ([] : (List D_api_Field))).bind fun x2236 =>
    if x2236.length = 0 then
     some ((⟨0, ([] : (List D_api_Field))⟩ : D_api_Record), 9)
    else
     (m38 (⟨a1.ID, x2236⟩ : D_api_Record)).bind fun x2333 =>
     some ((⟨x2333.ID, x2333.Fields⟩ : D_api_Record), 0)
   else
    some ((⟨0, ([] : (List D_api_Field))⟩ : D_api_Record), 1)
  else
   some ((⟨0, ([] : (List D_api_Field))⟩ : D_api_Record), 1)
def post58 (r : (D_api_Record × Int)) (v : Value) (fs : List Fact) : Prop := ∃ s2339 : Value, v = .tuple #[.agg #[.int .i64 r.1.ID, s2339], .int .i64 r.2] ∧ fs = [(ty25.fact r.1 [.int .i64 r.1.ID, s2339]), ((Ty.int .i64).fact r.2 [.int .i64 r.2])]
theorem en58 : Enters Tryz.prog 58 := ⟨_, Tryz.func58, by kernel_rfl, rfl⟩
theorem f58_spec {a0 : (List D_ref16_Entry)} {a1 : D_api_Record} {a2 : Bool} {w2219 : Value} {s2220 : Value} {r : (D_api_Record × Int)} (hr : m58 a0 a1 a2 = some r) : Spec Tryz.prog 58 [w2219, .agg #[.int .i64 a1.ID, s2220], .bool a2] [((Ty.slice ty50).fact a0 [w2219]), (ty25.fact a1 [.int .i64 a1.ID, s2220])] (post58 r) := by
 refine spec_start (N := 113) Tryz.func58 (by kernel_rfl) rfl rfl rfl ?_
 intro g hS
 unfold m58 at hr
 refine at_open (A := Unit) 1 rfl (fun _ => True) (fun _ => [((Ty.int .i64).fact a1.ID [.int .i64 a1.ID]), ((Ty.slice ty69).fact a1.Fields [s2220])]) (fun F w h => ⟨(), trivial, ex25 h⟩) (fun _ _ => ?_)
 refine at_inv 0 rfl (fun l2221 => ?_)
 replace l2221 : (-9223372036854775808) ≤ a1.ID ∧ a1.ID ≤ 9223372036854775807 := l2221
 refine s_sr (at_hv rfl ?_)
 refine hv_box (cs := [.int .i64 a1.ID, s2220]) rfl rfl rfl (fun b2222 => ?_)
 refine at_hv rfl ?_
 refine hv_alloc (cs := [.int .i64 0, (.slice none 0 0)]) ti25 rfl rfl (fun b2223 => ?_)
 refine s_as rfl (s_nt (at_seq (s_sr (s_mv rfl ?_))))
 replace hr := obind hr
 obtain ⟨x2224, h2225, hr⟩ := hr
 refine at_hv rfl (hv_call0 [2] (f24_spec h2225) rfl rfl rfl rfl ?_)
 rintro _ _ ⟨rfl, rfl⟩
 refine at_lt (lt_not rfl) rfl (s_mv rfl ?_)
 by_cases h2226 : x2224 = true
 ·replace hr := ipos h2226 hr
  refine at_on rfl rfl (nt h2226) (at_lt (lt_load_box 1 rfl ti25 rfl rfl rfl rfl rfl) rfl ?_)
  replace hr := obind hr
  obtain ⟨x2227, h2228, hr⟩ := hr
  refine at_derive [0, 1] (ty25.fact (⟨a1.ID, a1.Fields⟩ : D_api_Record) [.int .i64 a1.ID, s2220]) rfl (fun F w h => mk25 (x := (⟨a1.ID, a1.Fields⟩ : D_api_Record)) h) ?_
  refine at_on rfl rfl (nt h2226) (at_hv rfl (hv_call0 [0] (f25_spec h2228) rfl rfl rfl rfl ?_))
  rintro _ _ ⟨rfl, rfl⟩
  refine at_on rfl rfl (nt h2226) (at_lt (lt_not rfl) rfl (at_lt (lt_pick false rfl (nt h2226) rfl) rfl (s_nt ?_)))
  by_cases h2229 : x2227 = true
  ·replace hr := ipos h2229 hr
   refine at_false rfl (nt h2229) (at_skip (s_tsr (at_lt (lt_fieldAddr 0 rfl fld25_0 rfl) rfl (at_lt (lt_load_box 1 rfl ti3 rfl rfl rfl rfl rfl) rfl (at_lt (lt_build (cs := [.int .i64 a1.ID, (.slice none 0 0)]) rfl ti25 pl25 rfl) rfl (at_hv rfl ?_))))))
   refine hv_alloc (cs := [.int .i64 0, (.slice none 0 0)]) ti25 rfl rfl (fun b2230 => ?_)
   refine at_hv rfl (hv_store_box 0 (cs' := [.int .i64 a1.ID, (.slice none 0 0)]) rfl rfl ti25 rfl rfl rfl rfl rfl (s_nt (at_seq (s_sr (s_as rfl (s_nt (at_int .i64 0 (by simp only [lo, hi]; omega) (at_rownew none 69 4 (at_rownil ty69 ?_)))))))))
   refine at_mkpure (q := (([] : (List D_api_Field)).length * ty69.bytes ≤ 140737488355328)) (by simp only [List.nil_append, List.cons_append, List.length_cons, List.length_nil, ty69_bytes] <;> omega) ?_
   replace hr := obind hr
   obtain ⟨x2236, hl2240, hr⟩ := hr
   refine at_cut (V := Value × Nat × (List Value)) (fun e => (⟨[(6, .pointer (some (Addr.add ⟨b2223, 0, none⟩ 0))), (8, .pointer (some (Addr.add ⟨b2230, 0, none⟩ 0)))], [⟨b2230, [.int .i64 a1.ID, e.1], 25⟩, ⟨b2223, [.int .i64 0, (.slice none 0 0)], 25⟩], [⟨e.1, 69, 4, e.2.1, e.2.2⟩], [(ty69.row x2236 e.2.2), (pureF (x2236.length * ty69.bytes ≤ 140737488355328)), ((Ty.int .i64).fact a1.ID [.int .i64 a1.ID])]⟩ : St)) ?_ ?_
   ·refine at_block ?_
    refine at_loopW (σ := (Nat × (List D_api_Field))) (V := Value × Nat × (List Value)) (r := x2236) (fun n s => m58_l1 a0 a1 a2 n s.1 s.2) (fun s e => (⟨[(0, w2219), (2, .bool a2), (4, .pointer (some (Addr.add ⟨b2222, 0, none⟩ 0))), (6, .pointer (some (Addr.add ⟨b2223, 0, none⟩ 0))), (8, .pointer (some (Addr.add ⟨b2230, 0, none⟩ 0))), (9, .int .i64 (s.1 : Int))], [⟨b2230, [.int .i64 a1.ID, e.1], 25⟩, ⟨b2223, [.int .i64 0, (.slice none 0 0)], 25⟩, ⟨b2222, [.int .i64 a1.ID, s2220], 25⟩], [⟨e.1, 69, 4, e.2.1, e.2.2⟩], [((Ty.int .i64).fact (s.1 : Int) [.int .i64 (s.1 : Int)]), (ty69.row s.2 e.2.2), (pureF (s.2.length * ty69.bytes ≤ 140737488355328)), ((Ty.slice ty50).fact a0 [w2219]), ((Ty.int .i64).fact a1.ID [.int .i64 a1.ID]), ((Ty.slice ty69).fact a1.Fields [s2220])]⟩ : St)) (fun _ => rfl) _ (0, ([] : (List D_api_Field))) ((.slice none 0 0), 0, []) hl2240 ⟨⟨rfl, ⟨rfl, ⟨rfl, ⟨rfl, ⟨rfl, ⟨rfl, trivial⟩⟩⟩⟩⟩⟩, ⟨[true, true, true], rfl⟩, ⟨[true], rfl⟩, ⟨[2, 1, 0, 6, 4, 5], rfl⟩⟩ ?_
    clear hr hl2240
    intro n s hr e
    obtain ⟨x2231, x2232⟩ := s
    obtain ⟨v2233, n2234, i2235⟩ := e
    change m58_l1 a0 a1 a2 (n + 1) x2231 x2232 = some x2236 at hr
    change At _ _ (⟨[(0, w2219), (2, .bool a2), (4, .pointer (some (Addr.add ⟨b2222, 0, none⟩ 0))), (6, .pointer (some (Addr.add ⟨b2223, 0, none⟩ 0))), (8, .pointer (some (Addr.add ⟨b2230, 0, none⟩ 0))), (9, .int .i64 (x2231 : Int))], [⟨b2230, [.int .i64 a1.ID, v2233], 25⟩, ⟨b2223, [.int .i64 0, (.slice none 0 0)], 25⟩, ⟨b2222, [.int .i64 a1.ID, s2220], 25⟩], [⟨v2233, 69, 4, n2234, i2235⟩], [((Ty.int .i64).fact (x2231 : Int) [.int .i64 (x2231 : Int)]), (ty69.row x2232 i2235), (pureF (x2232.length * ty69.bytes ≤ 140737488355328)), ((Ty.slice ty50).fact a0 [w2219]), ((Ty.int .i64).fact a1.ID [.int .i64 a1.ID]), ((Ty.slice ty69).fact a1.Fields [s2220])]⟩ : St) _
    rw [m58_l1] at hr
    refine at_seq (s_sr (s_mv rfl (at_lt (lt_fieldAddr 1 rfl fld25_1 rfl) rfl (at_lt (lt_load_box 2 rfl ti23 rfl rfl rfl rfl rfl) rfl ?_))))
    refine at_inv 5 rfl (fun i2242 => ?_)
    have l2243 := slice_len i2242
    refine at_lt (lt_flen 5 rfl rfl und23) rfl (at_lt (lt_lss rfl rfl) rfl (s_nt ?_))
    by_cases h2244 : x2231 < a1.Fields.length
    ·replace hr := ipos h2244 hr
     refine at_true rfl (decide_eq_true (by omega)) ?_
     refine at_skip (at_then (at_seq (at_block (s_sr (at_lt (lt_fieldAddr 1 rfl fld25_1 rfl) rfl (at_lt (lt_load_box 2 rfl ti23 rfl rfl rfl rfl rfl) rfl (s_mv rfl ?_)))))))
     replace hr := obind hr
     obtain ⟨x2245, h2246, hr⟩ := hr
     have := (List.getElem?_eq_some_iff.1 h2246).1
     refine at_elem 5 rfl (nat_at' h2246) (fun p2248 ec pa2249 => ?_)
     refine at_open (A := Value) 0 rfl _ _ (fun F w h => op69 h) ?_
     rintro s2247 rfl
     refine at_lt (lt_idx rfl rfl pa2249 und23 ti69) rfl (at_lt (lt_load_peek 3 rfl ti69 rfl rfl rfl rfl rfl) rfl (at_hv rfl ?_))
     refine hv_alloc (cs := [str ([] : Str), .int .u8 0, .int .u8 0, (.slice none 0 0)]) ti69 rfl rfl (fun b2250 => ?_)
     refine at_one 1 rfl (fun ho2251 => ?_)
     refine at_hv rfl (hv_store_box 0 (cs' := [str x2245.Tag, .int .u8 (x2245.Ind_0.toNat : Int), .int .u8 (x2245.Ind_1.toNat : Int), s2247]) rfl rfl ti69 rfl rfl rfl rfl (allc rfl (allc rfl (allc rfl (allc ho2251 rfl)))) (s_ntsr (s_mv rfl (at_lt (lt_fieldAddr 0 rfl fld69_0 rfl) rfl (at_lt (lt_load_box 0 rfl ti9 rfl rfl rfl rfl rfl) rfl (s_mv rfl ?_))))))
     replace hr := obind hr
     obtain ⟨x2252, h2253, hr⟩ := hr
     refine at_hv rfl (hv_call0 [7, 0] (f39_spec h2253) rfl rfl rfl rfl ?_)
     rintro _ _ ⟨rfl, rfl⟩
     refine at_inv 0 rfl (fun l2254 => ?_)
     replace l2254 : (-9223372036854775808) ≤ x2252 ∧ x2252 ≤ 9223372036854775807 := l2254
     refine s_as rfl (s_nt (at_seq (s_sr (s_mv rfl (at_lt (lt_lss rfl rfl) rfl (s_nt ?_))))))
     by_cases h2255 : x2252 < 0
     ·replace hr := ipos h2255 hr
      refine at_true rfl (decide_eq_true (by first | exact h2255 | omega)) ?_
      refine at_exit (at_then_exit (at_in_exit (s_tr (s_mv rfl (at_lt (lt_add rfl rfl (by simp only [lo, hi]; omega)) rfl (s_as rfl (at_nil (at_int .i64 (x2231 + 1 : Int) (by simp only [lo, hi]; omega) ?_))))))))
      exact at_again (σ := (Nat × (List D_api_Field))) (V := Value × Nat × (List Value)) (lp := fun n s => m58_l1 a0 a1 a2 n s.1 s.2) (S := fun s e => (⟨[(0, w2219), (2, .bool a2), (4, .pointer (some (Addr.add ⟨b2222, 0, none⟩ 0))), (6, .pointer (some (Addr.add ⟨b2223, 0, none⟩ 0))), (8, .pointer (some (Addr.add ⟨b2230, 0, none⟩ 0))), (9, .int .i64 (s.1 : Int))], [⟨b2230, [.int .i64 a1.ID, e.1], 25⟩, ⟨b2223, [.int .i64 0, (.slice none 0 0)], 25⟩, ⟨b2222, [.int .i64 a1.ID, s2220], 25⟩], [⟨e.1, 69, 4, e.2.1, e.2.2⟩], [((Ty.int .i64).fact (s.1 : Int) [.int .i64 (s.1 : Int)]), (ty69.row s.2 e.2.2), (pureF (s.2.length * ty69.bytes ≤ 140737488355328)), ((Ty.slice ty50).fact a0 [w2219]), ((Ty.int .i64).fact a1.ID [.int .i64 a1.ID]), ((Ty.slice ty69).fact a1.Fields [s2220])]⟩ : St)) (x2231 + 1, x2232) (v2233, n2234, i2235) hr ⟨⟨rfl, ⟨rfl, ⟨rfl, ⟨rfl, ⟨rfl, ⟨rfl, trivial⟩⟩⟩⟩⟩⟩, ⟨[false, true, true, true], rfl⟩, ⟨[true], rfl⟩, ⟨[0, 7, 8, 9, 10, 11], rfl⟩⟩
     replace hr := ineg h2255 hr
     refine at_false rfl (decide_eq_false (by first | exact h2255 | omega)) ?_
     refine at_skip (at_then (at_seq ?_))
     replace hr := obind hr
     obtain ⟨x2256, h2257, hr⟩ := hr
     have := at?_lt h2257
     refine at_elem 8 rfl h2257 (fun p2259 ec pa2260 => ?_)
     refine at_open (A := Value) 0 rfl _ _ (fun F w h => op50 h) ?_
     rintro s2258 rfl
     refine aa_start 10 (by kernel_rfl) ?_
     refine aa_p 0 rfl (lt_move rfl) (aa_p 1 rfl (lt_move rfl) (aa_p 2 rfl (lt_idx rfl rfl pa2260 und22 ti50) (aa_p 3 rfl (lt_fieldAddr 1 rfl fld50_1 rfl) (aa_l 4 rfl (lt_load_peek 4 rfl ti9 rfl rfl rfl rfl rfl) (aa_p 5 rfl (lt_fieldAddr 1 rfl fld69_1 rfl) (aa_l 6 rfl (lt_load_box 0 rfl ti64 rfl rfl rfl rfl rfl) (aa_p 7 rfl (lt_build (cs := [str x2256.To, .int .u8 (x2245.Ind_0.toNat : Int), .int .u8 (x2245.Ind_1.toNat : Int), (.slice none 0 0)]) rfl ti69 pl69 rfl) (aa_one 8 (aa_op rfl rfl ?_)))))))))
     refine hv_alloc (cs := [str ([] : Str), .int .u8 0, .int .u8 0, (.slice none 0 0)]) ti69 rfl rfl (fun b2262 => ?_)
     refine aa_all (rs := [9]) (by kernel_rfl) rfl (ts_in 1 0 rfl rfl) (List.forall_mem_singleton.2 ?_)
     refine aa_op rfl rfl (hv_store_box 0 (cs' := [str x2256.To, .int .u8 (x2245.Ind_0.toNat : Int), .int .u8 (x2245.Ind_1.toNat : Int), (.slice none 0 0)]) rfl rfl ti69 rfl rfl rfl rfl rfl ?_)
     refine aa_done (by kernel_rfl) (ts_in 1 0 rfl rfl) ?_
     refine at_then (at_seq (s_sr (s_mv rfl (s_nt ?_))))
     replace hr := obind hr
     obtain ⟨x2263, hc2264, hr⟩ := hr
     refine at_cut (V := Unit) (fun e => (⟨[(0, w2219), (2, .bool a2), (4, .pointer (some (Addr.add ⟨b2222, 0, none⟩ 0))), (6, .pointer (some (Addr.add ⟨b2223, 0, none⟩ 0))), (8, .pointer (some (Addr.add ⟨b2230, 0, none⟩ 0))), (9, .int .i64 (x2231 : Int)), (10, .pointer (some (Addr.add ⟨b2250, 0, none⟩ 0))), (11, .int .i64 x2252), (12, .pointer (some (Addr.add ⟨b2262, 0, none⟩ 0)))], [⟨b2262, [str x2263, .int .u8 (x2245.Ind_0.toNat : Int), .int .u8 (x2245.Ind_1.toNat : Int), (.slice none 0 0)], 69⟩, ⟨b2250, [str x2245.Tag, .int .u8 (x2245.Ind_0.toNat : Int), .int .u8 (x2245.Ind_1.toNat : Int), s2247], 69⟩, ⟨b2230, [.int .i64 a1.ID, v2233], 25⟩, ⟨b2223, [.int .i64 0, (.slice none 0 0)], 25⟩, ⟨b2222, [.int .i64 a1.ID, s2220], 25⟩], [⟨v2233, 69, 4, n2234, i2235⟩], [(Ty.str.fact x2263 [str x2263]), ((Ty.slice ty50).fact a0 [w2219]), ((Ty.int .i64).fact (x2231 : Int) [.int .i64 (x2231 : Int)]), ((Ty.int .i64).fact x2252 [.int .i64 x2252]), (Ty.str.fact x2245.Tag [str x2245.Tag]), ((Ty.slice ty66).fact x2245.Subs [s2247]), ((Ty.int .i64).fact a1.ID [.int .i64 a1.ID]), ((Ty.slice ty69).fact a1.Fields [s2220]), (ty69.row x2232 i2235), (pureF (x2232.length * ty69.bytes ≤ 140737488355328))]⟩ : St)) ?_ ?_
     ·clear hr
      have hr := hc2264
      clear hc2264
      by_cases h2265 : a2 = true
      ·replace hr := ipos h2265 hr
       refine at_true rfl h2265 (at_region (s_mv rfl (s_mv rfl ?_)))
       replace hr := obind hr
       obtain ⟨x2266, h2267, hr⟩ := hr
       have := at?_lt h2267
       refine at_elem 13 rfl h2267 (fun p2269 ec pa2270 => ?_)
       refine at_open (A := Value) 0 rfl _ _ (fun F w h => op50 h) ?_
       rintro s2268 rfl
       refine at_lt (lt_idx rfl rfl pa2270 und22 ti50) rfl (at_lt (lt_fieldAddr 0 rfl fld50_0 rfl) rfl (at_lt (lt_load_peek 4 rfl ti9 rfl rfl rfl rfl rfl) rfl (at_lt (lt_fieldAddr 0 rfl fld69_0 rfl) rfl (at_hv rfl (hv_store_box 0 (cs' := [str x2266.From, .int .u8 (x2245.Ind_0.toNat : Int), .int .u8 (x2245.Ind_1.toNat : Int), (.slice none 0 0)]) rfl rfl ti9 rfl rfl rfl rfl rfl (at_nil ?_))))))
       have hq := oinj hr
       clear hr
       subst hq
       exact at_leaf () ⟨⟨rfl, ⟨rfl, ⟨rfl, ⟨rfl, ⟨rfl, ⟨rfl, ⟨rfl, ⟨rfl, ⟨rfl, trivial⟩⟩⟩⟩⟩⟩⟩⟩⟩, ⟨[true, true, true, true, true], rfl⟩, ⟨[true], rfl⟩, ⟨[0, 18, 15, 10, 11, 12, 19, 20, 16, 17], rfl⟩⟩
      replace hr := ineg h2265 hr
      refine at_false rfl (bf h2265) (at_skip ?_)
      have hq := oinj hr
      clear hr
      subst hq
      exact at_leaf () ⟨⟨rfl, ⟨rfl, ⟨rfl, ⟨rfl, ⟨rfl, ⟨rfl, ⟨rfl, ⟨rfl, ⟨rfl, trivial⟩⟩⟩⟩⟩⟩⟩⟩⟩, ⟨[true, true, true, true, true], rfl⟩, ⟨[true], rfl⟩, ⟨[1, 13, 10, 5, 6, 7, 14, 15, 11, 12], rfl⟩⟩
     clear hc2264
     intro _
     change At _ _ (⟨[(0, w2219), (2, .bool a2), (4, .pointer (some (Addr.add ⟨b2222, 0, none⟩ 0))), (6, .pointer (some (Addr.add ⟨b2223, 0, none⟩ 0))), (8, .pointer (some (Addr.add ⟨b2230, 0, none⟩ 0))), (9, .int .i64 (x2231 : Int)), (10, .pointer (some (Addr.add ⟨b2250, 0, none⟩ 0))), (11, .int .i64 x2252), (12, .pointer (some (Addr.add ⟨b2262, 0, none⟩ 0)))], [⟨b2262, [str x2263, .int .u8 (x2245.Ind_0.toNat : Int), .int .u8 (x2245.Ind_1.toNat : Int), (.slice none 0 0)], 69⟩, ⟨b2250, [str x2245.Tag, .int .u8 (x2245.Ind_0.toNat : Int), .int .u8 (x2245.Ind_1.toNat : Int), s2247], 69⟩, ⟨b2230, [.int .i64 a1.ID, v2233], 25⟩, ⟨b2223, [.int .i64 0, (.slice none 0 0)], 25⟩, ⟨b2222, [.int .i64 a1.ID, s2220], 25⟩], [⟨v2233, 69, 4, n2234, i2235⟩], [(Ty.str.fact x2263 [str x2263]), ((Ty.slice ty50).fact a0 [w2219]), ((Ty.int .i64).fact (x2231 : Int) [.int .i64 (x2231 : Int)]), ((Ty.int .i64).fact x2252 [.int .i64 x2252]), (Ty.str.fact x2245.Tag [str x2245.Tag]), ((Ty.slice ty66).fact x2245.Subs [s2247]), ((Ty.int .i64).fact a1.ID [.int .i64 a1.ID]), ((Ty.slice ty69).fact a1.Fields [s2220]), (ty69.row x2232 i2235), (pureF (x2232.length * ty69.bytes ≤ 140737488355328))]⟩ : St) _
     refine at_then (at_seq (s_sr (s_as rfl (s_nt (at_int .i64 0 (by simp only [lo, hi]; omega) (at_rownew none 66 2 (at_rownil ty66 ?_)))))))
     refine at_mkpure (q := (([] : (List D_api_Sub)).length * ty66.bytes ≤ 140737488355328)) (by simp only [List.nil_append, List.cons_append, List.length_cons, List.length_nil, ty66_bytes] <;> omega) ?_
     replace hr := obind hr
     obtain ⟨x2276, hl2280, hr⟩ := hr
     refine at_cut (V := Value × Nat × (List Value)) (fun e => (⟨[(0, w2219), (2, .bool a2), (4, .pointer (some (Addr.add ⟨b2222, 0, none⟩ 0))), (6, .pointer (some (Addr.add ⟨b2223, 0, none⟩ 0))), (8, .pointer (some (Addr.add ⟨b2230, 0, none⟩ 0))), (9, .int .i64 (x2231 : Int)), (12, .pointer (some (Addr.add ⟨b2262, 0, none⟩ 0)))], [⟨b2262, [str x2263, .int .u8 (x2245.Ind_0.toNat : Int), .int .u8 (x2245.Ind_1.toNat : Int), e.1], 69⟩, ⟨b2230, [.int .i64 a1.ID, v2233], 25⟩, ⟨b2223, [.int .i64 0, (.slice none 0 0)], 25⟩, ⟨b2222, [.int .i64 a1.ID, s2220], 25⟩], [⟨e.1, 66, 2, e.2.1, e.2.2⟩, ⟨v2233, 69, 4, n2234, i2235⟩], [(ty66.row x2276 e.2.2), (pureF (x2276.length * ty66.bytes ≤ 140737488355328)), ((Ty.slice ty50).fact a0 [w2219]), ((Ty.int .i64).fact (x2231 : Int) [.int .i64 (x2231 : Int)]), (Ty.str.fact x2263 [str x2263]), ((Ty.int .i64).fact a1.ID [.int .i64 a1.ID]), ((Ty.slice ty69).fact a1.Fields [s2220]), (ty69.row x2232 i2235), (pureF (x2232.length * ty69.bytes ≤ 140737488355328))]⟩ : St)) ?_ ?_
     ·refine at_block ?_
      refine at_loopW (σ := (Nat × (List D_api_Sub))) (V := Value × Nat × (List Value)) (r := x2276) (fun n s => m58_l2 a0 a2 x2245 x2252 n s.1 s.2) (fun s e => (⟨[(0, w2219), (2, .bool a2), (4, .pointer (some (Addr.add ⟨b2222, 0, none⟩ 0))), (6, .pointer (some (Addr.add ⟨b2223, 0, none⟩ 0))), (8, .pointer (some (Addr.add ⟨b2230, 0, none⟩ 0))), (9, .int .i64 (x2231 : Int)), (10, .pointer (some (Addr.add ⟨b2250, 0, none⟩ 0))), (11, .int .i64 x2252), (12, .pointer (some (Addr.add ⟨b2262, 0, none⟩ 0))), (13, .int .i64 (s.1 : Int))], [⟨b2262, [str x2263, .int .u8 (x2245.Ind_0.toNat : Int), .int .u8 (x2245.Ind_1.toNat : Int), e.1], 69⟩, ⟨b2250, [str x2245.Tag, .int .u8 (x2245.Ind_0.toNat : Int), .int .u8 (x2245.Ind_1.toNat : Int), s2247], 69⟩, ⟨b2230, [.int .i64 a1.ID, v2233], 25⟩, ⟨b2223, [.int .i64 0, (.slice none 0 0)], 25⟩, ⟨b2222, [.int .i64 a1.ID, s2220], 25⟩], [⟨e.1, 66, 2, e.2.1, e.2.2⟩, ⟨v2233, 69, 4, n2234, i2235⟩], [((Ty.int .i64).fact (s.1 : Int) [.int .i64 (s.1 : Int)]), (ty66.row s.2 e.2.2), (pureF (s.2.length * ty66.bytes ≤ 140737488355328)), ((Ty.slice ty50).fact a0 [w2219]), ((Ty.int .i64).fact (x2231 : Int) [.int .i64 (x2231 : Int)]), ((Ty.int .i64).fact x2252 [.int .i64 x2252]), (Ty.str.fact x2245.Tag [str x2245.Tag]), ((Ty.slice ty66).fact x2245.Subs [s2247]), ((Ty.int .i64).fact a1.ID [.int .i64 a1.ID]), ((Ty.slice ty69).fact a1.Fields [s2220]), (Ty.str.fact x2263 [str x2263]), (ty69.row x2232 i2235), (pureF (x2232.length * ty69.bytes ≤ 140737488355328))]⟩ : St)) (fun _ => rfl) _ (0, ([] : (List D_api_Sub))) ((.slice none 0 0), 0, []) hl2280 ⟨⟨rfl, ⟨rfl, ⟨rfl, ⟨rfl, ⟨rfl, ⟨rfl, ⟨rfl, ⟨rfl, ⟨rfl, ⟨rfl, trivial⟩⟩⟩⟩⟩⟩⟩⟩⟩⟩, ⟨[true, true, true, true, true], rfl⟩, ⟨[true, true], rfl⟩, ⟨[2, 1, 0, 4, 5, 6, 7, 8, 9, 10, 3, 11, 12], rfl⟩⟩ ?_
      clear hr hl2280
      intro n s hr e
      obtain ⟨x2271, x2272⟩ := s
      obtain ⟨v2273, n2274, i2275⟩ := e
      change m58_l2 a0 a2 x2245 x2252 (n + 1) x2271 x2272 = some x2276 at hr
      change At _ _ (⟨[(0, w2219), (2, .bool a2), (4, .pointer (some (Addr.add ⟨b2222, 0, none⟩ 0))), (6, .pointer (some (Addr.add ⟨b2223, 0, none⟩ 0))), (8, .pointer (some (Addr.add ⟨b2230, 0, none⟩ 0))), (9, .int .i64 (x2231 : Int)), (10, .pointer (some (Addr.add ⟨b2250, 0, none⟩ 0))), (11, .int .i64 x2252), (12, .pointer (some (Addr.add ⟨b2262, 0, none⟩ 0))), (13, .int .i64 (x2271 : Int))], [⟨b2262, [str x2263, .int .u8 (x2245.Ind_0.toNat : Int), .int .u8 (x2245.Ind_1.toNat : Int), v2273], 69⟩, ⟨b2250, [str x2245.Tag, .int .u8 (x2245.Ind_0.toNat : Int), .int .u8 (x2245.Ind_1.toNat : Int), s2247], 69⟩, ⟨b2230, [.int .i64 a1.ID, v2233], 25⟩, ⟨b2223, [.int .i64 0, (.slice none 0 0)], 25⟩, ⟨b2222, [.int .i64 a1.ID, s2220], 25⟩], [⟨v2273, 66, 2, n2274, i2275⟩, ⟨v2233, 69, 4, n2234, i2235⟩], [((Ty.int .i64).fact (x2271 : Int) [.int .i64 (x2271 : Int)]), (ty66.row x2272 i2275), (pureF (x2272.length * ty66.bytes ≤ 140737488355328)), ((Ty.slice ty50).fact a0 [w2219]), ((Ty.int .i64).fact (x2231 : Int) [.int .i64 (x2231 : Int)]), ((Ty.int .i64).fact x2252 [.int .i64 x2252]), (Ty.str.fact x2245.Tag [str x2245.Tag]), ((Ty.slice ty66).fact x2245.Subs [s2247]), ((Ty.int .i64).fact a1.ID [.int .i64 a1.ID]), ((Ty.slice ty69).fact a1.Fields [s2220]), (Ty.str.fact x2263 [str x2263]), (ty69.row x2232 i2235), (pureF (x2232.length * ty69.bytes ≤ 140737488355328))]⟩ : St) _
      rw [m58_l2] at hr
      refine at_seq (s_sr (s_mv rfl (at_lt (lt_fieldAddr 3 rfl fld69_2 rfl) rfl (at_lt (lt_load_box 1 rfl ti67 rfl rfl rfl rfl rfl) rfl ?_))))
      refine at_inv 7 rfl (fun i2282 => ?_)
      have l2283 := slice_len i2282
      refine at_lt (lt_flen 7 rfl rfl und67) rfl (at_lt (lt_lss rfl rfl) rfl (s_nt ?_))
      by_cases h2284 : x2271 < x2245.Subs.length
      ·replace hr := ipos h2284 hr
       refine at_true rfl (decide_eq_true (by omega)) ?_
       refine at_skip (at_then (at_seq (at_block (at_seq ?_))))
       replace hr := obind hr
       obtain ⟨x2285, h2286, hr⟩ := hr
       have := at?_lt h2286
       refine at_elem 3 rfl h2286 (fun p2288 ec pa2289 => ?_)
       refine at_open (A := Value) 0 rfl _ _ (fun F w h => op50 h) ?_
       rintro s2287 rfl
       replace hr := obind hr
       obtain ⟨x2290, h2291, hr⟩ := hr
       have := (List.getElem?_eq_some_iff.1 h2291).1
       refine at_elem 12 rfl (nat_at' h2291) (fun p2292 ec pa2293 => ?_)
       refine at_open (A := Unit) 0 rfl _ _ (fun F w h => op66 h) ?_
       rintro _ rfl
       replace hr := obind hr
       obtain ⟨x2294, h2295, hr⟩ := hr
       refine aa_start 14 (by kernel_rfl) ?_
       refine aa_p 0 rfl (lt_move rfl) (aa_p 1 rfl (lt_move rfl) (aa_p 2 rfl (lt_idx rfl rfl pa2289 und22 ti50) (aa_p 3 rfl (lt_fieldAddr 2 rfl fld50_2 rfl) (aa_l 4 rfl (lt_load_peek 7 rfl ti48 rfl rfl rfl rfl rfl) (aa_p 5 rfl (lt_fieldAddr 3 rfl fld69_2 rfl) (aa_l 6 rfl (lt_load_box 1 rfl ti67 rfl rfl rfl rfl rfl) (aa_p 7 rfl (lt_move rfl) (aa_p 8 rfl (lt_idx rfl rfl pa2293 und67 ti66) (aa_p 9 rfl (lt_fieldAddr 0 rfl fld66_0 rfl) ?_)))))))))
       refine aa_l 10 rfl (lt_load_peek 2 rfl ti5 rfl rfl rfl rfl rfl) (aa_p 11 rfl (lt_move rfl) (aa_one 12 (aa_op rfl rfl (hv_call0 [5] (f40_spec h2295) rfl rfl rfl rfl ?_))))
       rintro _ _ ⟨rfl, rfl⟩
       refine aa_p 13 rfl (lt_assign rfl) ?_
       refine aa_done (by kernel_rfl) (ts_in 0 0 rfl rfl) ?_
       refine s_tsr (s_mv rfl (at_lt (lt_neq rfl rfl) rfl (s_nt ?_)))
       replace hr := obind hr
       obtain ⟨x2296, hc2300, hr⟩ := hr
       refine at_cut (V := Value × Nat × (List Value)) (fun e => (⟨[(0, w2219), (2, .bool a2), (4, .pointer (some (Addr.add ⟨b2222, 0, none⟩ 0))), (6, .pointer (some (Addr.add ⟨b2223, 0, none⟩ 0))), (8, .pointer (some (Addr.add ⟨b2230, 0, none⟩ 0))), (9, .int .i64 (x2231 : Int)), (10, .pointer (some (Addr.add ⟨b2250, 0, none⟩ 0))), (11, .int .i64 x2252), (12, .pointer (some (Addr.add ⟨b2262, 0, none⟩ 0))), (13, .int .i64 (x2271 : Int))], [⟨b2262, [str x2263, .int .u8 (x2245.Ind_0.toNat : Int), .int .u8 (x2245.Ind_1.toNat : Int), e.1], 69⟩, ⟨b2250, [str x2245.Tag, .int .u8 (x2245.Ind_0.toNat : Int), .int .u8 (x2245.Ind_1.toNat : Int), s2247], 69⟩, ⟨b2230, [.int .i64 a1.ID, v2233], 25⟩, ⟨b2223, [.int .i64 0, (.slice none 0 0)], 25⟩, ⟨b2222, [.int .i64 a1.ID, s2220], 25⟩], [⟨e.1, 66, 2, e.2.1, e.2.2⟩, ⟨v2233, 69, 4, n2234, i2235⟩], [(ty66.row x2296 e.2.2), (pureF (x2296.length * ty66.bytes ≤ 140737488355328)), ((Ty.slice ty50).fact a0 [w2219]), ((Ty.int .i64).fact (x2231 : Int) [.int .i64 (x2231 : Int)]), ((Ty.int .i64).fact x2252 [.int .i64 x2252]), ((Ty.int .i64).fact (x2271 : Int) [.int .i64 (x2271 : Int)]), (Ty.str.fact x2245.Tag [str x2245.Tag]), ((Ty.slice ty66).fact x2245.Subs [s2247]), ((Ty.int .i64).fact a1.ID [.int .i64 a1.ID]), ((Ty.slice ty69).fact a1.Fields [s2220]), (Ty.str.fact x2263 [str x2263]), (ty69.row x2232 i2235), (pureF (x2232.length * ty69.bytes ≤ 140737488355328))]⟩ : St)) ?_ ?_
       ·clear hr
        have hr := hc2300
        clear hc2300
        by_cases h2301 : x2294.toNat = 0
        ·replace hr := ipos h2301 hr
         refine at_false rfl (nt (decide_eq_true (by omega))) ?_
         refine at_skip ?_
         have hq := oinj hr
         clear hr
         subst hq
         exact at_leaf (v2273, n2274, i2275) ⟨⟨rfl, ⟨rfl, ⟨rfl, ⟨rfl, ⟨rfl, ⟨rfl, ⟨rfl, ⟨rfl, ⟨rfl, ⟨rfl, trivial⟩⟩⟩⟩⟩⟩⟩⟩⟩⟩, ⟨[true, true, true, true, true], rfl⟩, ⟨[true, true], rfl⟩, ⟨[9, 10, 11, 12, 13, 8, 14, 15, 16, 17, 18, 19, 20], rfl⟩⟩
        replace hr := ineg h2301 hr
        refine at_true rfl (nf (decide_eq_false (by omega))) ?_
        replace hr := obind hr
        obtain ⟨x2302, h2303, hr⟩ := hr
        have := (List.getElem?_eq_some_iff.1 h2303).1
        refine at_elem 15 rfl (nat_at' h2303) (fun p2304 ec pa2305 => ?_)
        refine at_open (A := Unit) 0 rfl _ _ (fun F w h => op66 h) ?_
        rintro _ rfl
        replace hr := imust hr
        obtain ⟨h2307, hr⟩ := hr
        refine aa_start 13 (by kernel_rfl) ?_
        refine aa_p 0 rfl (lt_fieldAddr 3 rfl fld69_2 rfl) (aa_l 1 rfl (lt_load_box 0 rfl ti67 rfl rfl rfl rfl rfl) (aa_p 2 rfl (lt_move rfl) (aa_p 3 rfl (lt_fieldAddr 3 rfl fld69_2 rfl) (aa_l 4 rfl (lt_load_box 1 rfl ti67 rfl rfl rfl rfl rfl) (aa_p 5 rfl (lt_move rfl) (aa_p 6 rfl (lt_idx rfl rfl pa2305 und67 ti66) (aa_p 7 rfl (lt_fieldAddr 1 rfl fld66_1 rfl) (aa_l 8 rfl (lt_load_peek 2 rfl ti9 rfl rfl rfl rfl rfl) (aa_p 9 rfl (lt_build (cs := [.int .u8 (x2294.toNat : Int), str x2302.Value]) rfl ti66 pl66 rfl) ?_)))))))))
        refine aa_one 10 (aa_op rfl rfl ?_)
        refine hv_bslice (cs := [.int .u8 (x2294.toNat : Int), str x2302.Value]) rfl und67 ti66 rfl rfl rfl rfl rfl (fun s2311 => ?_)
        refine aa_one 11 ?_
        refine at_derive [0] (ty66.fact (⟨x2294, x2302.Value⟩ : D_api_Sub) [.int .u8 (x2294.toNat : Int), str x2302.Value]) rfl (fun F w h => mk66 (x := (⟨x2294, x2302.Value⟩ : D_api_Sub)) h) ?_
        refine at_rown 1 13 rfl rfl rfl (fun hn2313 => ?_)
        refine aa_op rfl rfl ?_
        refine hv_append 1 0 rfl rfl rfl rfl und67 ti66 rfl rfl rfl (by omega) (by omega) rfl (fun s2312 => ?_)
        refine at_rowsnoc 13 0 rfl rfl ?_
        refine aa_pure 12 rfl (by kernel_rfl) rfl rfl (lt_fieldAddr 3 rfl fld69_2 rfl) rfl (ts_in 0 2 rfl rfl) ?_
        refine aa_all (rs := [13]) (by kernel_rfl) rfl (ts_in 0 2 rfl rfl) (List.forall_mem_singleton.2 ?_)
        refine at_rowv 1 rfl (fun ho2314 => ?_)
        replace ho2314 := row_one (by obtain ⟨a, c, h⟩ := ho2314; exact ⟨a, _, c, h⟩)
        refine aa_op rfl rfl (hv_store1 0 (cs' := [str x2263, .int .u8 (x2245.Ind_0.toNat : Int), .int .u8 (x2245.Ind_1.toNat : Int), s2312]) rfl rfl ti67 rfl rfl rfl rfl ho2314 ?_)
        refine aa_done (by kernel_rfl) (ts_out rfl) ?_
        have hq := oinj hr
        clear hr
        subst hq
        refine at_mkpure (q := ((x2272 ++ [(⟨x2294, x2302.Value⟩ : D_api_Sub)]).length * ty66.bytes ≤ 140737488355328)) (by simp only [List.length_append, List.length_cons, List.length_nil, ty66_bytes] <;> omega) ?_
        exact at_leaf (s2312, n2274 + 1, i2275 ++ [.int .u8 (x2294.toNat : Int), str x2302.Value]) ⟨⟨rfl, ⟨rfl, ⟨rfl, ⟨rfl, ⟨rfl, ⟨rfl, ⟨rfl, ⟨rfl, ⟨rfl, ⟨rfl, trivial⟩⟩⟩⟩⟩⟩⟩⟩⟩⟩, ⟨[true, true, true, true, true], rfl⟩, ⟨[false, true, true], rfl⟩, ⟨[1, 0, 17, 18, 19, 14, 20, 21, 22, 23, 24, 25, 26], rfl⟩⟩
       clear hc2300
       intro e
       obtain ⟨v2297, n2298, i2299⟩ := e
       change At _ _ (⟨[(0, w2219), (2, .bool a2), (4, .pointer (some (Addr.add ⟨b2222, 0, none⟩ 0))), (6, .pointer (some (Addr.add ⟨b2223, 0, none⟩ 0))), (8, .pointer (some (Addr.add ⟨b2230, 0, none⟩ 0))), (9, .int .i64 (x2231 : Int)), (10, .pointer (some (Addr.add ⟨b2250, 0, none⟩ 0))), (11, .int .i64 x2252), (12, .pointer (some (Addr.add ⟨b2262, 0, none⟩ 0))), (13, .int .i64 (x2271 : Int))], [⟨b2262, [str x2263, .int .u8 (x2245.Ind_0.toNat : Int), .int .u8 (x2245.Ind_1.toNat : Int), v2297], 69⟩, ⟨b2250, [str x2245.Tag, .int .u8 (x2245.Ind_0.toNat : Int), .int .u8 (x2245.Ind_1.toNat : Int), s2247], 69⟩, ⟨b2230, [.int .i64 a1.ID, v2233], 25⟩, ⟨b2223, [.int .i64 0, (.slice none 0 0)], 25⟩, ⟨b2222, [.int .i64 a1.ID, s2220], 25⟩], [⟨v2297, 66, 2, n2298, i2299⟩, ⟨v2233, 69, 4, n2234, i2235⟩], [(ty66.row x2296 i2299), (pureF (x2296.length * ty66.bytes ≤ 140737488355328)), ((Ty.slice ty50).fact a0 [w2219]), ((Ty.int .i64).fact (x2231 : Int) [.int .i64 (x2231 : Int)]), ((Ty.int .i64).fact x2252 [.int .i64 x2252]), ((Ty.int .i64).fact (x2271 : Int) [.int .i64 (x2271 : Int)]), (Ty.str.fact x2245.Tag [str x2245.Tag]), ((Ty.slice ty66).fact x2245.Subs [s2247]), ((Ty.int .i64).fact a1.ID [.int .i64 a1.ID]), ((Ty.slice ty69).fact a1.Fields [s2220]), (Ty.str.fact x2263 [str x2263]), (ty69.row x2232 i2235), (pureF (x2232.length * ty69.bytes ≤ 140737488355328))]⟩ : St) _
       refine at_in (s_tr (s_mv rfl (at_lt (lt_add rfl rfl (by simp only [lo, hi]; omega)) rfl (s_as rfl (at_nil (at_int .i64 (x2271 + 1 : Int) (by simp only [lo, hi]; omega) ?_))))))
       exact at_again (σ := (Nat × (List D_api_Sub))) (V := Value × Nat × (List Value)) (lp := fun n s => m58_l2 a0 a2 x2245 x2252 n s.1 s.2) (S := fun s e => (⟨[(0, w2219), (2, .bool a2), (4, .pointer (some (Addr.add ⟨b2222, 0, none⟩ 0))), (6, .pointer (some (Addr.add ⟨b2223, 0, none⟩ 0))), (8, .pointer (some (Addr.add ⟨b2230, 0, none⟩ 0))), (9, .int .i64 (x2231 : Int)), (10, .pointer (some (Addr.add ⟨b2250, 0, none⟩ 0))), (11, .int .i64 x2252), (12, .pointer (some (Addr.add ⟨b2262, 0, none⟩ 0))), (13, .int .i64 (s.1 : Int))], [⟨b2262, [str x2263, .int .u8 (x2245.Ind_0.toNat : Int), .int .u8 (x2245.Ind_1.toNat : Int), e.1], 69⟩, ⟨b2250, [str x2245.Tag, .int .u8 (x2245.Ind_0.toNat : Int), .int .u8 (x2245.Ind_1.toNat : Int), s2247], 69⟩, ⟨b2230, [.int .i64 a1.ID, v2233], 25⟩, ⟨b2223, [.int .i64 0, (.slice none 0 0)], 25⟩, ⟨b2222, [.int .i64 a1.ID, s2220], 25⟩], [⟨e.1, 66, 2, e.2.1, e.2.2⟩, ⟨v2233, 69, 4, n2234, i2235⟩], [((Ty.int .i64).fact (s.1 : Int) [.int .i64 (s.1 : Int)]), (ty66.row s.2 e.2.2), (pureF (s.2.length * ty66.bytes ≤ 140737488355328)), ((Ty.slice ty50).fact a0 [w2219]), ((Ty.int .i64).fact (x2231 : Int) [.int .i64 (x2231 : Int)]), ((Ty.int .i64).fact x2252 [.int .i64 x2252]), (Ty.str.fact x2245.Tag [str x2245.Tag]), ((Ty.slice ty66).fact x2245.Subs [s2247]), ((Ty.int .i64).fact a1.ID [.int .i64 a1.ID]), ((Ty.slice ty69).fact a1.Fields [s2220]), (Ty.str.fact x2263 [str x2263]), (ty69.row x2232 i2235), (pureF (x2232.length * ty69.bytes ≤ 140737488355328))]⟩ : St)) (x2271 + 1, x2296) (v2297, n2298, i2299) hr ⟨⟨rfl, ⟨rfl, ⟨rfl, ⟨rfl, ⟨rfl, ⟨rfl, ⟨rfl, ⟨rfl, ⟨rfl, ⟨rfl, trivial⟩⟩⟩⟩⟩⟩⟩⟩⟩⟩, ⟨[true, true, true, true, true], rfl⟩, ⟨[true, true], rfl⟩, ⟨[0, 1, 2, 3, 4, 5, 7, 8, 9, 10, 11, 12, 13], rfl⟩⟩
      replace hr := ineg h2284 hr
      refine at_false rfl (decide_eq_false (by omega)) ?_
      refine at_exit (at_then_exit (at_then_exit (at_in_exit ?_)))
      have hq := oinj hr
      clear hr
      subst hq
      exact at_leaf (v2273, n2274, i2275) ⟨⟨rfl, ⟨rfl, ⟨rfl, ⟨rfl, ⟨rfl, ⟨rfl, ⟨rfl, trivial⟩⟩⟩⟩⟩⟩⟩, ⟨[true, false, true, true, true], rfl⟩, ⟨[true, true], rfl⟩, ⟨[1, 2, 3, 4, 10, 8, 9, 11, 12], rfl⟩⟩
     clear hl2280
     intro e
     obtain ⟨v2277, n2278, i2279⟩ := e
     change At _ _ (⟨[(0, w2219), (2, .bool a2), (4, .pointer (some (Addr.add ⟨b2222, 0, none⟩ 0))), (6, .pointer (some (Addr.add ⟨b2223, 0, none⟩ 0))), (8, .pointer (some (Addr.add ⟨b2230, 0, none⟩ 0))), (9, .int .i64 (x2231 : Int)), (12, .pointer (some (Addr.add ⟨b2262, 0, none⟩ 0)))], [⟨b2262, [str x2263, .int .u8 (x2245.Ind_0.toNat : Int), .int .u8 (x2245.Ind_1.toNat : Int), v2277], 69⟩, ⟨b2230, [.int .i64 a1.ID, v2233], 25⟩, ⟨b2223, [.int .i64 0, (.slice none 0 0)], 25⟩, ⟨b2222, [.int .i64 a1.ID, s2220], 25⟩], [⟨v2277, 66, 2, n2278, i2279⟩, ⟨v2233, 69, 4, n2234, i2235⟩], [(ty66.row x2276 i2279), (pureF (x2276.length * ty66.bytes ≤ 140737488355328)), ((Ty.slice ty50).fact a0 [w2219]), ((Ty.int .i64).fact (x2231 : Int) [.int .i64 (x2231 : Int)]), (Ty.str.fact x2263 [str x2263]), ((Ty.int .i64).fact a1.ID [.int .i64 a1.ID]), ((Ty.slice ty69).fact a1.Fields [s2220]), (ty69.row x2232 i2235), (pureF (x2232.length * ty69.bytes ≤ 140737488355328))]⟩ : St) _
     refine s_tsr (at_lt (lt_fieldAddr 3 rfl fld69_2 rfl) rfl (at_lt (lt_load_box 0 rfl ti67 rfl rfl rfl rfl rfl) rfl ?_))
     refine at_rown 0 0 rfl rfl rfl (fun hn2315 => ?_)
     refine at_rowv 0 rfl (fun hv2316 => ?_)
     refine at_lt (lt_rlen rfl hv2316 und67 hn2315) rfl (at_lt (lt_gtr rfl rfl) rfl (s_nt ?_))
     replace hr := obind hr
     obtain ⟨x2317, hc2321, hr⟩ := hr
     refine at_cut (V := Value × Nat × (List Value)) (fun e => (⟨[(0, w2219), (2, .bool a2), (4, .pointer (some (Addr.add ⟨b2222, 0, none⟩ 0))), (6, .pointer (some (Addr.add ⟨b2223, 0, none⟩ 0))), (8, .pointer (some (Addr.add ⟨b2230, 0, none⟩ 0))), (9, .int .i64 (x2231 : Int))], [⟨b2230, [.int .i64 a1.ID, e.1], 25⟩, ⟨b2223, [.int .i64 0, (.slice none 0 0)], 25⟩, ⟨b2222, [.int .i64 a1.ID, s2220], 25⟩], [⟨e.1, 69, 4, e.2.1, e.2.2⟩], [(ty69.row x2317 e.2.2), (pureF (x2317.length * ty69.bytes ≤ 140737488355328)), ((Ty.slice ty50).fact a0 [w2219]), ((Ty.int .i64).fact (x2231 : Int) [.int .i64 (x2231 : Int)]), ((Ty.int .i64).fact a1.ID [.int .i64 a1.ID]), ((Ty.slice ty69).fact a1.Fields [s2220])]⟩ : St)) ?_ ?_
     ·clear hr
      have hr := hc2321
      clear hc2321
      by_cases h2322 : 0 < x2276.length
      ·replace hr := ipos h2322 hr
       refine at_true rfl (decide_eq_true (by omega)) ?_
       refine at_region (at_lt (lt_fieldAddr 1 rfl fld25_1 rfl) rfl (at_lt (lt_load_box 1 rfl ti23 rfl rfl rfl rfl rfl) rfl (at_lt (lt_load_box 0 rfl ti69 rfl rfl rfl rfl rfl) rfl (at_hv rfl ?_))))
       refine hv_bslice (cs := [str x2263, .int .u8 (x2245.Ind_0.toNat : Int), .int .u8 (x2245.Ind_1.toNat : Int), v2277]) rfl und23 ti69 rfl rfl rfl rfl rfl (fun s2323 => ?_)
       replace hr := imust hr
       obtain ⟨h2324, hr⟩ := hr
       refine at_pure 1 rfl (fun hb2326 => ?_)
       refine at_release 1 0 rfl rfl rfl hb2326 ?_
       refine at_derive [5, 0] (ty69.fact (⟨x2263, x2245.Ind_0, x2245.Ind_1, x2276⟩ : D_api_Field) [str x2263, .int .u8 (x2245.Ind_0.toNat : Int), .int .u8 (x2245.Ind_1.toNat : Int), v2277]) rfl (fun F w h => mk69 (x := (⟨x2263, x2245.Ind_0, x2245.Ind_1, x2276⟩ : D_api_Field)) h) ?_
       refine at_rown 1 9 rfl rfl rfl (fun hn2327 => ?_)
       refine at_one 1 rfl (fun ho2328 => ?_)
       refine at_hv rfl ?_
       refine hv_append 1 0 rfl rfl rfl rfl und23 ti69 rfl rfl (allc rfl (allc rfl (allc rfl (allc ho2328 rfl)))) (by omega) (by omega) rfl (fun s2325 => ?_)
       refine at_rowsnoc 9 0 rfl rfl (at_lt (lt_fieldAddr 1 rfl fld25_1 rfl) rfl ?_)
       refine at_rowv 1 rfl (fun ho2329 => ?_)
       replace ho2329 := row_one (by obtain ⟨a, c, h⟩ := ho2329; exact ⟨a, _, c, h⟩)
       refine at_hv rfl (hv_store1 1 (cs' := [.int .i64 a1.ID, s2325]) rfl rfl ti23 rfl rfl rfl rfl ho2329 (at_nil ?_))
       have hq := oinj hr
       clear hr
       subst hq
       refine at_mkpure (q := ((x2232 ++ [(⟨x2263, x2245.Ind_0, x2245.Ind_1, x2276⟩ : D_api_Field)]).length * ty69.bytes ≤ 140737488355328)) (by simp only [List.length_append, List.length_cons, List.length_nil, ty69_bytes] <;> omega) ?_
       exact at_leaf (s2325, n2234 + 1, i2235 ++ [str x2263, .int .u8 (x2245.Ind_0.toNat : Int), .int .u8 (x2245.Ind_1.toNat : Int), v2277]) ⟨⟨rfl, ⟨rfl, ⟨rfl, ⟨rfl, ⟨rfl, ⟨rfl, trivial⟩⟩⟩⟩⟩⟩, ⟨[false, true, true, true], rfl⟩, ⟨[false, true], rfl⟩, ⟨[1, 0, 6, 7, 9, 10], rfl⟩⟩
      replace hr := ineg h2322 hr
      refine at_false rfl (decide_eq_false (by omega)) ?_
      refine at_skip ?_
      have hq := oinj hr
      clear hr
      subst hq
      exact at_leaf (v2233, n2234, i2235) ⟨⟨rfl, ⟨rfl, ⟨rfl, ⟨rfl, ⟨rfl, ⟨rfl, trivial⟩⟩⟩⟩⟩⟩, ⟨[false, true, true, true], rfl⟩, ⟨[false, true], rfl⟩, ⟨[7, 8, 2, 3, 5, 6], rfl⟩⟩
     clear hc2321
     intro e
     obtain ⟨v2318, n2319, i2320⟩ := e
     change At _ _ (⟨[(0, w2219), (2, .bool a2), (4, .pointer (some (Addr.add ⟨b2222, 0, none⟩ 0))), (6, .pointer (some (Addr.add ⟨b2223, 0, none⟩ 0))), (8, .pointer (some (Addr.add ⟨b2230, 0, none⟩ 0))), (9, .int .i64 (x2231 : Int))], [⟨b2230, [.int .i64 a1.ID, v2318], 25⟩, ⟨b2223, [.int .i64 0, (.slice none 0 0)], 25⟩, ⟨b2222, [.int .i64 a1.ID, s2220], 25⟩], [⟨v2318, 69, 4, n2319, i2320⟩], [(ty69.row x2317 i2320), (pureF (x2317.length * ty69.bytes ≤ 140737488355328)), ((Ty.slice ty50).fact a0 [w2219]), ((Ty.int .i64).fact (x2231 : Int) [.int .i64 (x2231 : Int)]), ((Ty.int .i64).fact a1.ID [.int .i64 a1.ID]), ((Ty.slice ty69).fact a1.Fields [s2220])]⟩ : St) _
     refine at_in (s_tr (s_mv rfl (at_lt (lt_add rfl rfl (by simp only [lo, hi]; omega)) rfl (s_as rfl (at_nil (at_int .i64 (x2231 + 1 : Int) (by simp only [lo, hi]; omega) ?_))))))
     exact at_again (σ := (Nat × (List D_api_Field))) (V := Value × Nat × (List Value)) (lp := fun n s => m58_l1 a0 a1 a2 n s.1 s.2) (S := fun s e => (⟨[(0, w2219), (2, .bool a2), (4, .pointer (some (Addr.add ⟨b2222, 0, none⟩ 0))), (6, .pointer (some (Addr.add ⟨b2223, 0, none⟩ 0))), (8, .pointer (some (Addr.add ⟨b2230, 0, none⟩ 0))), (9, .int .i64 (s.1 : Int))], [⟨b2230, [.int .i64 a1.ID, e.1], 25⟩, ⟨b2223, [.int .i64 0, (.slice none 0 0)], 25⟩, ⟨b2222, [.int .i64 a1.ID, s2220], 25⟩], [⟨e.1, 69, 4, e.2.1, e.2.2⟩], [((Ty.int .i64).fact (s.1 : Int) [.int .i64 (s.1 : Int)]), (ty69.row s.2 e.2.2), (pureF (s.2.length * ty69.bytes ≤ 140737488355328)), ((Ty.slice ty50).fact a0 [w2219]), ((Ty.int .i64).fact a1.ID [.int .i64 a1.ID]), ((Ty.slice ty69).fact a1.Fields [s2220])]⟩ : St)) (x2231 + 1, x2317) (v2318, n2319, i2320) hr ⟨⟨rfl, ⟨rfl, ⟨rfl, ⟨rfl, ⟨rfl, ⟨rfl, trivial⟩⟩⟩⟩⟩⟩, ⟨[true, true, true], rfl⟩, ⟨[true], rfl⟩, ⟨[0, 1, 2, 3, 5, 6], rfl⟩⟩
    replace hr := ineg h2244 hr
    refine at_false rfl (decide_eq_false (by omega)) ?_
    refine at_exit (at_then_exit (at_then_exit (at_in_exit ?_)))
    have hq := oinj hr
    clear hr
    subst hq
    exact at_leaf (v2233, n2234, i2235) ⟨⟨rfl, ⟨rfl, trivial⟩⟩, ⟨[true, true, false], rfl⟩, ⟨[true], rfl⟩, ⟨[1, 2, 4], rfl⟩⟩
   clear hl2240
   intro e
   obtain ⟨v2237, n2238, i2239⟩ := e
   change At _ _ (⟨[(6, .pointer (some (Addr.add ⟨b2223, 0, none⟩ 0))), (8, .pointer (some (Addr.add ⟨b2230, 0, none⟩ 0)))], [⟨b2230, [.int .i64 a1.ID, v2237], 25⟩, ⟨b2223, [.int .i64 0, (.slice none 0 0)], 25⟩], [⟨v2237, 69, 4, n2238, i2239⟩], [(ty69.row x2236 i2239), (pureF (x2236.length * ty69.bytes ≤ 140737488355328)), ((Ty.int .i64).fact a1.ID [.int .i64 a1.ID])]⟩ : St) _
   refine at_then (at_seq (s_sr (at_lt (lt_fieldAddr 1 rfl fld25_1 rfl) rfl (at_lt (lt_load_box 0 rfl ti23 rfl rfl rfl rfl rfl) rfl ?_))))
   refine at_rown 0 0 rfl rfl rfl (fun hn2330 => ?_)
   refine at_rowv 0 rfl (fun hv2331 => ?_)
   refine at_lt (lt_rlen rfl hv2331 und23 hn2330) rfl (at_lt (lt_eql rfl rfl) rfl (s_nt ?_))
   by_cases h2332 : x2236.length = 0
   ·replace hr := ipos h2332 hr
    refine at_true rfl (decide_eq_true (by omega)) ?_
    refine s_sr (at_lt (lt_build (cs := [.int .i64 0, (.slice none 0 0)]) rfl ti25 pl25 rfl) rfl (at_hv rfl (hv_store_box 1 (cs' := [.int .i64 0, (.slice none 0 0)]) rfl rfl ti25 rfl rfl rfl rfl rfl (s_as rfl (s_nt (at_ret ?_))))))
    have hq := oinj hr
    clear hr
    subst hq
    refine at_then_ret (at_int .i64 0 (by simp only [lo, hi]; omega) (at_fnil ty69 none ?_))
    refine at_derive [1, 0] (ty25.fact (⟨0, ([] : (List D_api_Field))⟩ : D_api_Record) [.int .i64 0, (.slice none 0 0)]) rfl (fun F w h => mk25 (x := (⟨0, ([] : (List D_api_Field))⟩ : D_api_Record)) h) ?_
    refine at_int .i64 9 (by simp only [lo, hi]; omega) ?_
    exact at_return (.tuple #[.agg #[.int .i64 0, (.slice none 0 0)], .int .i64 9]) [1, 0] hS Tryz.results58 (.cons (.cell 1 rfl ti25 rfl rfl rfl rfl) (.cons (.tmp rfl) .nil)) rfl rfl ⟨((.slice none 0 0)), rfl, rfl⟩
   replace hr := ineg h2332 hr
   refine at_false rfl (decide_eq_false (by omega)) ?_
   refine at_skip (s_tsr (at_lt (lt_load_box 0 rfl ti25 rfl rfl rfl rfl rfl) rfl ?_))
   replace hr := obind hr
   obtain ⟨x2333, h2334, hr⟩ := hr
   refine at_pure 1 rfl (fun hb2336 => ?_)
   refine at_release 0 0 rfl rfl rfl hb2336 ?_
   refine at_derive [3, 0] (ty25.fact (⟨a1.ID, x2236⟩ : D_api_Record) [.int .i64 a1.ID, v2237]) rfl (fun F w h => mk25 (x := (⟨a1.ID, x2236⟩ : D_api_Record)) h) ?_
   refine at_hv rfl (hv_call0 [0] (f38_spec h2334) rfl rfl rfl rfl ?_)
   rintro _ _ ⟨s2335, rfl, rfl⟩
   refine at_open (A := Unit) 0 rfl (fun _ => True) (fun _ => [((Ty.int .i64).fact x2333.ID [.int .i64 x2333.ID]), ((Ty.slice ty69).fact x2333.Fields [s2335])]) (fun F w h => ⟨(), trivial, ex25 h⟩) (fun _ _ => ?_)
   refine at_inv 0 rfl (fun l2337 => ?_)
   replace l2337 : (-9223372036854775808) ≤ x2333.ID ∧ x2333.ID ≤ 9223372036854775807 := l2337
   refine at_one 1 rfl (fun ho2338 => ?_)
   refine at_hv rfl (hv_store_box 1 (cs' := [.int .i64 x2333.ID, s2335]) rfl rfl ti25 rfl rfl rfl rfl (allc rfl (allc ho2338 rfl)) (s_as rfl (s_nt (at_ret ?_))))
   have hq := oinj hr
   clear hr
   subst hq
   refine at_derive [0, 1] (ty25.fact (⟨x2333.ID, x2333.Fields⟩ : D_api_Record) [.int .i64 x2333.ID, s2335]) rfl (fun F w h => mk25 (x := (⟨x2333.ID, x2333.Fields⟩ : D_api_Record)) h) ?_
   refine at_int .i64 0 (by simp only [lo, hi]; omega) ?_
   exact at_return (.tuple #[.agg #[.int .i64 x2333.ID, s2335], .int .i64 0]) [1, 0] hS Tryz.results58 (.cons (.cell 1 rfl ti25 rfl rfl rfl rfl) (.cons (.tmp rfl) .nil)) rfl rfl ⟨s2335, rfl, rfl⟩
  replace hr := ineg h2229 hr
  refine at_true rfl (nf (bf h2229)) (s_sr (at_lt (lt_build (cs := [.int .i64 0, (.slice none 0 0)]) rfl ti25 pl25 rfl) rfl (at_hv rfl (hv_store_box 0 (cs' := [.int .i64 0, (.slice none 0 0)]) rfl rfl ti25 rfl rfl rfl rfl rfl (s_as rfl (s_nt (at_ret ?_)))))))
  have hq := oinj hr
  clear hr
  subst hq
  refine at_then_ret (at_int .i64 0 (by simp only [lo, hi]; omega) (at_fnil ty69 none ?_))
  refine at_derive [1, 0] (ty25.fact (⟨0, ([] : (List D_api_Field))⟩ : D_api_Record) [.int .i64 0, (.slice none 0 0)]) rfl (fun F w h => mk25 (x := (⟨0, ([] : (List D_api_Field))⟩ : D_api_Record)) h) ?_
  refine at_int .i64 1 (by simp only [lo, hi]; omega) ?_
  exact at_return (.tuple #[.agg #[.int .i64 0, (.slice none 0 0)], .int .i64 1]) [1, 0] hS Tryz.results58 (.cons (.cell 0 rfl ti25 rfl rfl rfl rfl) (.cons (.tmp rfl) .nil)) rfl rfl ⟨((.slice none 0 0)), rfl, rfl⟩
 replace hr := ineg h2226 hr
 refine at_off rfl rfl (nf (bf h2226)) rfl (at_off rfl rfl (nf (bf h2226)) rfl (at_off rfl rfl (nf (bf h2226)) rfl (at_lt (lt_pick true rfl (nf (bf h2226)) rfl) rfl (s_nt (at_true rfl rfl (s_sr (at_lt (lt_build (cs := [.int .i64 0, (.slice none 0 0)]) rfl ti25 pl25 rfl) rfl (at_hv rfl (hv_store_box 0 (cs' := [.int .i64 0, (.slice none 0 0)]) rfl rfl ti25 rfl rfl rfl rfl rfl ?_)))))))))
 refine s_as rfl (s_nt (at_ret ?_))
 have hq := oinj hr
 clear hr
 subst hq
 refine at_then_ret (at_int .i64 0 (by simp only [lo, hi]; omega) (at_fnil ty69 none ?_))
 refine at_derive [1, 0] (ty25.fact (⟨0, ([] : (List D_api_Field))⟩ : D_api_Record) [.int .i64 0, (.slice none 0 0)]) rfl (fun F w h => mk25 (x := (⟨0, ([] : (List D_api_Field))⟩ : D_api_Record)) h) ?_
 refine at_int .i64 1 (by simp only [lo, hi]; omega) ?_
 exact at_return (.tuple #[.agg #[.int .i64 0, (.slice none 0 0)], .int .i64 1]) [1, 0] hS Tryz.results58 (.cons (.cell 0 rfl ti25 rfl rfl rfl rfl) (.cons (.tmp rfl) .nil)) rfl rfl ⟨((.slice none 0 0)), rfl, rfl⟩
def m28 (a0 : (List D_ref16_Entry)) (a1 : D_api_Record) : Option (D_api_Record × Int) :=
  (m58 a0 (⟨a1.ID, a1.Fields⟩ : D_api_Record) false).bind fun x2345 =>
  some ((⟨x2345.1.ID, x2345.1.Fields⟩ : D_api_Record), x2345.2)
def post28 (r : (D_api_Record × Int)) (v : Value) (fs : List Fact) : Prop := ∃ s2351 : Value, v = .tuple #[.agg #[.int .i64 r.1.ID, s2351], .int .i64 r.2] ∧ fs = [(ty25.fact r.1 [.int .i64 r.1.ID, s2351]), ((Ty.int .i64).fact r.2 [.int .i64 r.2])]
theorem en28 : Enters Tryz.prog 28 := ⟨_, Tryz.func28, by kernel_rfl, rfl⟩
theorem f28_spec {a0 : (List D_ref16_Entry)} {a1 : D_api_Record} {w2340 : Value} {s2341 : Value} {r : (D_api_Record × Int)} (hr : m28 a0 a1 = some r) : Spec Tryz.prog 28 [w2340, .agg #[.int .i64 a1.ID, s2341]] [((Ty.slice ty50).fact a0 [w2340]), (ty25.fact a1 [.int .i64 a1.ID, s2341])] (post28 r) := by
 refine spec_start (N := 11) Tryz.func28 (by kernel_rfl) rfl rfl rfl ?_
 intro g hS
 unfold m28 at hr
 refine at_open (A := Unit) 1 rfl (fun _ => True) (fun _ => [((Ty.int .i64).fact a1.ID [.int .i64 a1.ID]), ((Ty.slice ty69).fact a1.Fields [s2341])]) (fun F w h => ⟨(), trivial, ex25 h⟩) (fun _ _ => ?_)
 refine at_inv 0 rfl (fun l2342 => ?_)
 replace l2342 : (-9223372036854775808) ≤ a1.ID ∧ a1.ID ≤ 9223372036854775807 := l2342
 refine s_sr (at_hv rfl ?_)
 refine hv_box (cs := [.int .i64 a1.ID, s2341]) rfl rfl rfl (fun b2343 => ?_)
 refine at_hv rfl ?_
 refine hv_alloc (cs := [.int .i64 0, (.slice none 0 0)]) ti25 rfl rfl (fun b2344 => ?_)
 refine s_as rfl (s_ntsr (s_mv rfl (at_lt (lt_load_box 1 rfl ti25 rfl rfl rfl rfl rfl) rfl ?_)))
 replace hr := obind hr
 obtain ⟨x2345, h2346, hr⟩ := hr
 refine at_derive [0, 1] (ty25.fact (⟨a1.ID, a1.Fields⟩ : D_api_Record) [.int .i64 a1.ID, s2341]) rfl (fun F w h => mk25 (x := (⟨a1.ID, a1.Fields⟩ : D_api_Record)) h) ?_
 refine at_hv rfl (hv_call0 [3, 0] (f58_spec h2346) rfl rfl rfl rfl ?_)
 rintro _ _ ⟨s2347, rfl, rfl⟩
 refine at_open (A := Unit) 0 rfl (fun _ => True) (fun _ => [((Ty.int .i64).fact x2345.1.ID [.int .i64 x2345.1.ID]), ((Ty.slice ty69).fact x2345.1.Fields [s2347])]) (fun F w h => ⟨(), trivial, ex25 h⟩) (fun _ _ => ?_)
 refine at_inv 0 rfl (fun l2348 => ?_)
 replace l2348 : (-9223372036854775808) ≤ x2345.1.ID ∧ x2345.1.ID ≤ 9223372036854775807 := l2348
 refine at_inv 3 rfl (fun l2349 => ?_)
 replace l2349 : (-9223372036854775808) ≤ x2345.2 ∧ x2345.2 ≤ 9223372036854775807 := l2349
 refine at_lt (lt_extract rfl rfl) rfl (at_lt (lt_extract rfl rfl) rfl ?_)
 refine at_one 1 rfl (fun ho2350 => ?_)
 refine at_hv rfl (hv_store_box 0 (cs' := [.int .i64 x2345.1.ID, s2347]) rfl rfl ti25 rfl rfl rfl rfl (allc rfl (allc ho2350 rfl)) (s_as rfl (s_nt (at_ret ?_))))
 have hq := oinj hr
 clear hr
 subst hq
 refine at_derive [0, 1] (ty25.fact (⟨x2345.1.ID, x2345.1.Fields⟩ : D_api_Record) [.int .i64 x2345.1.ID, s2347]) rfl (fun F w h => mk25 (x := (⟨x2345.1.ID, x2345.1.Fields⟩ : D_api_Record)) h) ?_
 exact at_return (.tuple #[.agg #[.int .i64 x2345.1.ID, s2347], .int .i64 x2345.2]) [0, 4] hS Tryz.results28 (.cons (.cell 0 rfl ti25 rfl rfl rfl rfl) (.cons (.tmp rfl) .nil)) rfl rfl ⟨s2347, rfl, rfl⟩
def m29 (a0 : (List D_ref16_Entry)) (a1 : D_api_Record) : Option (D_api_Record × Int) :=
  (m58 a0 (⟨a1.ID, a1.Fields⟩ : D_api_Record) true).bind fun x2357 =>
  some ((⟨x2357.1.ID, x2357.1.Fields⟩ : D_api_Record), x2357.2)
def post29 (r : (D_api_Record × Int)) (v : Value) (fs : List Fact) : Prop := ∃ s2363 : Value, v = .tuple #[.agg #[.int .i64 r.1.ID, s2363], .int .i64 r.2] ∧ fs = [(ty25.fact r.1 [.int .i64 r.1.ID, s2363]), ((Ty.int .i64).fact r.2 [.int .i64 r.2])]
theorem en29 : Enters Tryz.prog 29 := ⟨_, Tryz.func29, by kernel_rfl, rfl⟩
theorem f29_spec {a0 : (List D_ref16_Entry)} {a1 : D_api_Record} {w2352 : Value} {s2353 : Value} {r : (D_api_Record × Int)} (hr : m29 a0 a1 = some r) : Spec Tryz.prog 29 [w2352, .agg #[.int .i64 a1.ID, s2353]] [((Ty.slice ty50).fact a0 [w2352]), (ty25.fact a1 [.int .i64 a1.ID, s2353])] (post29 r) := by
 refine spec_start (N := 11) Tryz.func29 (by kernel_rfl) rfl rfl rfl ?_
 intro g hS
 unfold m29 at hr
 refine at_open (A := Unit) 1 rfl (fun _ => True) (fun _ => [((Ty.int .i64).fact a1.ID [.int .i64 a1.ID]), ((Ty.slice ty69).fact a1.Fields [s2353])]) (fun F w h => ⟨(), trivial, ex25 h⟩) (fun _ _ => ?_)
 refine at_inv 0 rfl (fun l2354 => ?_)
 replace l2354 : (-9223372036854775808) ≤ a1.ID ∧ a1.ID ≤ 9223372036854775807 := l2354
 refine s_sr (at_hv rfl ?_)
 refine hv_box (cs := [.int .i64 a1.ID, s2353]) rfl rfl rfl (fun b2355 => ?_)
 refine at_hv rfl ?_
 refine hv_alloc (cs := [.int .i64 0, (.slice none 0 0)]) ti25 rfl rfl (fun b2356 => ?_)
 refine s_as rfl (s_ntsr (s_mv rfl (at_lt (lt_load_box 1 rfl ti25 rfl rfl rfl rfl rfl) rfl ?_)))
 replace hr := obind hr
 obtain ⟨x2357, h2358, hr⟩ := hr
 refine at_derive [0, 1] (ty25.fact (⟨a1.ID, a1.Fields⟩ : D_api_Record) [.int .i64 a1.ID, s2353]) rfl (fun F w h => mk25 (x := (⟨a1.ID, a1.Fields⟩ : D_api_Record)) h) ?_
 refine at_hv rfl (hv_call0 [3, 0] (f58_spec h2358) rfl rfl rfl rfl ?_)
 rintro _ _ ⟨s2359, rfl, rfl⟩
 refine at_open (A := Unit) 0 rfl (fun _ => True) (fun _ => [((Ty.int .i64).fact x2357.1.ID [.int .i64 x2357.1.ID]), ((Ty.slice ty69).fact x2357.1.Fields [s2359])]) (fun F w h => ⟨(), trivial, ex25 h⟩) (fun _ _ => ?_)
 refine at_inv 0 rfl (fun l2360 => ?_)
 replace l2360 : (-9223372036854775808) ≤ x2357.1.ID ∧ x2357.1.ID ≤ 9223372036854775807 := l2360
 refine at_inv 3 rfl (fun l2361 => ?_)
 replace l2361 : (-9223372036854775808) ≤ x2357.2 ∧ x2357.2 ≤ 9223372036854775807 := l2361
 refine at_lt (lt_extract rfl rfl) rfl (at_lt (lt_extract rfl rfl) rfl ?_)
 refine at_one 1 rfl (fun ho2362 => ?_)
 refine at_hv rfl (hv_store_box 0 (cs' := [.int .i64 x2357.1.ID, s2359]) rfl rfl ti25 rfl rfl rfl rfl (allc rfl (allc ho2362 rfl)) (s_as rfl (s_nt (at_ret ?_))))
 have hq := oinj hr
 clear hr
 subst hq
 refine at_derive [0, 1] (ty25.fact (⟨x2357.1.ID, x2357.1.Fields⟩ : D_api_Record) [.int .i64 x2357.1.ID, s2359]) rfl (fun F w h => mk25 (x := (⟨x2357.1.ID, x2357.1.Fields⟩ : D_api_Record)) h) ?_
 exact at_return (.tuple #[.agg #[.int .i64 x2357.1.ID, s2359], .int .i64 x2357.2]) [0, 4] hS Tryz.results29 (.cons (.cell 0 rfl ti25 rfl rfl rfl rfl) (.cons (.tmp rfl) .nil)) rfl rfl ⟨s2359, rfl, rfl⟩
def m97_l1 (a0 : (List D_api_Sub)) (a1 : (List D_api_Sub)) : Nat → Nat → Option (Fl Bool Unit)
  | 0, _ => none
  | k + 1, x2371 =>
    if x2371 < a0.length then
     (a0[x2371]?).bind fun x2376 =>
     (a1[x2371]?).bind fun x2380 =>
     if (decide (((x2376.Code.toNat : Int) : Int) = (x2380.Code.toNat : Int)) && decide (x2376.Value = x2380.Value)) = true then
      m97_l1 a0 a1 k (x2371 + 1)
     else
      some (Fl.ret false)
    else
     some (Fl.go ())
def m97 (a0 : (List D_api_Sub)) (a1 : (List D_api_Sub)) : Option Bool :=
  if a0.length = a1.length then
   (m97_l1 a0 a1 (a0.length + 1) 0).bind fun r => match r with
   | .ret x => some x
   | .go _ =>
    some true
  else
   some false
def post97 (r : Bool) (v : Value) (fs : List Fact) : Prop := v = .bool r ∧ fs = []
theorem en97 : Enters Tryz.prog 97 := ⟨_, Tryz.func97, by kernel_rfl, rfl⟩
theorem f97_spec {a0 : (List D_api_Sub)} {a1 : (List D_api_Sub)} {w2364 : Value} {w2365 : Value} {r : Bool} (hr : m97 a0 a1 = some r) : Spec Tryz.prog 97 [w2364, w2365] [((Ty.slice ty66).fact a0 [w2364]), ((Ty.slice ty66).fact a1 [w2365])] (post97 r) := by
 refine spec_start (N := 26) Tryz.func97 (by kernel_rfl) rfl rfl rfl ?_
 intro g hS
 unfold m97 at hr
 refine s_sr (s_as rfl (s_nt (at_seq (s_sr (s_mv rfl ?_)))))
 refine at_inv 0 rfl (fun i2366 => ?_)
 have l2367 := slice_len i2366
 refine at_lt (lt_flen 0 rfl rfl und67) rfl (s_mv rfl ?_)
 refine at_inv 1 rfl (fun i2368 => ?_)
 have l2369 := slice_len i2368
 refine at_lt (lt_flen 1 rfl rfl und67) rfl (at_lt (lt_neq rfl rfl) rfl (s_nt ?_))
 by_cases h2370 : a0.length = a1.length
 ·replace hr := ipos h2370 hr
  refine at_false rfl (nt (decide_eq_true (by omega))) ?_
  refine at_skip (at_then (at_seq (s_sr (s_mv rfl (at_lt (lt_flen 0 rfl rfl und67) rfl (s_mv rfl (s_nt (at_int .i64 0 (by simp only [lo, hi]; omega) ?_))))))))
  replace hr := obind hr
  obtain ⟨r2372, hl2373, hk2374⟩ := hr
  refine at_cutP (V := (Unit) × (Unit)) (fun v => r2372 = Fl.go v.1) (fun v => (⟨[], [], [], []⟩ : St)) ?_ ?_
  ·refine at_block ?_
   refine at_loopW (σ := Nat) (V := Unit) (r := r2372) (fun n s => m97_l1 a0 a1 n s) (fun s e => (⟨[(0, w2364), (1, w2365), (12, .int .i64 (a0.length : Int)), (13, .int .i64 (s : Int))], [], [], [((Ty.int .i64).fact (s : Int) [.int .i64 (s : Int)]), ((Ty.slice ty66).fact a0 [w2364]), ((Ty.slice ty66).fact a1 [w2365])]⟩ : St)) (fun _ => rfl) _ 0 () hl2373 ⟨⟨rfl, ⟨rfl, ⟨rfl, ⟨rfl, trivial⟩⟩⟩⟩, ⟨[], rfl⟩, ⟨[], rfl⟩, ⟨[0, 1, 2], rfl⟩⟩ ?_
   clear hl2373
   intro n x2371 hr e
   skip
   skip
   change m97_l1 a0 a1 (n + 1) x2371 = some r2372 at hr
   change At _ _ (⟨[(0, w2364), (1, w2365), (12, .int .i64 (a0.length : Int)), (13, .int .i64 (x2371 : Int))], [], [], [((Ty.int .i64).fact (x2371 : Int) [.int .i64 (x2371 : Int)]), ((Ty.slice ty66).fact a0 [w2364]), ((Ty.slice ty66).fact a1 [w2365])]⟩ : St) _
   rw [m97_l1] at hr
   refine s_sr (at_lt (lt_lss rfl rfl) rfl (s_nt (at_seq ?_)))
   by_cases h2375 : x2371 < a0.length
   ·replace hr := ipos h2375 hr
    refine at_true rfl (decide_eq_true (by omega)) ?_
    refine at_skip (at_then (at_seq (at_block (s_sr (s_mv rfl (s_as rfl (s_nt (at_seq ?_))))))))
    replace hr := obind hr
    obtain ⟨x2376, h2377, hr⟩ := hr
    have := (List.getElem?_eq_some_iff.1 h2377).1
    refine at_elem 1 rfl (nat_at' h2377) (fun p2378 ec pa2379 => ?_)
    refine at_open (A := Unit) 0 rfl _ _ (fun F w h => op66 h) ?_
    rintro _ rfl
    replace hr := obind hr
    obtain ⟨x2380, h2381, hr⟩ := hr
    have := (List.getElem?_eq_some_iff.1 h2381).1
    refine at_elem 5 rfl (nat_at' h2381) (fun p2382 ec pa2383 => ?_)
    refine at_open (A := Unit) 0 rfl _ _ (fun F w h => op66 h) ?_
    rintro _ rfl
    refine aa_start 9 (by kernel_rfl) ?_
    refine aa_p 0 rfl (lt_move rfl) (aa_p 1 rfl (lt_move rfl) (aa_p 2 rfl (lt_idx rfl rfl pa2379 und67 ti66) (aa_l 3 rfl (lt_load_peek 5 rfl ti66 rfl rfl rfl rfl rfl) (aa_p 4 rfl (lt_move rfl) (aa_p 5 rfl (lt_move rfl) (aa_p 6 rfl (lt_idx rfl rfl pa2383 und67 ti66) (aa_l 7 rfl (lt_load_peek 2 rfl ti66 rfl rfl rfl rfl rfl) (aa_p 8 rfl (lt_stne rfl rfl eg66 eqt66) ?_))))))))
    refine aa_done (by kernel_rfl) (ts_in 0 0 rfl rfl) ?_
    refine at_then ?_
    by_cases h2384 : (decide (((x2376.Code.toNat : Int) : Int) = (x2380.Code.toNat : Int)) && decide (x2376.Value = x2380.Value)) = true
    ·replace hr := ipos h2384 hr
     refine at_false rfl (nt h2384) (at_skip (at_in (s_tr (at_lt (lt_add rfl rfl (by simp only [lo, hi]; omega)) rfl (s_mv rfl (at_nil (at_int .i64 (x2371 + 1 : Int) (by simp only [lo, hi]; omega) ?_)))))))
     exact at_again (σ := Nat) (V := Unit) (lp := fun n s => m97_l1 a0 a1 n s) (S := fun s e => (⟨[(0, w2364), (1, w2365), (12, .int .i64 (a0.length : Int)), (13, .int .i64 (s : Int))], [], [], [((Ty.int .i64).fact (s : Int) [.int .i64 (s : Int)]), ((Ty.slice ty66).fact a0 [w2364]), ((Ty.slice ty66).fact a1 [w2365])]⟩ : St)) (x2371 + 1) () hr ⟨⟨rfl, ⟨rfl, ⟨rfl, ⟨rfl, trivial⟩⟩⟩⟩, ⟨[], rfl⟩, ⟨[], rfl⟩, ⟨[0, 8, 9], rfl⟩⟩
    replace hr := ineg h2384 hr
    refine at_true rfl (nf (bf h2384)) (s_sr (s_as rfl (s_nt (at_ret ?_))))
    have hq := oinj hr
    clear hr
    subst hq
    have hq := oinj hk2374
    clear hk2374
    subst hq
    refine at_in_ret (at_then_ret (at_then_ret (at_in_ret (at_then_ret (at_then_ret ?_)))))
    exact at_return (.bool false) [] hS Tryz.results97 (.cons (.tmp rfl) .nil) rfl rfl ⟨rfl, rfl⟩
   replace hr := ineg h2375 hr
   refine at_false rfl (decide_eq_false (by omega)) ?_
   refine at_exit (at_then_exit (at_then_exit (at_in_exit ?_)))
   have hq := oinj hr
   clear hr
   subst hq
   exact at_leafP ((), ()) rfl ⟨trivial, ⟨[], rfl⟩, ⟨[], rfl⟩, ⟨[], rfl⟩⟩
  rintro ⟨_, _⟩ hp
  replace hr := hk2374
  subst hp
  clear hl2373
  change At _ _ (⟨[], [], [], []⟩ : St) _
  refine s_tsr (s_as rfl (s_nt (at_ret ?_)))
  have hq := oinj hr
  clear hr
  subst hq
  exact at_return (.bool true) [] hS Tryz.results97 (.cons (.tmp rfl) .nil) rfl rfl ⟨rfl, rfl⟩
 replace hr := ineg h2370 hr
 refine at_true rfl (nf (decide_eq_false (by omega))) ?_
 refine s_sr (s_as rfl (s_nt (at_ret ?_)))
 have hq := oinj hr
 clear hr
 subst hq
 refine at_then_ret ?_
 exact at_return (.bool false) [] hS Tryz.results97 (.cons (.tmp rfl) .nil) rfl rfl ⟨rfl, rfl⟩
def m96 (a0 : D_api_Field) (a1 : D_api_Field) : Option Bool :=
  if a0.Tag = a1.Tag then
   if (decide (((a0.Ind_0.toNat : Int) : Int) = (a1.Ind_0.toNat : Int)) && decide (((a0.Ind_1.toNat : Int) : Int) = (a1.Ind_1.toNat : Int))) = true then
    (m97 a0.Subs a1.Subs).bind fun x2391 =>
    some x2391
   else
    some false
  else
   some false
def post96 (r : Bool) (v : Value) (fs : List Fact) : Prop := v = .bool r ∧ fs = []
theorem en96 : Enters Tryz.prog 96 := ⟨_, Tryz.func96, by kernel_rfl, rfl⟩
theorem f96_spec {a0 : D_api_Field} {a1 : D_api_Field} {s2385 : Value} {s2386 : Value} {r : Bool} (hr : m96 a0 a1 = some r) : Spec Tryz.prog 96 [.agg #[str a0.Tag, .int .u8 (a0.Ind_0.toNat : Int), .int .u8 (a0.Ind_1.toNat : Int), s2385], .agg #[str a1.Tag, .int .u8 (a1.Ind_0.toNat : Int), .int .u8 (a1.Ind_1.toNat : Int), s2386]] [(ty69.fact a0 [str a0.Tag, .int .u8 (a0.Ind_0.toNat : Int), .int .u8 (a0.Ind_1.toNat : Int), s2385]), (ty69.fact a1 [str a1.Tag, .int .u8 (a1.Ind_0.toNat : Int), .int .u8 (a1.Ind_1.toNat : Int), s2386])] (post96 r) := by
 refine spec_start (N := 24) Tryz.func96 (by kernel_rfl) rfl rfl rfl ?_
 intro g hS
 unfold m96 at hr
 refine at_open (A := Unit) 0 rfl (fun _ => True) (fun _ => [(Ty.str.fact a0.Tag [str a0.Tag]), ((Ty.slice ty66).fact a0.Subs [s2385])]) (fun F w h => ⟨(), trivial, ex69 h⟩) (fun _ _ => ?_)
 refine at_open (A := Unit) 3 rfl (fun _ => True) (fun _ => [(Ty.str.fact a1.Tag [str a1.Tag]), ((Ty.slice ty66).fact a1.Subs [s2386])]) (fun F w h => ⟨(), trivial, ex69 h⟩) (fun _ _ => ?_)
 refine s_sr (at_hv rfl ?_)
 refine hv_box (cs := [str a0.Tag, .int .u8 (a0.Ind_0.toNat : Int), .int .u8 (a0.Ind_1.toNat : Int), s2385]) rfl rfl rfl (fun b2387 => ?_)
 refine at_hv rfl ?_
 refine hv_box (cs := [str a1.Tag, .int .u8 (a1.Ind_0.toNat : Int), .int .u8 (a1.Ind_1.toNat : Int), s2386]) rfl rfl rfl (fun b2388 => ?_)
 refine s_as rfl (s_ntsr (at_lt (lt_fieldAddr 0 rfl fld69_0 rfl) rfl (at_lt (lt_load_box 1 rfl ti9 rfl rfl rfl rfl rfl) rfl (at_lt (lt_fieldAddr 0 rfl fld69_0 rfl) rfl (at_lt (lt_load_box 0 rfl ti9 rfl rfl rfl rfl rfl) rfl (at_lt (lt_seql rfl rfl) rfl (s_mv rfl ?_)))))))
 by_cases h2389 : a0.Tag = a1.Tag
 ·replace hr := ipos h2389 hr
  refine at_on rfl rfl (decide_eq_true h2389) (at_lt (lt_fieldAddr 1 rfl fld69_1 rfl) rfl (at_on rfl rfl (decide_eq_true h2389) (at_lt (lt_load_box 1 rfl ti64 rfl rfl rfl rfl rfl) rfl (at_on rfl rfl (decide_eq_true h2389) (at_lt (lt_fieldAddr 1 rfl fld69_1 rfl) rfl (at_on rfl rfl (decide_eq_true h2389) (at_lt (lt_load_box 0 rfl ti64 rfl rfl rfl rfl rfl) rfl (at_on rfl rfl (decide_eq_true h2389) (at_lt (lt_steq rfl rfl eg64 eqt64) rfl ?_)))))))))
  refine at_lt (lt_pick true rfl (decide_eq_true h2389) rfl) rfl (s_mv rfl ?_)
  by_cases h2390 : (decide (((a0.Ind_0.toNat : Int) : Int) = (a1.Ind_0.toNat : Int)) && decide (((a0.Ind_1.toNat : Int) : Int) = (a1.Ind_1.toNat : Int))) = true
  ·replace hr := ipos h2390 hr
   refine at_on rfl rfl h2390 (at_lt (lt_fieldAddr 3 rfl fld69_2 rfl) rfl (at_on rfl rfl h2390 (at_lt (lt_load_box 1 rfl ti67 rfl rfl rfl rfl rfl) rfl (at_on rfl rfl h2390 (at_lt (lt_fieldAddr 3 rfl fld69_2 rfl) rfl (at_on rfl rfl h2390 (at_lt (lt_load_box 0 rfl ti67 rfl rfl rfl rfl rfl) rfl ?_)))))))
   replace hr := obind hr
   obtain ⟨x2391, h2392, hr⟩ := hr
   refine at_on rfl rfl h2390 (at_hv rfl (hv_call0 [3, 1] (f97_spec h2392) rfl rfl rfl rfl ?_))
   rintro _ _ ⟨rfl, rfl⟩
   refine at_lt (lt_pick true rfl h2390 rfl) rfl (s_as rfl (s_nt (at_ret ?_)))
   have hq := oinj hr
   clear hr
   subst hq
   exact at_return (.bool x2391) [] hS Tryz.results96 (.cons (.tmp rfl) .nil) rfl rfl ⟨rfl, rfl⟩
  replace hr := ineg h2390 hr
  refine at_off rfl rfl (bf h2390) rfl (at_off rfl rfl (bf h2390) rfl (at_off rfl rfl (bf h2390) rfl (at_off rfl rfl (bf h2390) rfl (at_off rfl rfl (bf h2390) rfl (at_lt (lt_pick false rfl (bf h2390) rfl) rfl (s_as rfl (s_nt (at_ret ?_))))))))
  have hq := oinj hr
  clear hr
  subst hq
  exact at_return (.bool false) [] hS Tryz.results96 (.cons (.tmp rfl) .nil) rfl rfl ⟨rfl, rfl⟩
 replace hr := ineg h2389 hr
 refine at_off rfl rfl (decide_eq_false h2389) rfl (at_off rfl rfl (decide_eq_false h2389) rfl (at_off rfl rfl (decide_eq_false h2389) rfl (at_off rfl rfl (decide_eq_false h2389) rfl (at_off rfl rfl (decide_eq_false h2389) rfl (at_lt (lt_pick false rfl (decide_eq_false h2389) rfl) rfl (s_mv rfl (at_off rfl rfl rfl rfl (at_off rfl rfl rfl rfl (at_off rfl rfl rfl rfl ?_)))))))))
 refine at_off rfl rfl rfl rfl (at_off rfl rfl rfl rfl (at_lt (lt_pick false rfl rfl rfl) rfl (s_as rfl (s_nt (at_ret ?_)))))
 have hq := oinj hr
 clear hr
 subst hq
 exact at_return (.bool false) [] hS Tryz.results96 (.cons (.tmp rfl) .nil) rfl rfl ⟨rfl, rfl⟩
def m98_l1 (a0 : (List D_api_Field)) (a1 : (List D_api_Field)) (p2 : (D_api_Field → D_api_Field → Option Bool)) : Nat → Nat → Option (Fl Bool Unit)
  | 0, _ => none
  | k + 1, x2401 =>
    if x2401 < a0.length then
     (a0[x2401]?).bind fun x2406 =>
     (a1[x2401]?).bind fun x2413 =>
     (p2 (⟨x2406.Tag, x2406.Ind_0, x2406.Ind_1, x2406.Subs⟩ : D_api_Field) (⟨x2413.Tag, x2413.Ind_0, x2413.Ind_1, x2413.Subs⟩ : D_api_Field)).bind fun x2420 =>
     if x2420 = true then
      m98_l1 a0 a1 p2 k (x2401 + 1)
     else
      some (Fl.ret false)
    else
     some (Fl.go ())
def m98 (a0 : (List D_api_Field)) (a1 : (List D_api_Field)) (p2 : (D_api_Field → D_api_Field → Option Bool)) : Option Bool :=
  if a0.length = a1.length then
   (m98_l1 a0 a1 p2 (a0.length + 1) 0).bind fun r => match r with
   | .ret x => some x
   | .go _ =>
    some true
  else
   some false
def post98 (r : Bool) (v : Value) (fs : List Fact) : Prop := v = .bool r ∧ fs = []
theorem en98 : Enters Tryz.prog 98 := ⟨_, Tryz.func98, by kernel_rfl, rfl⟩
theorem f98_spec {a0 : (List D_api_Field)} {a1 : (List D_api_Field)} {p2 : (D_api_Field → D_api_Field → Option Bool)} {w2393 : Value} {w2394 : Value} {w2395 : Value} {r : Bool} (hr : m98 a0 a1 p2 = some r) : Spec Tryz.prog 98 [w2393, w2394, w2395] [((Ty.slice ty69).fact a0 [w2393]), ((Ty.slice ty69).fact a1 [w2394]), (FnOk Tryz.prog w2395 (sp121 p2))] (post98 r) := by
 refine spec_start (N := 32) Tryz.func98 (by kernel_rfl) rfl rfl rfl ?_
 intro g hS
 unfold m98 at hr
 refine s_sr (s_as rfl (s_nt (at_seq (s_sr (s_mv rfl ?_)))))
 refine at_inv 0 rfl (fun i2396 => ?_)
 have l2397 := slice_len i2396
 refine at_lt (lt_flen 0 rfl rfl und23) rfl (s_mv rfl ?_)
 refine at_inv 1 rfl (fun i2398 => ?_)
 have l2399 := slice_len i2398
 refine at_lt (lt_flen 1 rfl rfl und23) rfl (at_lt (lt_neq rfl rfl) rfl (s_nt ?_))
 by_cases h2400 : a0.length = a1.length
 ·replace hr := ipos h2400 hr
  refine at_false rfl (nt (decide_eq_true (by omega))) ?_
  refine at_skip (at_then (at_seq (s_sr (s_mv rfl (at_lt (lt_flen 0 rfl rfl und23) rfl (s_mv rfl (s_nt (at_int .i64 0 (by simp only [lo, hi]; omega) ?_))))))))
  replace hr := obind hr
  obtain ⟨r2402, hl2403, hk2404⟩ := hr
  refine at_cutP (V := (Unit) × (Unit)) (fun v => r2402 = Fl.go v.1) (fun v => (⟨[], [], [], []⟩ : St)) ?_ ?_
  ·refine at_block ?_
   refine at_loopW (σ := Nat) (V := Unit) (r := r2402) (fun n s => m98_l1 a0 a1 p2 n s) (fun s e => (⟨[(1, w2394), (2, w2395), (15, w2393), (16, .int .i64 (a0.length : Int)), (17, .int .i64 (s : Int))], [], [], [((Ty.int .i64).fact (s : Int) [.int .i64 (s : Int)]), ((Ty.slice ty69).fact a1 [w2394]), (FnOk Tryz.prog w2395 (sp121 p2)), ((Ty.slice ty69).fact a0 [w2393])]⟩ : St)) (fun _ => rfl) _ 0 () hl2403 ⟨⟨rfl, ⟨rfl, ⟨rfl, ⟨rfl, ⟨rfl, trivial⟩⟩⟩⟩⟩, ⟨[], rfl⟩, ⟨[], rfl⟩, ⟨[0, 2, 3, 1], rfl⟩⟩ ?_
   clear hl2403
   intro n x2401 hr e
   skip
   skip
   change m98_l1 a0 a1 p2 (n + 1) x2401 = some r2402 at hr
   change At _ _ (⟨[(1, w2394), (2, w2395), (15, w2393), (16, .int .i64 (a0.length : Int)), (17, .int .i64 (x2401 : Int))], [], [], [((Ty.int .i64).fact (x2401 : Int) [.int .i64 (x2401 : Int)]), ((Ty.slice ty69).fact a1 [w2394]), (FnOk Tryz.prog w2395 (sp121 p2)), ((Ty.slice ty69).fact a0 [w2393])]⟩ : St) _
   rw [m98_l1] at hr
   refine s_sr (at_lt (lt_lss rfl rfl) rfl (s_nt (at_seq ?_)))
   by_cases h2405 : x2401 < a0.length
   ·replace hr := ipos h2405 hr
    refine at_true rfl (decide_eq_true (by omega)) ?_
    refine at_skip (at_then (at_seq (at_block (s_sr (s_mv rfl ?_)))))
    replace hr := obind hr
    obtain ⟨x2406, h2407, hr⟩ := hr
    have := (List.getElem?_eq_some_iff.1 h2407).1
    refine at_elem 3 rfl (nat_at' h2407) (fun p2409 ec pa2410 => ?_)
    refine at_open (A := Value) 0 rfl _ _ (fun F w h => op69 h) ?_
    rintro s2408 rfl
    refine at_lt (lt_idx rfl rfl pa2410 und23 ti69) rfl (at_lt (lt_load_peek 3 rfl ti69 rfl rfl rfl rfl rfl) rfl (at_hv rfl ?_))
    refine hv_alloc (cs := [str ([] : Str), .int .u8 0, .int .u8 0, (.slice none 0 0)]) ti69 rfl rfl (fun b2411 => ?_)
    refine s_as rfl ?_
    refine at_one 1 rfl (fun ho2412 => ?_)
    refine at_hv rfl (hv_store_box 0 (cs' := [str x2406.Tag, .int .u8 (x2406.Ind_0.toNat : Int), .int .u8 (x2406.Ind_1.toNat : Int), s2408]) rfl rfl ti69 rfl rfl rfl rfl (allc rfl (allc rfl (allc rfl (allc ho2412 rfl)))) (s_ntsr (s_mv rfl (s_mv rfl ?_))))
    replace hr := obind hr
    obtain ⟨x2413, h2414, hr⟩ := hr
    have := (List.getElem?_eq_some_iff.1 h2414).1
    refine at_elem 5 rfl (nat_at' h2414) (fun p2416 ec pa2417 => ?_)
    refine at_open (A := Value) 0 rfl _ _ (fun F w h => op69 h) ?_
    rintro s2415 rfl
    refine at_lt (lt_idx rfl rfl pa2417 und23 ti69) rfl (at_lt (lt_load_peek 3 rfl ti69 rfl rfl rfl rfl rfl) rfl (at_hv rfl ?_))
    refine hv_alloc (cs := [str ([] : Str), .int .u8 0, .int .u8 0, (.slice none 0 0)]) ti69 rfl rfl (fun b2418 => ?_)
    refine at_one 1 rfl (fun ho2419 => ?_)
    refine at_hv rfl (hv_store_box 0 (cs' := [str x2413.Tag, .int .u8 (x2413.Ind_0.toNat : Int), .int .u8 (x2413.Ind_1.toNat : Int), s2415]) rfl rfl ti69 rfl rfl rfl rfl (allc rfl (allc rfl (allc rfl (allc ho2419 rfl)))) (s_ntsr (s_mv rfl (at_lt (lt_load_box 1 rfl ti69 rfl rfl rfl rfl rfl) rfl (at_lt (lt_load_box 0 rfl ti69 rfl rfl rfl rfl rfl) rfl ?_)))))
    replace hr := obind hr
    obtain ⟨x2420, h2421, hr⟩ := hr
    refine at_derive [4, 5] (ty69.fact (⟨x2406.Tag, x2406.Ind_0, x2406.Ind_1, x2406.Subs⟩ : D_api_Field) [str x2406.Tag, .int .u8 (x2406.Ind_0.toNat : Int), .int .u8 (x2406.Ind_1.toNat : Int), s2408]) rfl (fun F w h => mk69 (x := (⟨x2406.Tag, x2406.Ind_0, x2406.Ind_1, x2406.Subs⟩ : D_api_Field)) h) ?_
    refine at_derive [1, 2] (ty69.fact (⟨x2413.Tag, x2413.Ind_0, x2413.Ind_1, x2413.Subs⟩ : D_api_Field) [str x2413.Tag, .int .u8 (x2413.Ind_0.toNat : Int), .int .u8 (x2413.Ind_1.toNat : Int), s2415]) rfl (fun F w h => mk69 (x := (⟨x2413.Tag, x2413.Ind_0, x2413.Ind_1, x2413.Subs⟩ : D_api_Field)) h) ?_
    refine at_hv rfl ?_
    refine hv_callf 12 [1, 0] rfl rfl rfl ⟨(⟨x2406.Tag, x2406.Ind_0, x2406.Ind_1, x2406.Subs⟩ : D_api_Field), (⟨x2413.Tag, x2413.Ind_0, x2413.Ind_1, x2413.Subs⟩ : D_api_Field), x2420, s2408, s2415, h2421, rfl, rfl, rfl⟩ rfl rfl ?_
    rintro _ _ ⟨rfl, rfl⟩
    refine at_lt (lt_not rfl) rfl (s_nt ?_)
    by_cases h2422 : x2420 = true
    ·replace hr := ipos h2422 hr
     refine at_false rfl (nt h2422) (at_skip (at_in (s_tr (at_lt (lt_add rfl rfl (by simp only [lo, hi]; omega)) rfl (s_mv rfl (at_nil (at_int .i64 (x2401 + 1 : Int) (by simp only [lo, hi]; omega) ?_)))))))
     exact at_again (σ := Nat) (V := Unit) (lp := fun n s => m98_l1 a0 a1 p2 n s) (S := fun s e => (⟨[(1, w2394), (2, w2395), (15, w2393), (16, .int .i64 (a0.length : Int)), (17, .int .i64 (s : Int))], [], [], [((Ty.int .i64).fact (s : Int) [.int .i64 (s : Int)]), ((Ty.slice ty69).fact a1 [w2394]), (FnOk Tryz.prog w2395 (sp121 p2)), ((Ty.slice ty69).fact a0 [w2393])]⟩ : St)) (x2401 + 1) () hr ⟨⟨rfl, ⟨rfl, ⟨rfl, ⟨rfl, ⟨rfl, trivial⟩⟩⟩⟩⟩, ⟨[false, false], rfl⟩, ⟨[], rfl⟩, ⟨[0, 12, 13, 14], rfl⟩⟩
    replace hr := ineg h2422 hr
    refine at_true rfl (nf (bf h2422)) (s_sr (s_as rfl (s_nt (at_ret ?_))))
    have hq := oinj hr
    clear hr
    subst hq
    have hq := oinj hk2404
    clear hk2404
    subst hq
    refine at_in_ret (at_then_ret (at_then_ret (at_in_ret (at_then_ret (at_then_ret ?_)))))
    exact at_return (.bool false) [] hS Tryz.results98 (.cons (.tmp rfl) .nil) rfl rfl ⟨rfl, rfl⟩
   replace hr := ineg h2405 hr
   refine at_false rfl (decide_eq_false (by omega)) ?_
   refine at_exit (at_then_exit (at_then_exit (at_in_exit ?_)))
   have hq := oinj hr
   clear hr
   subst hq
   exact at_leafP ((), ()) rfl ⟨trivial, ⟨[], rfl⟩, ⟨[], rfl⟩, ⟨[], rfl⟩⟩
  rintro ⟨_, _⟩ hp
  replace hr := hk2404
  subst hp
  clear hl2403
  change At _ _ (⟨[], [], [], []⟩ : St) _
  refine s_tsr (s_as rfl (s_nt (at_ret ?_)))
  have hq := oinj hr
  clear hr
  subst hq
  exact at_return (.bool true) [] hS Tryz.results98 (.cons (.tmp rfl) .nil) rfl rfl ⟨rfl, rfl⟩
 replace hr := ineg h2400 hr
 refine at_true rfl (nf (decide_eq_false (by omega))) ?_
 refine s_sr (s_as rfl (s_nt (at_ret ?_)))
 have hq := oinj hr
 clear hr
 subst hq
 refine at_then_ret ?_
 exact at_return (.bool false) [] hS Tryz.results98 (.cons (.tmp rfl) .nil) rfl rfl ⟨rfl, rfl⟩
def m60 (a0 : D_api_Record) (a1 : D_api_Record) : Option Bool :=
  if a0.ID = a1.ID then
   (m98 a0.Fields a1.Fields m96).bind fun x2430 =>
   some x2430
  else
   some false
def post60 (r : Bool) (v : Value) (fs : List Fact) : Prop := v = .bool r ∧ fs = []
theorem en60 : Enters Tryz.prog 60 := ⟨_, Tryz.func60, by kernel_rfl, rfl⟩
theorem f60_spec {a0 : D_api_Record} {a1 : D_api_Record} {s2423 : Value} {s2424 : Value} {r : Bool} (hr : m60 a0 a1 = some r) : Spec Tryz.prog 60 [.agg #[.int .i64 a0.ID, s2423], .agg #[.int .i64 a1.ID, s2424]] [(ty25.fact a0 [.int .i64 a0.ID, s2423]), (ty25.fact a1 [.int .i64 a1.ID, s2424])] (post60 r) := by
 refine spec_start (N := 19) Tryz.func60 (by kernel_rfl) rfl rfl rfl ?_
 intro g hS
 unfold m60 at hr
 refine at_open (A := Unit) 0 rfl (fun _ => True) (fun _ => [((Ty.int .i64).fact a0.ID [.int .i64 a0.ID]), ((Ty.slice ty69).fact a0.Fields [s2423])]) (fun F w h => ⟨(), trivial, ex25 h⟩) (fun _ _ => ?_)
 refine at_inv 0 rfl (fun l2425 => ?_)
 replace l2425 : (-9223372036854775808) ≤ a0.ID ∧ a0.ID ≤ 9223372036854775807 := l2425
 refine at_open (A := Unit) 3 rfl (fun _ => True) (fun _ => [((Ty.int .i64).fact a1.ID [.int .i64 a1.ID]), ((Ty.slice ty69).fact a1.Fields [s2424])]) (fun F w h => ⟨(), trivial, ex25 h⟩) (fun _ _ => ?_)
 refine at_inv 0 rfl (fun l2426 => ?_)
 replace l2426 : (-9223372036854775808) ≤ a1.ID ∧ a1.ID ≤ 9223372036854775807 := l2426
 refine s_sr (at_hv rfl ?_)
 refine hv_box (cs := [.int .i64 a0.ID, s2423]) rfl rfl rfl (fun b2427 => ?_)
 refine at_hv rfl ?_
 refine hv_box (cs := [.int .i64 a1.ID, s2424]) rfl rfl rfl (fun b2428 => ?_)
 refine s_as rfl (s_ntsr (s_as rfl (s_ntsr (at_lt (lt_fieldAddr 0 rfl fld25_0 rfl) rfl (at_lt (lt_load_box 1 rfl ti3 rfl rfl rfl rfl rfl) rfl (at_lt (lt_fieldAddr 0 rfl fld25_0 rfl) rfl (at_lt (lt_load_box 0 rfl ti3 rfl rfl rfl rfl rfl) rfl (at_lt (lt_eql rfl rfl) rfl (s_mv rfl ?_)))))))))
 by_cases h2429 : a0.ID = a1.ID
 ·replace hr := ipos h2429 hr
  refine at_on rfl rfl (decide_eq_true (by first | exact h2429 | omega)) ?_
  refine at_lt (lt_fieldAddr 1 rfl fld25_1 rfl) rfl ?_
  refine at_on rfl rfl (decide_eq_true (by first | exact h2429 | omega)) ?_
  refine at_lt (lt_load_box 1 rfl ti23 rfl rfl rfl rfl rfl) rfl ?_
  refine at_on rfl rfl (decide_eq_true (by first | exact h2429 | omega)) ?_
  refine at_lt (lt_fieldAddr 1 rfl fld25_1 rfl) rfl ?_
  refine at_on rfl rfl (decide_eq_true (by first | exact h2429 | omega)) ?_
  refine at_lt (lt_load_box 0 rfl ti23 rfl rfl rfl rfl rfl) rfl ?_
  refine at_on rfl rfl (decide_eq_true (by first | exact h2429 | omega)) ?_
  refine s_mv rfl ?_
  replace hr := obind hr
  obtain ⟨x2430, h2431, hr⟩ := hr
  refine at_fn 96 [] [] (sp121 m96) en96 rfl (by rintro _ _ _ ⟨a0, a1, r, s2432, s2433, h, rfl, rfl, rfl⟩; exact f96_spec h) ?_
  refine at_on rfl rfl (decide_eq_true (by first | exact h2429 | omega)) ?_
  refine at_hv rfl (hv_call0 [4, 2, 0] (f98_spec h2431) rfl rfl rfl rfl ?_)
  rintro _ _ ⟨rfl, rfl⟩
  refine at_lt (lt_pick true rfl (decide_eq_true (by first | exact h2429 | omega)) rfl) rfl ?_
  refine s_as rfl (s_nt (at_ret ?_))
  have hq := oinj hr
  clear hr
  subst hq
  exact at_return (.bool x2430) [] hS Tryz.results60 (.cons (.tmp rfl) .nil) rfl rfl ⟨rfl, rfl⟩
 replace hr := ineg h2429 hr
 refine at_off rfl rfl (decide_eq_false (by first | exact h2429 | omega)) rfl ?_
 refine at_off rfl rfl (decide_eq_false (by first | exact h2429 | omega)) rfl ?_
 refine at_off rfl rfl (decide_eq_false (by first | exact h2429 | omega)) rfl ?_
 refine at_off rfl rfl (decide_eq_false (by first | exact h2429 | omega)) rfl ?_
 refine at_off rfl rfl (decide_eq_false (by first | exact h2429 | omega)) rfl ?_
 refine at_off rfl rfl (decide_eq_false (by first | exact h2429 | omega)) rfl ?_
 refine at_lt (lt_pick false rfl (decide_eq_false (by first | exact h2429 | omega)) rfl) rfl ?_
 refine s_as rfl (s_nt (at_ret ?_))
 have hq := oinj hr
 clear hr
 subst hq
 exact at_return (.bool false) [] hS Tryz.results60 (.cons (.tmp rfl) .nil) rfl rfl ⟨rfl, rfl⟩
def m157 (a0 : List D_api_Sub) : Option (List D_api_Sub) := if a0.length ≤ 5864062014805 then some a0 else none
theorem m157_len {a0 r : List D_api_Sub} (h : m157 a0 = some r) : r.length ≤ 5864062014805 := by
 unfold m157 at h
 obtain ⟨hb, h⟩ := imust h
 have hq := oinj h
 subst hq
 exact hb
theorem f157_specL {a0 r : List D_api_Sub} {v : Value} {n : Nat} {inner : List Value} (hr : m157 a0 = some r) : SpecG Tryz.prog 157 [v] [⟨v, 66, 2, n, inner⟩] [ty66.row a0 inner] (postCloneL ty66 66 v n inner r) := by
 unfold m157 at hr
 obtain ⟨hb, hr⟩ := imust hr
 obtain rfl := oinj hr
 refine specG_start (N := 8) Tryz.func157 (by kernel_rfl) rfl rfl rfl ?_
 intro g hS
 refine at_rowq 0 rfl (fun A c hv hn => ?_)
 refine at_rown 0 0 rfl rfl rfl (fun hl => ?_)
 simp only at hv hn
 refine s_sr (at_lt (lt_assign rfl) rfl (s_nt (at_seq (s_sr (at_lt (lt_move rfl) rfl ?_)))))
 refine at_lt (lt_nilq (A := A) (n := n) (c := c) (by rw [hv]; rfl) und67) rfl ?_
 refine s_nt ?_
 cases A with
 | none =>
  obtain rfl := hn rfl
  refine at_row0 0 rfl rfl (fun hi => ?_)
  obtain rfl := List.eq_nil_of_length_eq_zero hl.symm
  refine at_true rfl rfl (s_sr (at_lt (lt_assign rfl) rfl (s_nt (at_ret (at_then_ret (at_rownew none 66 2 (at_rownil ty66 ?_)))))))
  exact at_returnG (.slice none 0 0) [true, true] [0] hS Tryz.results157 (.cons (.tmp rfl) .nil) rfl rfl rfl ⟨0, [], rfl, rfl⟩
 | some ad =>
  refine at_false rfl rfl (at_skip (s_tsr (at_hv rfl ?_)))
  refine hv_bslice (cs := []) rfl und67 ti66 rfl rfl rfl rfl rfl (fun s1 => ?_)
  refine at_lt (lt_move rfl) rfl ?_
  refine at_rowone 0 rfl rfl (fun h1 => ?_)
  refine at_hv rfl ?_
  refine hv_append 0 1 rfl rfl rfl rfl und67 ti66 rfl rfl h1 (by omega) (by omega) rfl (fun s2 => ?_)
  refine at_lt (lt_assign rfl) rfl (s_nt (at_ret ?_))
  exact at_returnG s2 [true, true] [0] hS Tryz.results157 (.cons (.tmp rfl) .nil) rfl rfl rfl ⟨0 + n, [] ++ inner, rfl, rfl⟩
theorem f157_specR {a0 r : List D_api_Sub} {v : Value} (hr : m157 a0 = some r) : SpecG Tryz.prog 157 [v] [] [ty66.slice.fact a0 [v]] (postCloneR ty66 66 r) := by
 unfold m157 at hr
 obtain ⟨hb, hr⟩ := imust hr
 obtain rfl := oinj hr
 refine specG_start (N := 8) Tryz.func157 (by kernel_rfl) rfl rfl rfl ?_
 intro g hS
 refine at_slq 0 rfl (fun A c hv hn => ?_)
 refine s_sr (at_lt (lt_assign rfl) rfl (s_nt (at_seq (s_sr (at_lt (lt_move rfl) rfl ?_)))))
 refine at_lt (lt_nilq (A := A) (n := a0.length) (c := c) (by rw [hv]; rfl) und67) rfl ?_
 refine s_nt ?_
 cases A with
 | none =>
  obtain rfl := hn rfl
  refine at_true rfl rfl (s_sr (at_lt (lt_assign rfl) rfl (s_nt (at_ret (at_then_ret (at_rownew none 66 2 (at_rownil ty66 ?_)))))))
  exact at_returnG (.slice none 0 0) [true] [0] hS Tryz.results157 (.cons (.tmp rfl) .nil) rfl rfl rfl ⟨0, [], rfl, rfl⟩
 | some ad =>
  refine at_false rfl rfl (at_skip (s_tsr (at_hv rfl ?_)))
  refine hv_bslice (cs := []) rfl und67 ti66 rfl rfl rfl rfl rfl (fun s1 => ?_)
  refine at_lt (lt_move rfl) rfl (at_hv rfl ?_)
  refine hv_append_f 0 0 rfl rfl rfl rfl und67 ti66 rfl rfl (by omega) (by omega) rfl (fun s2 u => ?_)
  refine at_lt (lt_assign rfl) rfl (s_nt (at_ret ?_))
  exact at_returnG s2 [true] [0] hS Tryz.results157 (.cons (.tmp rfl) .nil) rfl rfl rfl ⟨0 + a0.length, [] ++ u, rfl, rfl⟩

def m123 (a0 : D_api_Field) : Option D_api_Field :=
  (m157 a0.Subs).bind fun x2437 =>
  some (⟨a0.Tag, a0.Ind_0, a0.Ind_1, x2437⟩ : D_api_Field)
def post123 (r : D_api_Field) (v : Value) (fs : List Fact) : Prop := ∃ s2444 : Value, v = .agg #[str r.Tag, .int .u8 (r.Ind_0.toNat : Int), .int .u8 (r.Ind_1.toNat : Int), s2444] ∧ fs = [(ty69.fact r [str r.Tag, .int .u8 (r.Ind_0.toNat : Int), .int .u8 (r.Ind_1.toNat : Int), s2444])]
theorem en123 : Enters Tryz.prog 123 := ⟨_, Tryz.func123, by kernel_rfl, rfl⟩
theorem f123_spec {a0 : D_api_Field} {s2434 : Value} {r : D_api_Field} (hr : m123 a0 = some r) : Spec Tryz.prog 123 [.agg #[str a0.Tag, .int .u8 (a0.Ind_0.toNat : Int), .int .u8 (a0.Ind_1.toNat : Int), s2434]] [(ty69.fact a0 [str a0.Tag, .int .u8 (a0.Ind_0.toNat : Int), .int .u8 (a0.Ind_1.toNat : Int), s2434])] (post123 r) := by
 refine spec_start (N := 8) Tryz.func123 (by kernel_rfl) rfl rfl rfl ?_
 intro g hS
 unfold m123 at hr
 refine at_open (A := Unit) 0 rfl (fun _ => True) (fun _ => [(Ty.str.fact a0.Tag [str a0.Tag]), ((Ty.slice ty66).fact a0.Subs [s2434])]) (fun F w h => ⟨(), trivial, ex69 h⟩) (fun _ _ => ?_)
 refine s_sr (at_hv rfl ?_)
 refine hv_box (cs := [str a0.Tag, .int .u8 (a0.Ind_0.toNat : Int), .int .u8 (a0.Ind_1.toNat : Int), s2434]) rfl rfl rfl (fun b2435 => ?_)
 refine at_hv rfl ?_
 refine hv_alloc (cs := [str ([] : Str), .int .u8 0, .int .u8 0, (.slice none 0 0)]) ti69 rfl rfl (fun b2436 => ?_)
 refine s_ntsr (at_lt (lt_fieldAddr 3 rfl fld69_2 rfl) rfl (at_lt (lt_load_box 1 rfl ti67 rfl rfl rfl rfl rfl) rfl ?_))
 replace hr := obind hr
 obtain ⟨x2437, h2438, hr⟩ := hr
 refine at_hv rfl (hv_callG0 [] [1] (f157_specR h2438) rfl rfl rfl rfl rfl rfl ?_)
 rintro s2440 _ _ ⟨n2441, i2442, rfl, rfl⟩
 refine at_lt (lt_fieldAddr 3 rfl fld69_2 rfl) rfl ?_
 refine at_rowv 0 rfl (fun ho2443 => ?_)
 replace ho2443 := row_one (by obtain ⟨a, c, h⟩ := ho2443; exact ⟨a, _, c, h⟩)
 refine at_hv rfl (hv_store1 1 (cs' := [str a0.Tag, .int .u8 (a0.Ind_0.toNat : Int), .int .u8 (a0.Ind_1.toNat : Int), s2440]) rfl rfl ti67 rfl rfl rfl rfl ho2443 (s_ntsr (at_lt (lt_load_box 1 rfl ti69 rfl rfl rfl rfl rfl) rfl (at_hv rfl (hv_store_box 0 (cs' := [str a0.Tag, .int .u8 (a0.Ind_0.toNat : Int), .int .u8 (a0.Ind_1.toNat : Int), s2440]) rfl rfl ti69 rfl rfl rfl rfl (allc rfl (allc rfl (allc rfl (allc ho2443 rfl)))) (s_nt (at_ret ?_)))))))
 have hq := oinj hr
 clear hr
 subst hq
 refine at_release 0 0 rfl rfl rfl (by have := m157_len h2438; simp only [ty66_bytes] <;> omega) ?_
 refine at_derive [2, 0] (ty69.fact (⟨a0.Tag, a0.Ind_0, a0.Ind_1, x2437⟩ : D_api_Field) [str a0.Tag, .int .u8 (a0.Ind_0.toNat : Int), .int .u8 (a0.Ind_1.toNat : Int), s2440]) rfl (fun F w h => mk69 (x := (⟨a0.Tag, a0.Ind_0, a0.Ind_1, x2437⟩ : D_api_Field)) h) ?_
 exact at_return (.agg #[str a0.Tag, .int .u8 (a0.Ind_0.toNat : Int), .int .u8 (a0.Ind_1.toNat : Int), s2440]) [0] hS Tryz.results123 (.cons (.cell 0 rfl ti69 rfl rfl rfl rfl) .nil) rfl rfl ⟨s2440, rfl, rfl⟩
def m99_l1 (a0 : D_api_Record) : Nat → Nat → (List D_api_Field) → Option (List D_api_Field)
  | 0, _, _ => none
  | k + 1, x2452, x2453 =>
    if x2452 < a0.Fields.length then
     (a0.Fields[x2452]?).bind fun x2464 =>
     (m123 (⟨x2464.Tag, x2464.Ind_0, x2464.Ind_1, x2464.Subs⟩ : D_api_Field)).bind fun x2471 =>
     if x2453.length + 1 ≤ 2932031007402 then
      m99_l1 a0 k (x2452 + 1) (x2453 ++ [x2471])
     else none
    else
     some x2453
def m99 (a0 : D_api_Record) : Option D_api_Record :=
  (m99_l1 a0 (a0.Fields.length + 1) 0 ([] : (List D_api_Field))).bind fun x2457 =>
  some (⟨a0.ID, x2457⟩ : D_api_Record)
def post99 (r : D_api_Record) (u : Value) (rw : List Row) (fs : List Fact) : Prop := ∃ (s2486 : Value) (n : Nat) (i : List Value), u = .agg #[.int .i64 r.ID, s2486] ∧ rw = [⟨s2486, 69, 4, n, i⟩] ∧ fs = [(ty69.row r.Fields i), (pureF (r.Fields.length * ty69.bytes ≤ 140737488355328)), ((Ty.int .i64).fact r.ID [.int .i64 r.ID])]
theorem en99 : Enters Tryz.prog 99 := ⟨_, Tryz.func99, by kernel_rfl, rfl⟩
theorem f99_spec {a0 : D_api_Record} {s2445 : Value} {r : D_api_Record} (hr : m99 a0 = some r) : SpecG Tryz.prog 99 [.agg #[.int .i64 a0.ID, s2445]] [] [(ty25.fact a0 [.int .i64 a0.ID, s2445])] (post99 r) := by
 refine specG_start (N := 25) Tryz.func99 (by kernel_rfl) rfl rfl rfl ?_
 intro g hS
 unfold m99 at hr
 refine at_open (A := Unit) 0 rfl (fun _ => True) (fun _ => [((Ty.int .i64).fact a0.ID [.int .i64 a0.ID]), ((Ty.slice ty69).fact a0.Fields [s2445])]) (fun F w h => ⟨(), trivial, ex25 h⟩) (fun _ _ => ?_)
 refine at_inv 0 rfl (fun l2446 => ?_)
 replace l2446 : (-9223372036854775808) ≤ a0.ID ∧ a0.ID ≤ 9223372036854775807 := l2446
 refine s_sr (at_hv rfl ?_)
 refine hv_box (cs := [.int .i64 a0.ID, s2445]) rfl rfl rfl (fun b2447 => ?_)
 refine at_hv rfl ?_
 refine hv_alloc (cs := [.int .i64 0, (.slice none 0 0)]) ti25 rfl rfl (fun b2448 => ?_)
 refine s_ntsr (at_lt (lt_fieldAddr 0 rfl fld25_0 rfl) rfl (at_lt (lt_load_box 1 rfl ti3 rfl rfl rfl rfl rfl) rfl (at_lt (lt_build (cs := [.int .i64 a0.ID, (.slice none 0 0)]) rfl ti25 pl25 rfl) rfl (at_hv rfl ?_))))
 refine hv_alloc (cs := [.int .i64 0, (.slice none 0 0)]) ti25 rfl rfl (fun b2449 => ?_)
 refine at_hv rfl (hv_store_box 0 (cs' := [.int .i64 a0.ID, (.slice none 0 0)]) rfl rfl ti25 rfl rfl rfl rfl rfl (s_nt (at_seq (s_sr (at_lt (lt_fieldAddr 1 rfl fld25_1 rfl) rfl (at_lt (lt_load_box 2 rfl ti23 rfl rfl rfl rfl rfl) rfl ?_))))))
 refine at_inv 1 rfl (fun i2450 => ?_)
 have l2451 := slice_len i2450
 refine at_lt (lt_flen 1 rfl rfl und23) rfl (s_mv rfl (s_nt (at_int .i64 0 (by simp only [lo, hi]; omega) (at_rownew none 69 4 (at_rownil ty69 ?_)))))
 refine at_mkpure (q := (([] : (List D_api_Field)).length * ty69.bytes ≤ 140737488355328)) (by simp only [List.nil_append, List.cons_append, List.length_cons, List.length_nil, ty69_bytes] <;> omega) ?_
 replace hr := obind hr
 obtain ⟨x2457, hl2461, hr⟩ := hr
 refine at_cut (V := Value × Nat × (List Value)) (fun e => (⟨[(2, .pointer (some (Addr.add ⟨b2448, 0, none⟩ 0))), (3, .pointer (some (Addr.add ⟨b2449, 0, none⟩ 0)))], [⟨b2449, [.int .i64 a0.ID, e.1], 25⟩, ⟨b2448, [.int .i64 0, (.slice none 0 0)], 25⟩], [⟨e.1, 69, 4, e.2.1, e.2.2⟩], [(ty69.row x2457 e.2.2), (pureF (x2457.length * ty69.bytes ≤ 140737488355328)), ((Ty.int .i64).fact a0.ID [.int .i64 a0.ID])]⟩ : St)) ?_ ?_
 ·refine at_block ?_
  refine at_loopW (σ := (Nat × (List D_api_Field))) (V := Value × Nat × (List Value)) (r := x2457) (fun n s => m99_l1 a0 n s.1 s.2) (fun s e => (⟨[(2, .pointer (some (Addr.add ⟨b2448, 0, none⟩ 0))), (3, .pointer (some (Addr.add ⟨b2449, 0, none⟩ 0))), (10, s2445), (11, .int .i64 (a0.Fields.length : Int)), (12, .int .i64 (s.1 : Int))], [⟨b2449, [.int .i64 a0.ID, e.1], 25⟩, ⟨b2448, [.int .i64 0, (.slice none 0 0)], 25⟩], [⟨e.1, 69, 4, e.2.1, e.2.2⟩], [((Ty.int .i64).fact (s.1 : Int) [.int .i64 (s.1 : Int)]), (ty69.row s.2 e.2.2), (pureF (s.2.length * ty69.bytes ≤ 140737488355328)), ((Ty.slice ty69).fact a0.Fields [s2445]), ((Ty.int .i64).fact a0.ID [.int .i64 a0.ID])]⟩ : St)) (fun _ => rfl) _ (0, ([] : (List D_api_Field))) ((.slice none 0 0), 0, []) hl2461 ⟨⟨rfl, ⟨rfl, ⟨rfl, ⟨rfl, ⟨rfl, trivial⟩⟩⟩⟩⟩, ⟨[true, true, false], rfl⟩, ⟨[true], rfl⟩, ⟨[2, 1, 0, 4, 3], rfl⟩⟩ ?_
  clear hr hl2461
  intro n s hr e
  obtain ⟨x2452, x2453⟩ := s
  obtain ⟨v2454, n2455, i2456⟩ := e
  change m99_l1 a0 (n + 1) x2452 x2453 = some x2457 at hr
  change At _ _ (⟨[(2, .pointer (some (Addr.add ⟨b2448, 0, none⟩ 0))), (3, .pointer (some (Addr.add ⟨b2449, 0, none⟩ 0))), (10, s2445), (11, .int .i64 (a0.Fields.length : Int)), (12, .int .i64 (x2452 : Int))], [⟨b2449, [.int .i64 a0.ID, v2454], 25⟩, ⟨b2448, [.int .i64 0, (.slice none 0 0)], 25⟩], [⟨v2454, 69, 4, n2455, i2456⟩], [((Ty.int .i64).fact (x2452 : Int) [.int .i64 (x2452 : Int)]), (ty69.row x2453 i2456), (pureF (x2453.length * ty69.bytes ≤ 140737488355328)), ((Ty.slice ty69).fact a0.Fields [s2445]), ((Ty.int .i64).fact a0.ID [.int .i64 a0.ID])]⟩ : St) _
  rw [m99_l1] at hr
  refine s_sr (at_lt (lt_lss rfl rfl) rfl (s_nt (at_seq ?_)))
  by_cases h2463 : x2452 < a0.Fields.length
  ·replace hr := ipos h2463 hr
   refine at_true rfl (decide_eq_true (by omega)) ?_
   refine at_skip (at_then (at_seq (at_block (s_sr ?_))))
   replace hr := obind hr
   obtain ⟨x2464, h2465, hr⟩ := hr
   have := (List.getElem?_eq_some_iff.1 h2465).1
   refine at_elem 3 rfl (nat_at' h2465) (fun p2467 ec pa2468 => ?_)
   refine at_open (A := Value) 0 rfl _ _ (fun F w h => op69 h) ?_
   rintro s2466 rfl
   refine at_lt (lt_idx rfl rfl pa2468 und23 ti69) rfl (at_lt (lt_load_peek 3 rfl ti69 rfl rfl rfl rfl rfl) rfl (at_hv rfl ?_))
   refine hv_alloc (cs := [str ([] : Str), .int .u8 0, .int .u8 0, (.slice none 0 0)]) ti69 rfl rfl (fun b2469 => ?_)
   refine at_one 1 rfl (fun ho2470 => ?_)
   refine at_hv rfl (hv_store_box 0 (cs' := [str x2464.Tag, .int .u8 (x2464.Ind_0.toNat : Int), .int .u8 (x2464.Ind_1.toNat : Int), s2466]) rfl rfl ti69 rfl rfl rfl rfl (allc rfl (allc rfl (allc rfl (allc ho2470 rfl)))) (s_nt ?_))
   replace hr := obind hr
   obtain ⟨x2471, h2472, hr⟩ := hr
   replace hr := imust hr
   obtain ⟨h2475, hr⟩ := hr
   refine aa_start 7 (by kernel_rfl) ?_
   refine aa_p 0 rfl (lt_fieldAddr 1 rfl fld25_1 rfl) (aa_l 1 rfl (lt_load_box 1 rfl ti23 rfl rfl rfl rfl rfl) (aa_l 2 rfl (lt_load_box 0 rfl ti69 rfl rfl rfl rfl rfl) (aa_one 3 ?_)))
   refine at_derive [0, 1] (ty69.fact (⟨x2464.Tag, x2464.Ind_0, x2464.Ind_1, x2464.Subs⟩ : D_api_Field) [str x2464.Tag, .int .u8 (x2464.Ind_0.toNat : Int), .int .u8 (x2464.Ind_1.toNat : Int), s2466]) rfl (fun F w h => mk69 (x := (⟨x2464.Tag, x2464.Ind_0, x2464.Ind_1, x2464.Subs⟩ : D_api_Field)) h) ?_
   refine aa_op rfl rfl (hv_call0 [0] (f123_spec h2472) rfl rfl rfl rfl ?_)
   rintro _ _ ⟨s2473, rfl, rfl⟩
   refine at_open (A := Unit) 0 rfl (fun _ => True) (fun _ => [(Ty.str.fact x2471.Tag [str x2471.Tag]), ((Ty.slice ty66).fact x2471.Subs [s2473])]) (fun F w h => ⟨(), trivial, ex69 h⟩) (fun _ _ => ?_)
   refine aa_all (rs := [4]) (by kernel_rfl) rfl (ts_in 0 4 rfl rfl) (List.forall_mem_singleton.2 ?_)
   refine aa_op rfl rfl ?_
   refine hv_bslice (cs := [str x2471.Tag, .int .u8 (x2471.Ind_0.toNat : Int), .int .u8 (x2471.Ind_1.toNat : Int), s2473]) rfl und23 ti69 rfl rfl rfl rfl rfl (fun s2480 => ?_)
   refine aa_all (rs := [5]) (by kernel_rfl) rfl (ts_in 0 4 rfl rfl) (List.forall_mem_singleton.2 ?_)
   refine at_rown 1 9 rfl rfl rfl (fun hn2482 => ?_)
   refine at_one 1 rfl (fun ho2483 => ?_)
   refine aa_op rfl rfl ?_
   refine hv_append 1 0 rfl rfl rfl rfl und23 ti69 rfl rfl (allc rfl (allc rfl (allc rfl (allc ho2483 rfl)))) (by omega) (by omega) rfl (fun s2481 => ?_)
   refine at_rowsnoc 9 2 rfl rfl ?_
   refine aa_pure 6 rfl (by kernel_rfl) rfl rfl (lt_fieldAddr 1 rfl fld25_1 rfl) rfl (ts_in 0 5 rfl rfl) ?_
   refine aa_all (rs := [7]) (by kernel_rfl) rfl (ts_in 0 5 rfl rfl) (List.forall_mem_singleton.2 ?_)
   refine at_rowv 1 rfl (fun ho2484 => ?_)
   replace ho2484 := row_one (by obtain ⟨a, c, h⟩ := ho2484; exact ⟨a, _, c, h⟩)
   refine aa_op rfl rfl (hv_store1 1 (cs' := [.int .i64 a0.ID, s2481]) rfl rfl ti23 rfl rfl rfl rfl ho2484 ?_)
   refine aa_done (by kernel_rfl) (ts_out rfl) ?_
   refine at_in (s_tr (at_lt (lt_add rfl rfl (by simp only [lo, hi]; omega)) rfl (s_mv rfl (at_nil (at_int .i64 (x2452 + 1 : Int) (by simp only [lo, hi]; omega) ?_)))))
   refine at_mkpure (q := ((x2453 ++ [x2471]).length * ty69.bytes ≤ 140737488355328)) (by simp only [List.length_append, List.length_cons, List.length_nil, ty69_bytes] <;> omega) ?_
   exact at_again (σ := (Nat × (List D_api_Field))) (V := Value × Nat × (List Value)) (lp := fun n s => m99_l1 a0 n s.1 s.2) (S := fun s e => (⟨[(2, .pointer (some (Addr.add ⟨b2448, 0, none⟩ 0))), (3, .pointer (some (Addr.add ⟨b2449, 0, none⟩ 0))), (10, s2445), (11, .int .i64 (a0.Fields.length : Int)), (12, .int .i64 (s.1 : Int))], [⟨b2449, [.int .i64 a0.ID, e.1], 25⟩, ⟨b2448, [.int .i64 0, (.slice none 0 0)], 25⟩], [⟨e.1, 69, 4, e.2.1, e.2.2⟩], [((Ty.int .i64).fact (s.1 : Int) [.int .i64 (s.1 : Int)]), (ty69.row s.2 e.2.2), (pureF (s.2.length * ty69.bytes ≤ 140737488355328)), ((Ty.slice ty69).fact a0.Fields [s2445]), ((Ty.int .i64).fact a0.ID [.int .i64 a0.ID])]⟩ : St)) (x2452 + 1, x2453 ++ [x2471]) (s2481, n2455 + 1, i2456 ++ [str x2471.Tag, .int .u8 (x2471.Ind_0.toNat : Int), .int .u8 (x2471.Ind_1.toNat : Int), s2473]) hr ⟨⟨rfl, ⟨rfl, ⟨rfl, ⟨rfl, ⟨rfl, trivial⟩⟩⟩⟩⟩, ⟨[false, true, true], rfl⟩, ⟨[false, true], rfl⟩, ⟨[1, 2, 0, 14, 15], rfl⟩⟩
  replace hr := ineg h2463 hr
  refine at_false rfl (decide_eq_false (by omega)) ?_
  refine at_exit (at_then_exit (at_then_exit (at_in_exit ?_)))
  have hq := oinj hr
  clear hr
  subst hq
  exact at_leaf (v2454, n2455, i2456) ⟨⟨rfl, ⟨rfl, trivial⟩⟩, ⟨[true, true], rfl⟩, ⟨[true], rfl⟩, ⟨[1, 2, 4], rfl⟩⟩
 clear hl2461
 intro e
 obtain ⟨v2458, n2459, i2460⟩ := e
 change At _ _ (⟨[(2, .pointer (some (Addr.add ⟨b2448, 0, none⟩ 0))), (3, .pointer (some (Addr.add ⟨b2449, 0, none⟩ 0)))], [⟨b2449, [.int .i64 a0.ID, v2458], 25⟩, ⟨b2448, [.int .i64 0, (.slice none 0 0)], 25⟩], [⟨v2458, 69, 4, n2459, i2460⟩], [(ty69.row x2457 i2460), (pureF (x2457.length * ty69.bytes ≤ 140737488355328)), ((Ty.int .i64).fact a0.ID [.int .i64 a0.ID])]⟩ : St) _
 refine s_tsr (at_lt (lt_load_box 0 rfl ti25 rfl rfl rfl rfl rfl) rfl ?_)
 refine at_rowv 0 rfl (fun ho2485 => ?_)
 replace ho2485 := row_one (by obtain ⟨a, c, h⟩ := ho2485; exact ⟨a, _, c, h⟩)
 refine at_hv rfl (hv_store_box 1 (cs' := [.int .i64 a0.ID, v2458]) rfl rfl ti25 rfl rfl rfl rfl (allc rfl (allc ho2485 rfl)) (s_nt (at_ret ?_)))
 have hq := oinj hr
 clear hr
 subst hq
 exact at_returnG (.agg #[.int .i64 a0.ID, v2458]) [true] [0, 1, 2] hS Tryz.results99 (.cons (.cell 1 rfl ti25 rfl rfl rfl rfl) .nil) rfl rfl rfl ⟨_, _, _, rfl, rfl, rfl⟩
def m158 (a0 : Str) (a1 : Str) : Option Int := some (Lib.compareBytes a0 a1)
theorem f158_specX {a0 : Str} {a1 : Str} {r : Int} (hr : m158 a0 a1 = some r) : SpecX Tryz.prog 158 [str a0, str a1] (postInt r) := by
 unfold m158 at hr
 have hq := oinj hr
 subst hq
 exact ext_compare Tryz.func158 (by kernel_rfl) (by kernel_rfl) rfl rfl

def m124 (a0 : Str) (a1 : Str) : Option Int :=
  (m158 a0 a1).bind fun x2487 =>
  some x2487
def post124 (r : Int) (v : Value) (fs : List Fact) : Prop := v = .int .i64 r ∧ fs = [((Ty.int .i64).fact r [.int .i64 r])]
theorem en124 : Enters Tryz.prog 124 := ⟨_, Tryz.func124, by kernel_rfl, rfl⟩
theorem f124_spec {a0 : Str} {a1 : Str} {r : Int} (hr : m124 a0 a1 = some r) : Spec Tryz.prog 124 [str a0, str a1] [(Ty.str.fact a0 [str a0]), (Ty.str.fact a1 [str a1])] (post124 r) := by
 refine spec_start (N := 8) Tryz.func124 (by kernel_rfl) rfl rfl rfl ?_
 intro g hS
 unfold m124 at hr
 refine s_sr (s_as rfl (s_ntsr (s_mv rfl (s_mv rfl ?_))))
 replace hr := obind hr
 obtain ⟨x2487, h2488, hr⟩ := hr
 refine at_hv rfl (hv_callx (f158_specX h2488) rfl rfl rfl ?_)
 rintro _ _ ⟨rfl, rfl⟩
 refine at_inv 0 rfl (fun l2489 => ?_)
 replace l2489 : (-9223372036854775808) ≤ x2487 ∧ x2487 ≤ 9223372036854775807 := l2489
 refine s_as rfl (s_nt (at_ret ?_))
 have hq := oinj hr
 clear hr
 subst hq
 exact at_return (.int .i64 x2487) [0] hS Tryz.results124 (.cons (.tmp rfl) .nil) rfl rfl ⟨rfl, rfl⟩
def m101 (a0 : Str) (a1 : Str) : Option Int :=
  (m124 a0 a1).bind fun x2490 =>
  some x2490
def post101 (r : Int) (v : Value) (fs : List Fact) : Prop := v = .int .i64 r ∧ fs = [((Ty.int .i64).fact r [.int .i64 r])]
theorem en101 : Enters Tryz.prog 101 := ⟨_, Tryz.func101, by kernel_rfl, rfl⟩
theorem f101_spec {a0 : Str} {a1 : Str} {r : Int} (hr : m101 a0 a1 = some r) : Spec Tryz.prog 101 [str a0, str a1] [(Ty.str.fact a0 [str a0]), (Ty.str.fact a1 [str a1])] (post101 r) := by
 refine spec_start (N := 8) Tryz.func101 (by kernel_rfl) rfl rfl rfl ?_
 intro g hS
 unfold m101 at hr
 refine s_sr (s_as rfl (s_ntsr (s_mv rfl (s_mv rfl ?_))))
 replace hr := obind hr
 obtain ⟨x2490, h2491, hr⟩ := hr
 refine at_hv rfl (hv_call0 [0, 1] (f124_spec h2491) rfl rfl rfl rfl ?_)
 rintro _ _ ⟨rfl, rfl⟩
 refine at_inv 0 rfl (fun l2492 => ?_)
 replace l2492 : (-9223372036854775808) ≤ x2490 ∧ x2490 ≤ 9223372036854775807 := l2492
 refine s_as rfl (s_nt (at_ret ?_))
 have hq := oinj hr
 clear hr
 subst hq
 exact at_return (.int .i64 x2490) [0] hS Tryz.results101 (.cons (.tmp rfl) .nil) rfl rfl ⟨rfl, rfl⟩
def m100 (a0 : D_api_Field) (a1 : D_api_Field) : Option Int :=
  (m101 a0.Tag a1.Tag).bind fun x2497 =>
  some x2497
def post100 (r : Int) (v : Value) (fs : List Fact) : Prop := v = .int .i64 r ∧ fs = [((Ty.int .i64).fact r [.int .i64 r])]
theorem en100 : Enters Tryz.prog 100 := ⟨_, Tryz.func100, by kernel_rfl, rfl⟩
theorem f100_spec {a0 : D_api_Field} {a1 : D_api_Field} {s2493 : Value} {s2494 : Value} {r : Int} (hr : m100 a0 a1 = some r) : Spec Tryz.prog 100 [.agg #[str a0.Tag, .int .u8 (a0.Ind_0.toNat : Int), .int .u8 (a0.Ind_1.toNat : Int), s2493], .agg #[str a1.Tag, .int .u8 (a1.Ind_0.toNat : Int), .int .u8 (a1.Ind_1.toNat : Int), s2494]] [(ty69.fact a0 [str a0.Tag, .int .u8 (a0.Ind_0.toNat : Int), .int .u8 (a0.Ind_1.toNat : Int), s2493]), (ty69.fact a1 [str a1.Tag, .int .u8 (a1.Ind_0.toNat : Int), .int .u8 (a1.Ind_1.toNat : Int), s2494])] (post100 r) := by
 refine spec_start (N := 10) Tryz.func100 (by kernel_rfl) rfl rfl rfl ?_
 intro g hS
 unfold m100 at hr
 refine at_open (A := Unit) 0 rfl (fun _ => True) (fun _ => [(Ty.str.fact a0.Tag [str a0.Tag]), ((Ty.slice ty66).fact a0.Subs [s2493])]) (fun F w h => ⟨(), trivial, ex69 h⟩) (fun _ _ => ?_)
 refine at_open (A := Unit) 3 rfl (fun _ => True) (fun _ => [(Ty.str.fact a1.Tag [str a1.Tag]), ((Ty.slice ty66).fact a1.Subs [s2494])]) (fun F w h => ⟨(), trivial, ex69 h⟩) (fun _ _ => ?_)
 refine s_sr (at_hv rfl ?_)
 refine hv_box (cs := [str a0.Tag, .int .u8 (a0.Ind_0.toNat : Int), .int .u8 (a0.Ind_1.toNat : Int), s2493]) rfl rfl rfl (fun b2495 => ?_)
 refine at_hv rfl ?_
 refine hv_box (cs := [str a1.Tag, .int .u8 (a1.Ind_0.toNat : Int), .int .u8 (a1.Ind_1.toNat : Int), s2494]) rfl rfl rfl (fun b2496 => ?_)
 refine s_as rfl (s_ntsr (at_lt (lt_fieldAddr 0 rfl fld69_0 rfl) rfl (at_lt (lt_load_box 1 rfl ti9 rfl rfl rfl rfl rfl) rfl (at_lt (lt_fieldAddr 0 rfl fld69_0 rfl) rfl (at_lt (lt_load_box 0 rfl ti9 rfl rfl rfl rfl rfl) rfl ?_)))))
 replace hr := obind hr
 obtain ⟨x2497, h2498, hr⟩ := hr
 refine at_hv rfl (hv_call0 [2, 0] (f101_spec h2498) rfl rfl rfl rfl ?_)
 rintro _ _ ⟨rfl, rfl⟩
 refine at_inv 0 rfl (fun l2499 => ?_)
 replace l2499 : (-9223372036854775808) ≤ x2497 ∧ x2497 ≤ 9223372036854775807 := l2499
 refine s_as rfl (s_nt (at_ret ?_))
 have hq := oinj hr
 clear hr
 subst hq
 exact at_return (.int .i64 x2497) [0] hS Tryz.results100 (.cons (.tmp rfl) .nil) rfl rfl ⟨rfl, rfl⟩
def m61 (a0 : D_api_Record) : Option D_api_Record :=
  (m99 (⟨a0.ID, a0.Fields⟩ : D_api_Record)).bind fun x2504 =>
  (m76 x2504.Fields m100).bind fun x2512 =>
  some (⟨x2504.ID, x2512⟩ : D_api_Record)
def post61 (r : D_api_Record) (v : Value) (fs : List Fact) : Prop := ∃ s2519 : Value, v = .agg #[.int .i64 r.ID, s2519] ∧ fs = [(ty25.fact r [.int .i64 r.ID, s2519])]
theorem en61 : Enters Tryz.prog 61 := ⟨_, Tryz.func61, by kernel_rfl, rfl⟩
theorem f61_spec {a0 : D_api_Record} {s2500 : Value} {r : D_api_Record} (hr : m61 a0 = some r) : Spec Tryz.prog 61 [.agg #[.int .i64 a0.ID, s2500]] [(ty25.fact a0 [.int .i64 a0.ID, s2500])] (post61 r) := by
 refine spec_start (N := 10) Tryz.func61 (by kernel_rfl) rfl rfl rfl ?_
 intro g hS
 unfold m61 at hr
 refine at_open (A := Unit) 0 rfl (fun _ => True) (fun _ => [((Ty.int .i64).fact a0.ID [.int .i64 a0.ID]), ((Ty.slice ty69).fact a0.Fields [s2500])]) (fun F w h => ⟨(), trivial, ex25 h⟩) (fun _ _ => ?_)
 refine at_inv 0 rfl (fun l2501 => ?_)
 replace l2501 : (-9223372036854775808) ≤ a0.ID ∧ a0.ID ≤ 9223372036854775807 := l2501
 refine s_sr (at_hv rfl ?_)
 refine hv_box (cs := [.int .i64 a0.ID, s2500]) rfl rfl rfl (fun b2502 => ?_)
 refine at_hv rfl ?_
 refine hv_alloc (cs := [.int .i64 0, (.slice none 0 0)]) ti25 rfl rfl (fun b2503 => ?_)
 refine s_ntsr (at_lt (lt_load_box 1 rfl ti25 rfl rfl rfl rfl rfl) rfl ?_)
 replace hr := obind hr
 obtain ⟨x2504, h2505, hr⟩ := hr
 refine at_derive [0, 1] (ty25.fact (⟨a0.ID, a0.Fields⟩ : D_api_Record) [.int .i64 a0.ID, s2500]) rfl (fun F w h => mk25 (x := (⟨a0.ID, a0.Fields⟩ : D_api_Record)) h) ?_
 refine at_hv rfl (hv_callG0 [] [0] (f99_spec h2505) rfl rfl rfl rfl rfl rfl ?_)
 rintro _ _ _ ⟨s2506, n2507, i2508, rfl, rfl, rfl⟩
 refine at_inv 2 rfl (fun l2509 => ?_)
 replace l2509 : (-9223372036854775808) ≤ x2504.ID ∧ x2504.ID ≤ 9223372036854775807 := l2509
 refine at_hv rfl ?_
 refine hv_alloc (cs := [.int .i64 0, (.slice none 0 0)]) ti25 rfl rfl (fun b2510 => ?_)
 refine at_rowv 0 rfl (fun ho2511 => ?_)
 replace ho2511 := row_one (by obtain ⟨a, c, h⟩ := ho2511; exact ⟨a, _, c, h⟩)
 refine at_hv rfl (hv_store_box 0 (cs' := [.int .i64 x2504.ID, s2506]) rfl rfl ti25 rfl rfl rfl rfl (allc rfl (allc ho2511 rfl)) (s_ntsr (at_lt (lt_fieldAddr 1 rfl fld25_1 rfl) rfl (at_lt (lt_load_box 0 rfl ti23 rfl rfl rfl rfl rfl) rfl ?_))))
 replace hr := obind hr
 obtain ⟨x2512, h2513, hr⟩ := hr
 refine at_fn 100 [] [] (sp116 m100) en100 rfl (by rintro _ _ _ ⟨a0, a1, r, s2514, s2515, h, rfl, rfl, rfl⟩; exact f100_spec h) ?_
 refine at_pure 2 rfl (fun hb2516 => ?_)
 refine at_hv rfl (hv_callG0 [true] [1, 2, 0] (f76_spec h2513) rfl rfl rfl rfl rfl rfl ?_)
 rintro _ _ _ ⟨rfl, i2517, rfl, rfl⟩
 refine s_ntsr (at_lt (lt_load_box 0 rfl ti25 rfl rfl rfl rfl rfl) rfl (at_hv rfl (hv_store_box 1 (cs' := [.int .i64 x2504.ID, s2506]) rfl rfl ti25 rfl rfl rfl rfl (allc rfl (allc ho2511 rfl)) (s_nt (at_ret ?_)))))
 have hq := oinj hr
 clear hr
 subst hq
 refine at_pure 1 rfl (fun hb2518 => ?_)
 refine at_release 0 0 rfl rfl rfl hb2518 ?_
 refine at_derive [6, 0] (ty25.fact (⟨x2504.ID, x2512⟩ : D_api_Record) [.int .i64 x2504.ID, s2506]) rfl (fun F w h => mk25 (x := (⟨x2504.ID, x2512⟩ : D_api_Record)) h) ?_
 exact at_return (.agg #[.int .i64 x2504.ID, s2506]) [0] hS Tryz.results61 (.cons (.cell 1 rfl ti25 rfl rfl rfl rfl) .nil) rfl rfl ⟨s2506, rfl, rfl⟩
def m63 (a0 : D_api_Sub) (c0 : D_crosswalk_Entry) : Option Bool :=
  (m44 c0 a0.Code).bind fun x2523 =>
  some (!x2523.2)
def post63 (r : Bool) (v : Value) (fs : List Fact) : Prop := v = .bool r ∧ fs = []
theorem en63 : Enters Tryz.prog 63 := ⟨_, Tryz.func63, by kernel_rfl, rfl⟩
theorem f63_spec {a0 : D_api_Sub} {c0 : D_crosswalk_Entry} {b2520 : Nat} {s2521 : Value} {r : Bool} (hr : m63 a0 c0 = some r) : Spec Tryz.prog 63 [.agg #[.int .u8 (a0.Code.toNat : Int), str a0.Value], .pointer (some (Addr.add ⟨b2520, 0, none⟩ 0))] [(ty66.fact a0 [.int .u8 (a0.Code.toNat : Int), str a0.Value]), (peek ⟨b2520, 0, none⟩ [str c0.From, str c0.To, s2521]), (ty76.fact c0 [str c0.From, str c0.To, s2521])] (post63 r) := by
 refine spec_start (N := 15) Tryz.func63 (by kernel_rfl) rfl rfl rfl ?_
 intro g hS
 unfold m63 at hr
 refine at_open (A := Unit) 0 rfl (fun _ => True) (fun _ => [(Ty.str.fact a0.Value [str a0.Value])]) (fun F w h => ⟨(), trivial, ex66 h⟩) (fun _ _ => ?_)
 refine at_open (A := Unit) 3 rfl (fun _ => True) (fun _ => [(Ty.str.fact c0.From [str c0.From]), (Ty.str.fact c0.To [str c0.To]), ((Ty.slice ty82).fact c0.Codes [s2521])]) (fun F w h => ⟨(), trivial, ex76 h⟩) (fun _ _ => ?_)
 refine s_sr (at_hv rfl ?_)
 refine hv_box (cs := [.int .u8 (a0.Code.toNat : Int), str a0.Value]) rfl rfl rfl (fun b2522 => ?_)
 refine s_as rfl (s_ntsr (at_lt (lt_load_peek 5 rfl ti76 rfl rfl rfl rfl rfl) rfl (at_lt (lt_fieldAddr 0 rfl fld66_0 rfl) rfl (at_lt (lt_load_box 0 rfl ti5 rfl rfl rfl rfl rfl) rfl ?_))))
 replace hr := obind hr
 obtain ⟨x2523, h2524, hr⟩ := hr
 refine at_hv rfl (hv_call0 [6] (f44_spec h2524) rfl rfl rfl rfl ?_)
 rintro _ _ ⟨rfl, rfl⟩
 refine s_mv rfl (at_lt (lt_extract rfl rfl) rfl (at_lt (lt_extract rfl rfl) rfl (s_as rfl (s_as rfl (s_ntsr (s_mv rfl (at_lt (lt_not rfl) rfl (s_as rfl (s_nt ?_)))))))))
 refine at_ret ?_
 have hq := oinj hr
 clear hr
 subst hq
 exact at_return (.bool (!x2523.2)) [] hS Tryz.results63 (.cons (.tmp rfl) .nil) rfl rfl ⟨rfl, rfl⟩
def m30_l1 (a0 : (List D_crosswalk_Entry)) (a1 : D_api_Record) : Nat → Nat → Option (Fl Bool Unit)
  | 0, _ => none
  | k + 1, x2545 =>
    if x2545 < a1.Fields.length then
     (a1.Fields[x2545]?).bind fun x2550 =>
     (m43 a0 x2550.Tag).bind fun x2557 =>
     if x2557.2 = true then
      (m62 x2550.Subs (fun y0 => m63 y0 (⟨x2557.1.From, x2557.1.To, x2557.1.Codes⟩ : D_crosswalk_Entry))).bind fun x2563 =>
      if x2563 = true then
       some (Fl.ret false)
      else
       m30_l1 a0 a1 k (x2545 + 1)
     else
      some (Fl.ret false)
    else
     some (Fl.go ())
def m30 (a0 : (List D_crosswalk_Entry)) (a1 : D_api_Record) : Option Bool :=
  (m27 a0).bind fun x2529 =>
  if x2529 = true then
   (m59 (⟨a1.ID, a1.Fields⟩ : D_api_Record)).bind fun x2532 =>
   if x2532 = true then
    (m61 (⟨a1.ID, a1.Fields⟩ : D_api_Record)).bind fun x2535 =>
    (m60 x2535 (⟨a1.ID, a1.Fields⟩ : D_api_Record)).bind fun x2539 =>
    if x2539 = true then
     (m30_l1 a0 a1 (a1.Fields.length + 1) 0).bind fun r => match r with
     | .ret x => some x
     | .go _ =>
      some true
    else
     some false
   else
    some false
  else
   some false
def post30 (r : Bool) (v : Value) (fs : List Fact) : Prop := v = .bool r ∧ fs = []
theorem en30 : Enters Tryz.prog 30 := ⟨_, Tryz.func30, by kernel_rfl, rfl⟩
theorem f30_spec {a0 : (List D_crosswalk_Entry)} {a1 : D_api_Record} {w2525 : Value} {s2526 : Value} {r : Bool} (hr : m30 a0 a1 = some r) : Spec Tryz.prog 30 [w2525, .agg #[.int .i64 a1.ID, s2526]] [((Ty.slice ty76).fact a0 [w2525]), (ty25.fact a1 [.int .i64 a1.ID, s2526]), (utf8F 1 2)] (post30 r) := by
 refine spec_start (N := 47) Tryz.func30 (by kernel_rfl) rfl rfl rfl ?_
 intro g hS
 unfold m30 at hr
 refine at_open (A := Unit) 1 rfl (fun _ => True) (fun _ => [((Ty.int .i64).fact a1.ID [.int .i64 a1.ID]), ((Ty.slice ty69).fact a1.Fields [s2526])]) (fun F w h => ⟨(), trivial, ex25 h⟩) (fun _ _ => ?_)
 refine at_inv 0 rfl (fun l2527 => ?_)
 replace l2527 : (-9223372036854775808) ≤ a1.ID ∧ a1.ID ≤ 9223372036854775807 := l2527
 refine s_sr (at_hv rfl ?_)
 refine hv_box (cs := [.int .i64 a1.ID, s2526]) rfl rfl rfl (fun b2528 => ?_)
 refine s_as rfl (s_nt (at_seq (at_seq ?_)))
 replace hr := obind hr
 obtain ⟨x2529, h2530, hr⟩ := hr
 by_cases h2531 : x2529 = true
 ·replace hr := ipos h2531 hr
  replace hr := obind hr
  obtain ⟨x2532, h2533, hr⟩ := hr
  by_cases h2534 : x2532 = true
  ·replace hr := ipos h2534 hr
   replace hr := obind hr
   obtain ⟨x2535, h2536, hr⟩ := hr
   replace hr := obind hr
   obtain ⟨x2539, h2540, hr⟩ := hr
   refine aa_start 15 (by kernel_rfl) ?_
   refine aa_p 0 rfl (lt_move rfl) (aa_one 1 (aa_op rfl rfl (hv_call0 [2] (f27_spec h2530) rfl rfl rfl rfl ?_)))
   rintro _ _ ⟨rfl, rfl⟩
   refine aa_p 2 rfl (lt_not rfl) (aa_p 3 rfl (lt_move rfl) ?_)
   refine aa_lg 4 rfl ⟨12, rfl, .inl ⟨_, rfl, gdq (v := false) (nt h2531) rfl⟩⟩ (lt_load_box 0 rfl ti25 rfl rfl rfl rfl rfl) ?_
   refine aa_one 5 ?_
   refine at_derive [0, 1] (ty25.fact (⟨a1.ID, a1.Fields⟩ : D_api_Record) [.int .i64 a1.ID, s2526]) rfl (fun F w h => mk25 (x := (⟨a1.ID, a1.Fields⟩ : D_api_Record)) h) ?_
   refine aa_op rfl ⟨12, rfl, .inl ⟨_, rfl, gdq (v := false) (nt h2531) rfl⟩⟩ ?_
   refine hv_call0 [0, 5] (f59_spec h2533) rfl rfl rfl rfl ?_
   rintro _ _ ⟨rfl, rfl⟩
   refine aa_pure 6 rfl (by kernel_rfl) rfl ⟨12, rfl, .inl ⟨_, rfl, gdq (v := false) (nt h2531) rfl⟩⟩ (lt_not rfl) rfl (ts_in 0 1 rfl rfl) ?_
   refine aa_pure 7 rfl (by kernel_rfl) rfl rfl (lt_pick false rfl (nt h2531) rfl) rfl (ts_in 0 1 rfl rfl) ?_
   refine aa_pure 8 rfl (by kernel_rfl) rfl rfl (lt_move rfl) rfl (ts_in 0 1 rfl rfl) ?_
   refine aa_load 9 rfl (by kernel_rfl) rfl ⟨17, rfl, .inl ⟨_, rfl, gdq (v := false) (nt h2534) rfl⟩⟩ (lt_load_box 0 rfl ti25 rfl rfl rfl rfl rfl) rfl (ts_in 0 1 rfl rfl) ?_
   refine aa_load 11 rfl (by kernel_rfl) rfl ⟨17, rfl, .inl ⟨_, rfl, gdq (v := false) (nt h2534) rfl⟩⟩ (lt_load_box 0 rfl ti25 rfl rfl rfl rfl rfl) rfl (ts_in 0 1 rfl rfl) ?_
   refine aa_all (rs := [10]) (by kernel_rfl) rfl (ts_in 0 1 rfl rfl) (List.forall_mem_singleton.2 ?_)
   refine aa_op rfl ⟨17, rfl, .inl ⟨_, rfl, gdq (v := false) (nt h2534) rfl⟩⟩ ?_
   refine hv_call0 [0] (f61_spec h2536) rfl rfl rfl rfl ?_
   rintro _ _ ⟨s2537, rfl, rfl⟩
   refine at_open (A := Unit) 0 rfl (fun _ => True) (fun _ => [((Ty.int .i64).fact x2535.ID [.int .i64 x2535.ID]), ((Ty.slice ty69).fact x2535.Fields [s2537])]) (fun F w h => ⟨(), trivial, ex25 h⟩) (fun _ _ => ?_)
   refine at_inv 0 rfl (fun l2541 => ?_)
   replace l2541 : (-9223372036854775808) ≤ x2535.ID ∧ x2535.ID ≤ 9223372036854775807 := l2541
   refine aa_all (rs := [12]) (by kernel_rfl) rfl (ts_in 0 4 rfl rfl) (List.forall_mem_singleton.2 ?_)
   refine aa_op rfl ⟨17, rfl, .inl ⟨_, rfl, gdq (v := false) (nt h2534) rfl⟩⟩ ?_
   refine hv_call0 [2, 3] (f60_spec h2540) rfl rfl rfl rfl ?_
   rintro _ _ ⟨rfl, rfl⟩
   refine aa_pure 13 rfl (by kernel_rfl) rfl ⟨17, rfl, .inl ⟨_, rfl, gdq (v := false) (nt h2534) rfl⟩⟩ (lt_not rfl) rfl (ts_in 0 4 rfl rfl) ?_
   refine aa_pure 14 rfl (by kernel_rfl) rfl rfl (lt_pick false rfl (nt h2534) rfl) rfl (ts_in 0 4 rfl rfl) ?_
   refine aa_done (by kernel_rfl) (ts_in 0 4 rfl rfl) ?_
   refine at_then ?_
   by_cases h2542 : x2539 = true
   ·replace hr := ipos h2542 hr
    refine at_false rfl (nt h2542) (at_skip (at_then (at_seq (s_sr (at_lt (lt_fieldAddr 1 rfl fld25_1 rfl) rfl (at_lt (lt_load_box 0 rfl ti23 rfl rfl rfl rfl rfl) rfl ?_))))))
    refine at_inv 5 rfl (fun i2543 => ?_)
    have l2544 := slice_len i2543
    refine at_lt (lt_flen 5 rfl rfl und23) rfl (s_mv rfl (s_nt (at_int .i64 0 (by simp only [lo, hi]; omega) ?_)))
    replace hr := obind hr
    obtain ⟨r2546, hl2547, hk2548⟩ := hr
    refine at_cutP (V := (Unit) × (Unit)) (fun v => r2546 = Fl.go v.1) (fun v => (⟨[], [], [], [(utf8F 1 2)]⟩ : St)) ?_ ?_
    ·refine at_block ?_
     refine at_loopW (σ := Nat) (V := Unit) (r := r2546) (fun n s => m30_l1 a0 a1 n s) (fun s e => (⟨[(0, w2525), (25, s2526), (26, .int .i64 (a1.Fields.length : Int)), (27, .int .i64 (s : Int))], [], [], [((Ty.int .i64).fact (s : Int) [.int .i64 (s : Int)]), ((Ty.slice ty76).fact a0 [w2525]), ((Ty.slice ty69).fact a1.Fields [s2526]), (utf8F 1 2)]⟩ : St)) (fun _ => rfl) _ 0 () hl2547 ⟨⟨rfl, ⟨rfl, ⟨rfl, ⟨rfl, trivial⟩⟩⟩⟩, ⟨[false], rfl⟩, ⟨[], rfl⟩, ⟨[0, 7, 6, 9], rfl⟩⟩ ?_
     clear hl2547
     intro n x2545 hr e
     skip
     skip
     change m30_l1 a0 a1 (n + 1) x2545 = some r2546 at hr
     change At _ _ (⟨[(0, w2525), (25, s2526), (26, .int .i64 (a1.Fields.length : Int)), (27, .int .i64 (x2545 : Int))], [], [], [((Ty.int .i64).fact (x2545 : Int) [.int .i64 (x2545 : Int)]), ((Ty.slice ty76).fact a0 [w2525]), ((Ty.slice ty69).fact a1.Fields [s2526]), (utf8F 1 2)]⟩ : St) _
     rw [m30_l1] at hr
     refine s_sr (at_lt (lt_lss rfl rfl) rfl (s_nt (at_seq ?_)))
     by_cases h2549 : x2545 < a1.Fields.length
     ·replace hr := ipos h2549 hr
      refine at_true rfl (decide_eq_true (by omega)) ?_
      refine at_skip (at_then (at_seq (at_block (s_sr ?_))))
      replace hr := obind hr
      obtain ⟨x2550, h2551, hr⟩ := hr
      have := (List.getElem?_eq_some_iff.1 h2551).1
      refine at_elem 2 rfl (nat_at' h2551) (fun p2553 ec pa2554 => ?_)
      refine at_open (A := Value) 0 rfl _ _ (fun F w h => op69 h) ?_
      rintro s2552 rfl
      refine at_lt (lt_idx rfl rfl pa2554 und23 ti69) rfl (at_lt (lt_load_peek 3 rfl ti69 rfl rfl rfl rfl rfl) rfl (at_hv rfl ?_))
      refine hv_alloc (cs := [str ([] : Str), .int .u8 0, .int .u8 0, (.slice none 0 0)]) ti69 rfl rfl (fun b2555 => ?_)
      refine at_one 1 rfl (fun ho2556 => ?_)
      refine at_hv rfl (hv_store_box 0 (cs' := [str x2550.Tag, .int .u8 (x2550.Ind_0.toNat : Int), .int .u8 (x2550.Ind_1.toNat : Int), s2552]) rfl rfl ti69 rfl rfl rfl rfl (allc rfl (allc rfl (allc rfl (allc ho2556 rfl)))) (s_ntsr (s_mv rfl (at_lt (lt_fieldAddr 0 rfl fld69_0 rfl) rfl (at_lt (lt_load_box 0 rfl ti9 rfl rfl rfl rfl rfl) rfl ?_)))))
      replace hr := obind hr
      obtain ⟨x2557, h2558, hr⟩ := hr
      refine at_hv rfl (hv_call0 [5, 0] (f43_spec h2558) rfl rfl rfl rfl ?_)
      rintro _ _ ⟨s2559, rfl, rfl⟩
      refine at_open (A := Unit) 0 rfl (fun _ => True) (fun _ => [(Ty.str.fact x2557.1.From [str x2557.1.From]), (Ty.str.fact x2557.1.To [str x2557.1.To]), ((Ty.slice ty82).fact x2557.1.Codes [s2559])]) (fun F w h => ⟨(), trivial, ex76 h⟩) (fun _ _ => ?_)
      refine s_mv rfl (at_lt (lt_extract rfl rfl) rfl (at_lt (lt_extract rfl rfl) rfl (at_hv rfl ?_)))
      refine hv_alloc (cs := [str ([] : Str), str ([] : Str), (.slice none 0 0)]) ti76 rfl rfl (fun b2560 => ?_)
      refine at_one 2 rfl (fun ho2561 => ?_)
      refine at_hv rfl (hv_store_box 0 (cs' := [str x2557.1.From, str x2557.1.To, s2559]) rfl rfl ti76 rfl rfl rfl rfl (allc rfl (allc rfl (allc ho2561 rfl))) (s_as rfl (s_ntsr (s_mv rfl (at_lt (lt_not rfl) rfl (s_mv rfl ?_))))))
      by_cases h2562 : x2557.2 = true
      ·replace hr := ipos h2562 hr
       refine at_on rfl rfl (nt h2562) (at_lt (lt_fieldAddr 3 rfl fld69_2 rfl) rfl (at_on rfl rfl (nt h2562) (at_lt (lt_load_box 1 rfl ti67 rfl rfl rfl rfl rfl) rfl (at_on rfl rfl (nt h2562) (at_lt (lt_makeFunc rfl) rfl ?_)))))
       replace hr := obind hr
       obtain ⟨x2563, h2564, hr⟩ := hr
       refine at_derive [0, 1, 2] (ty76.fact (⟨x2557.1.From, x2557.1.To, x2557.1.Codes⟩ : D_crosswalk_Entry) [str x2557.1.From, str x2557.1.To, s2559]) rfl (fun F w h => mk76 (x := (⟨x2557.1.From, x2557.1.To, x2557.1.Codes⟩ : D_crosswalk_Entry)) h) ?_
       refine at_freeze 0 rfl ?_
       refine at_fn 63 [.pointer (some (Addr.add ⟨b2560, 0, none⟩ 0))] [0, 1] (sp101 (fun y0 => m63 y0 (⟨x2557.1.From, x2557.1.To, x2557.1.Codes⟩ : D_crosswalk_Entry))) en63 rfl (by rintro _ _ _ ⟨a0, r, h, rfl, rfl, rfl⟩; exact f63_spec h) ?_
       refine at_on rfl rfl (nt h2562) (at_hv rfl (hv_call0 [8, 0] (f62_spec h2564) rfl rfl rfl rfl ?_))
       rintro _ _ ⟨rfl, rfl⟩
       refine at_lt (lt_pick false rfl (nt h2562) rfl) rfl (s_nt ?_)
       by_cases h2565 : x2563 = true
       ·replace hr := ipos h2565 hr
        refine at_true rfl h2565 (s_sr (s_as rfl (s_nt (at_ret ?_))))
        have hq := oinj hr
        clear hr
        subst hq
        have hq := oinj hk2548
        clear hk2548
        subst hq
        refine at_in_ret (at_then_ret (at_then_ret (at_in_ret (at_then_ret (at_then_ret ?_)))))
        exact at_return (.bool false) [] hS Tryz.results30 (.cons (.tmp rfl) .nil) rfl rfl ⟨rfl, rfl⟩
       replace hr := ineg h2565 hr
       refine at_false rfl (bf h2565) (at_skip (at_in (s_tr (at_lt (lt_add rfl rfl (by simp only [lo, hi]; omega)) rfl (s_mv rfl (at_nil (at_int .i64 (x2545 + 1 : Int) (by simp only [lo, hi]; omega) ?_)))))))
       exact at_again (σ := Nat) (V := Unit) (lp := fun n s => m30_l1 a0 a1 n s) (S := fun s e => (⟨[(0, w2525), (25, s2526), (26, .int .i64 (a1.Fields.length : Int)), (27, .int .i64 (s : Int))], [], [], [((Ty.int .i64).fact (s : Int) [.int .i64 (s : Int)]), ((Ty.slice ty76).fact a0 [w2525]), ((Ty.slice ty69).fact a1.Fields [s2526]), (utf8F 1 2)]⟩ : St)) (x2545 + 1) () hr ⟨⟨rfl, ⟨rfl, ⟨rfl, ⟨rfl, trivial⟩⟩⟩⟩, ⟨[false], rfl⟩, ⟨[], rfl⟩, ⟨[0, 13, 14, 15], rfl⟩⟩
      replace hr := ineg h2562 hr
      refine at_off rfl rfl (nf (bf h2562)) rfl (at_off rfl rfl (nf (bf h2562)) rfl (at_off rfl rfl (nf (bf h2562)) rfl (at_off rfl rfl (nf (bf h2562)) rfl (at_lt (lt_pick true rfl (nf (bf h2562)) rfl) rfl (s_nt (at_true rfl rfl (s_sr (s_as rfl (s_nt ?_)))))))))
      refine at_ret ?_
      have hq := oinj hr
      clear hr
      subst hq
      have hq := oinj hk2548
      clear hk2548
      subst hq
      refine at_in_ret (at_then_ret (at_then_ret (at_in_ret (at_then_ret (at_then_ret ?_)))))
      exact at_return (.bool false) [] hS Tryz.results30 (.cons (.tmp rfl) .nil) rfl rfl ⟨rfl, rfl⟩
     replace hr := ineg h2549 hr
     refine at_false rfl (decide_eq_false (by omega)) ?_
     refine at_exit (at_then_exit (at_then_exit (at_in_exit ?_)))
     have hq := oinj hr
     clear hr
     subst hq
     exact at_leafP ((), ()) rfl ⟨trivial, ⟨[], rfl⟩, ⟨[], rfl⟩, ⟨[3], rfl⟩⟩
    rintro ⟨_, _⟩ hp
    replace hr := hk2548
    subst hp
    clear hl2547
    change At _ _ (⟨[], [], [], [(utf8F 1 2)]⟩ : St) _
    refine s_tsr (s_as rfl (s_nt (at_ret ?_)))
    have hq := oinj hr
    clear hr
    subst hq
    exact at_return (.bool true) [] hS Tryz.results30 (.cons (.tmp rfl) .nil) rfl rfl ⟨rfl, rfl⟩
   replace hr := ineg h2542 hr
   refine at_true rfl (nf (bf h2542)) (s_sr (s_as rfl (s_nt (at_ret ?_))))
   have hq := oinj hr
   clear hr
   subst hq
   refine at_then_ret ?_
   exact at_return (.bool false) [] hS Tryz.results30 (.cons (.tmp rfl) .nil) rfl rfl ⟨rfl, rfl⟩
  replace hr := ineg h2534 hr
  refine aa_start 15 (by kernel_rfl) ?_
  refine aa_p 0 rfl (lt_move rfl) (aa_one 1 (aa_op rfl rfl (hv_call0 [2] (f27_spec h2530) rfl rfl rfl rfl ?_)))
  rintro _ _ ⟨rfl, rfl⟩
  refine aa_p 2 rfl (lt_not rfl) (aa_p 3 rfl (lt_move rfl) ?_)
  refine aa_lg 4 rfl ⟨12, rfl, .inl ⟨_, rfl, gdq (v := false) (nt h2531) rfl⟩⟩ (lt_load_box 0 rfl ti25 rfl rfl rfl rfl rfl) ?_
  refine aa_one 5 ?_
  refine at_derive [0, 1] (ty25.fact (⟨a1.ID, a1.Fields⟩ : D_api_Record) [.int .i64 a1.ID, s2526]) rfl (fun F w h => mk25 (x := (⟨a1.ID, a1.Fields⟩ : D_api_Record)) h) ?_
  refine aa_op rfl ⟨12, rfl, .inl ⟨_, rfl, gdq (v := false) (nt h2531) rfl⟩⟩ ?_
  refine hv_call0 [0, 5] (f59_spec h2533) rfl rfl rfl rfl ?_
  rintro _ _ ⟨rfl, rfl⟩
  refine aa_pure 6 rfl (by kernel_rfl) rfl ⟨12, rfl, .inl ⟨_, rfl, gdq (v := false) (nt h2531) rfl⟩⟩ (lt_not rfl) rfl (ts_in 0 1 rfl rfl) ?_
  refine aa_pure 7 rfl (by kernel_rfl) rfl rfl (lt_pick false rfl (nt h2531) rfl) rfl (ts_in 0 1 rfl rfl) ?_
  refine aa_pure 8 rfl (by kernel_rfl) rfl rfl (lt_move rfl) rfl (ts_in 0 1 rfl rfl) ?_
  refine aa_off 9 rfl (by kernel_rfl) rfl ⟨17, rfl, .inl ⟨_, rfl, gdq (v := true) (nf (bf h2534)) rfl⟩⟩ rfl (ts_in 0 1 rfl rfl) ?_
  refine aa_off 10 rfl (by kernel_rfl) rfl ⟨17, rfl, .inl ⟨_, rfl, gdq (v := true) (nf (bf h2534)) rfl⟩⟩ rfl (ts_in 0 1 rfl rfl) ?_
  refine aa_off 11 rfl (by kernel_rfl) rfl ⟨17, rfl, .inl ⟨_, rfl, gdq (v := true) (nf (bf h2534)) rfl⟩⟩ rfl (ts_in 0 1 rfl rfl) ?_
  refine aa_off 12 rfl (by kernel_rfl) rfl ⟨17, rfl, .inl ⟨_, rfl, gdq (v := true) (nf (bf h2534)) rfl⟩⟩ rfl (ts_in 0 1 rfl rfl) ?_
  refine aa_off 13 rfl (by kernel_rfl) rfl ⟨17, rfl, .inl ⟨_, rfl, gdq (v := true) (nf (bf h2534)) rfl⟩⟩ rfl (ts_in 0 1 rfl rfl) ?_
  refine aa_pure 14 rfl (by kernel_rfl) rfl rfl (lt_pick true rfl (nf (bf h2534)) rfl) rfl (ts_in 0 1 rfl rfl) ?_
  refine aa_done (by kernel_rfl) (ts_in 0 1 rfl rfl) ?_
  refine at_then (at_true rfl rfl (s_sr (s_as rfl (s_nt (at_ret ?_)))))
  have hq := oinj hr
  clear hr
  subst hq
  refine at_then_ret ?_
  exact at_return (.bool false) [] hS Tryz.results30 (.cons (.tmp rfl) .nil) rfl rfl ⟨rfl, rfl⟩
 replace hr := ineg h2531 hr
 refine aa_start 15 (by kernel_rfl) ?_
 refine aa_p 0 rfl (lt_move rfl) (aa_one 1 (aa_op rfl rfl (hv_call0 [2] (f27_spec h2530) rfl rfl rfl rfl ?_)))
 rintro _ _ ⟨rfl, rfl⟩
 refine aa_p 2 rfl (lt_not rfl) (aa_p 3 rfl (lt_move rfl) ?_)
 refine aa_o 4 rfl ⟨12, rfl, .inl ⟨_, rfl, gdq (v := true) (nf (bf h2531)) rfl⟩⟩ ?_
 refine aa_o 5 rfl ⟨12, rfl, .inl ⟨_, rfl, gdq (v := true) (nf (bf h2531)) rfl⟩⟩ ?_
 refine aa_o 6 rfl ⟨12, rfl, .inl ⟨_, rfl, gdq (v := true) (nf (bf h2531)) rfl⟩⟩ ?_
 refine aa_p 7 rfl (lt_pick true rfl (nf (bf h2531)) rfl) (aa_p 8 rfl (lt_move rfl) ?_)
 refine aa_o 9 rfl ⟨17, rfl, .inl ⟨_, rfl, gdq (v := true) rfl rfl⟩⟩ ?_
 refine aa_o 10 rfl ⟨17, rfl, .inl ⟨_, rfl, gdq (v := true) rfl rfl⟩⟩ ?_
 refine aa_o 11 rfl ⟨17, rfl, .inl ⟨_, rfl, gdq (v := true) rfl rfl⟩⟩ ?_
 refine aa_o 12 rfl ⟨17, rfl, .inl ⟨_, rfl, gdq (v := true) rfl rfl⟩⟩ ?_
 refine aa_o 13 rfl ⟨17, rfl, .inl ⟨_, rfl, gdq (v := true) rfl rfl⟩⟩ ?_
 refine aa_p 14 rfl (lt_pick true rfl rfl rfl) ?_
 refine aa_done (by kernel_rfl) (ts_in 0 0 rfl rfl) ?_
 refine at_then (at_true rfl rfl (s_sr (s_as rfl (s_nt (at_ret ?_)))))
 have hq := oinj hr
 clear hr
 subst hq
 refine at_then_ret ?_
 exact at_return (.bool false) [] hS Tryz.results30 (.cons (.tmp rfl) .nil) rfl rfl ⟨rfl, rfl⟩
end Go.WK.S
