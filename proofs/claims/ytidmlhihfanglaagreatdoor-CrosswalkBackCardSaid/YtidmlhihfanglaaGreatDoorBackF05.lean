/- What functions of this program compute: a model of each, and the proof that it is kept. -/
import Derived.Test.YtidmlhihfanglaaGreatDoorBackF04
import Derived.KernelRfl
set_option linter.unusedSimpArgs false
set_option linter.unusedVariables false
namespace Go.WK.S
open Go Go.Proofs Go.WK Go.RowKit
set_option linter.unusedVariables false
set_option maxRecDepth 100000
set_option maxHeartbeats 4000000
/-! 38 bookplate/bookplateref12.Canonical -/
def m38_l1 (x1978 : D_api_Record) : Nat → Nat → (List D_api_Field) → Option (List D_api_Field)
  | 0, _, _ => none
  | k + 1, x1985, x1986 =>
    if x1985 < x1978.Fields.length then
     (x1978.Fields[x1985]?).bind fun x1995 =>
     (m75 x1986 x1995).bind fun x2000 =>
     m38_l1 x1978 k (x1985 + 1) x2000
    else
     some x1986
def m38 (a0 : D_api_Record) : Option D_api_Record :=
  (m74 (⟨a0.ID, a0.Fields⟩ : D_api_Record)).bind fun x1978 =>
  (m38_l1 x1978 (x1978.Fields.length + 1) 0 ([] : (List D_api_Field))).bind fun x1988 =>
  some (⟨a0.ID, x1988⟩ : D_api_Record)
def post38 (r : D_api_Record) (v : Value) (fs : List Fact) : Prop := ∃ s2006 : Value, v = .agg #[.int .i64 r.ID, s2006] ∧ fs = [(ty25.fact r [.int .i64 r.ID, s2006])]
theorem en38 : Enters Tryz.prog 38 := ⟨_, Tryz.func38, by kernel_rfl, rfl⟩
theorem f38_spec {a0 : D_api_Record} {s1974 : Value} {r : D_api_Record} (hr : m38 a0 = some r) : Spec Tryz.prog 38 [.agg #[.int .i64 a0.ID, s1974]] [(ty25.fact a0 [.int .i64 a0.ID, s1974])] (post38 r) := by
 refine spec_start (N := 28) Tryz.func38 (by kernel_rfl) rfl rfl rfl ?_
 intro g hS
 unfold m38 at hr
 refine at_open (A := Unit) 0 rfl (fun _ => True) (fun _ => [((Ty.int .i64).fact a0.ID [.int .i64 a0.ID]), ((Ty.slice ty69).fact a0.Fields [s1974])]) (fun F w h => ⟨(), trivial, ex25 h⟩) (fun _ _ => ?_)
 refine at_inv 0 rfl (fun l1975 => ?_)
 replace l1975 : (-9223372036854775808) ≤ a0.ID ∧ a0.ID ≤ 9223372036854775807 := l1975
 refine s_sr ?_
 refine at_hv rfl ?_
 refine hv_box (cs := [.int .i64 a0.ID, s1974]) rfl rfl rfl (fun b1976 => ?_)
 refine at_hv rfl ?_
 refine hv_alloc (cs := [.int .i64 0, (.slice none 0 0)]) ti25 rfl rfl (fun b1977 => ?_)
 refine s_ntsr ?_
 refine at_lt (lt_load_box 1 rfl ti25 rfl rfl rfl rfl rfl) rfl ?_
 replace hr := obind hr
 obtain ⟨x1978, h1979, hr⟩ := hr
 refine at_derive [0, 1] (ty25.fact (⟨a0.ID, a0.Fields⟩ : D_api_Record) [.int .i64 a0.ID, s1974]) rfl (fun F w h => mk25 (x := (⟨a0.ID, a0.Fields⟩ : D_api_Record)) h) ?_
 refine at_hv rfl ?_
 refine hv_call0 [0] (f74_spec h1979) rfl rfl rfl rfl ?_
 rintro _ _ ⟨s1980, rfl, rfl⟩
 refine at_open (A := Unit) 0 rfl (fun _ => True) (fun _ => [((Ty.int .i64).fact x1978.ID [.int .i64 x1978.ID]), ((Ty.slice ty69).fact x1978.Fields [s1980])]) (fun F w h => ⟨(), trivial, ex25 h⟩) (fun _ _ => ?_)
 refine at_inv 0 rfl (fun l1981 => ?_)
 replace l1981 : (-9223372036854775808) ≤ x1978.ID ∧ x1978.ID ≤ 9223372036854775807 := l1981
 refine at_hv rfl ?_
 refine hv_alloc (cs := [.int .i64 0, (.slice none 0 0)]) ti25 rfl rfl (fun b1982 => ?_)
 refine at_one 1 rfl (fun ho1983 => ?_)
 refine at_hv rfl ?_
 refine hv_store_box 0 (cs' := [.int .i64 x1978.ID, s1980]) rfl rfl ti25 rfl rfl rfl rfl (allc rfl (allc ho1983 rfl)) ?_
 refine s_ntsr ?_
 refine at_lt (lt_fieldAddr 0 rfl fld25_0 rfl) rfl ?_
 refine at_lt (lt_load_box 2 rfl ti3 rfl rfl rfl rfl rfl) rfl ?_
 refine at_lt (lt_build (cs := [.int .i64 a0.ID, (.slice none 0 0)]) rfl ti25 pl25 rfl) rfl ?_
 refine at_hv rfl ?_
 refine hv_alloc (cs := [.int .i64 0, (.slice none 0 0)]) ti25 rfl rfl (fun b1984 => ?_)
 refine at_hv rfl ?_
 refine hv_store_box 0 (cs' := [.int .i64 a0.ID, (.slice none 0 0)]) rfl rfl ti25 rfl rfl rfl rfl rfl ?_
 refine s_nt ?_
 refine at_seq ?_
 refine s_sr ?_
 refine s_as rfl ?_
 refine s_nt ?_
 refine at_int .i64 0 (by simp only [lo, hi]; omega) ?_
 refine at_fnil ty69 none ?_
 replace hr := obind hr
 obtain ⟨x1988, hl1990, hr⟩ := hr
 refine at_cut (V := Value) (fun e => (⟨[(2, .pointer (some (Addr.add ⟨b1977, 0, none⟩ 0))), (4, .pointer (some (Addr.add ⟨b1984, 0, none⟩ 0)))], [⟨b1984, [.int .i64 a0.ID, e], 25⟩, ⟨b1977, [.int .i64 0, (.slice none 0 0)], 25⟩], [], [((Ty.slice ty69).fact x1988 [e]), ((Ty.int .i64).fact a0.ID [.int .i64 a0.ID])]⟩ : St)) ?_ ?_
 ·refine at_block ?_
  refine at_loopW (σ := (Nat × (List D_api_Field))) (V := Value) (r := x1988) (fun n s => m38_l1 x1978 n s.1 s.2) (fun s e => (⟨[(2, .pointer (some (Addr.add ⟨b1977, 0, none⟩ 0))), (3, .pointer (some (Addr.add ⟨b1982, 0, none⟩ 0))), (4, .pointer (some (Addr.add ⟨b1984, 0, none⟩ 0))), (5, .int .i64 (s.1 : Int))], [⟨b1984, [.int .i64 a0.ID, e], 25⟩, ⟨b1982, [.int .i64 x1978.ID, s1980], 25⟩, ⟨b1977, [.int .i64 0, (.slice none 0 0)], 25⟩], [], [((Ty.int .i64).fact (s.1 : Int) [.int .i64 (s.1 : Int)]), ((Ty.slice ty69).fact s.2 [e]), ((Ty.int .i64).fact a0.ID [.int .i64 a0.ID]), ((Ty.int .i64).fact x1978.ID [.int .i64 x1978.ID]), ((Ty.slice ty69).fact x1978.Fields [s1980])]⟩ : St)) (fun _ => rfl) _ (0, ([] : (List D_api_Field))) (.slice none 0 0) hl1990 ⟨⟨rfl, ⟨rfl, ⟨rfl, ⟨rfl, trivial⟩⟩⟩⟩, ⟨[true, true, true, false], rfl⟩, ⟨[], rfl⟩, ⟨[1, 0, 6, 2, 3], rfl⟩⟩ ?_
  clear hr hl1990
  intro n s hr v1987
  obtain ⟨x1985, x1986⟩ := s
  skip
  change m38_l1 x1978 (n + 1) x1985 x1986 = some x1988 at hr
  change At _ _ (⟨[(2, .pointer (some (Addr.add ⟨b1977, 0, none⟩ 0))), (3, .pointer (some (Addr.add ⟨b1982, 0, none⟩ 0))), (4, .pointer (some (Addr.add ⟨b1984, 0, none⟩ 0))), (5, .int .i64 (x1985 : Int))], [⟨b1984, [.int .i64 a0.ID, v1987], 25⟩, ⟨b1982, [.int .i64 x1978.ID, s1980], 25⟩, ⟨b1977, [.int .i64 0, (.slice none 0 0)], 25⟩], [], [((Ty.int .i64).fact (x1985 : Int) [.int .i64 (x1985 : Int)]), ((Ty.slice ty69).fact x1986 [v1987]), ((Ty.int .i64).fact a0.ID [.int .i64 a0.ID]), ((Ty.int .i64).fact x1978.ID [.int .i64 x1978.ID]), ((Ty.slice ty69).fact x1978.Fields [s1980])]⟩ : St) _
  rw [m38_l1] at hr
  refine at_seq ?_
  refine s_sr ?_
  refine s_mv rfl ?_
  refine at_lt (lt_fieldAddr 1 rfl fld25_1 rfl) rfl ?_
  refine at_lt (lt_load_box 1 rfl ti23 rfl rfl rfl rfl rfl) rfl ?_
  refine at_inv 4 rfl (fun i1992 => ?_)
  have l1993 := slice_len i1992
  refine at_lt (lt_flen 4 rfl rfl und23) rfl ?_
  refine at_lt (lt_lss rfl rfl) rfl ?_
  refine s_nt ?_
  by_cases h1994 : x1985 < x1978.Fields.length
  ·replace hr := ipos h1994 hr
   refine at_true rfl (decide_eq_true (by omega)) ?_
   refine at_skip ?_
   refine at_then ?_
   refine at_seq ?_
   refine at_block ?_
   replace hr := obind hr
   obtain ⟨x1995, h1996, hr⟩ := hr
   have := (List.getElem?_eq_some_iff.1 h1996).1
   refine at_elem 4 rfl (nat_at' h1996) (fun p1998 ec pa1999 => ?_)
   refine at_open (A := Value) 0 rfl _ _ (fun F w h => op69 h) ?_
   rintro s1997 rfl
   replace hr := obind hr
   obtain ⟨x2000, h2001, hr⟩ := hr
   refine aa_start 9 (by kernel_rfl) ?_
   refine aa_p 0 rfl (lt_fieldAddr 1 rfl fld25_1 rfl) ?_
   refine aa_l 1 rfl (lt_load_box 0 rfl ti23 rfl rfl rfl rfl rfl) ?_
   refine aa_p 2 rfl (lt_fieldAddr 1 rfl fld25_1 rfl) ?_
   refine aa_l 3 rfl (lt_load_box 1 rfl ti23 rfl rfl rfl rfl rfl) ?_
   refine aa_p 4 rfl (lt_move rfl) ?_
   refine aa_p 5 rfl (lt_idx rfl rfl pa1999 und23 ti69) ?_
   refine aa_l 6 rfl (lt_load_peek 3 rfl ti69 rfl rfl rfl rfl rfl) ?_
   refine aa_one 7 ?_
   refine aa_op rfl rfl ?_
   refine hv_call0 [5, 2] (f75_spec h2001) rfl rfl rfl rfl ?_
   rintro s2002 _ ⟨_, rfl, rfl⟩
   refine aa_pure 8 rfl (by kernel_rfl) rfl rfl (lt_fieldAddr 1 rfl fld25_1 rfl) rfl (ts_in 0 1 rfl rfl) ?_
   refine aa_all (rs := [9]) (by kernel_rfl) rfl (ts_in 0 1 rfl rfl) (List.forall_mem_singleton.2 ?_)
   refine at_one 0 rfl (fun ho2004 => ?_)
   refine aa_op rfl rfl ?_
   refine hv_store1 0 (cs' := [.int .i64 a0.ID, s2002]) rfl rfl ti23 rfl rfl rfl rfl ho2004 ?_
   refine aa_done (by kernel_rfl) (ts_out rfl) ?_
   refine at_in ?_
   refine s_tr ?_
   refine s_mv rfl ?_
   refine at_lt (lt_add rfl rfl (by simp only [lo, hi]; omega)) rfl ?_
   refine s_as rfl ?_
   refine at_nil ?_
   refine at_int .i64 (x1985 + 1 : Int) (by simp only [lo, hi]; omega) ?_
   exact at_again (σ := (Nat × (List D_api_Field))) (V := Value) (lp := fun n s => m38_l1 x1978 n s.1 s.2) (S := fun s e => (⟨[(2, .pointer (some (Addr.add ⟨b1977, 0, none⟩ 0))), (3, .pointer (some (Addr.add ⟨b1982, 0, none⟩ 0))), (4, .pointer (some (Addr.add ⟨b1984, 0, none⟩ 0))), (5, .int .i64 (s.1 : Int))], [⟨b1984, [.int .i64 a0.ID, e], 25⟩, ⟨b1982, [.int .i64 x1978.ID, s1980], 25⟩, ⟨b1977, [.int .i64 0, (.slice none 0 0)], 25⟩], [], [((Ty.int .i64).fact (s.1 : Int) [.int .i64 (s.1 : Int)]), ((Ty.slice ty69).fact s.2 [e]), ((Ty.int .i64).fact a0.ID [.int .i64 a0.ID]), ((Ty.int .i64).fact x1978.ID [.int .i64 x1978.ID]), ((Ty.slice ty69).fact x1978.Fields [s1980])]⟩ : St)) (x1985 + 1, x2000) s2002 hr ⟨⟨rfl, ⟨rfl, ⟨rfl, ⟨rfl, trivial⟩⟩⟩⟩, ⟨[true, true, true], rfl⟩, ⟨[], rfl⟩, ⟨[0, 1, 8, 9, 10], rfl⟩⟩
  replace hr := ineg h1994 hr
  refine at_false rfl (decide_eq_false (by omega)) ?_
  refine at_exit ?_
  refine at_then_exit ?_
  refine at_then_exit ?_
  refine at_in_exit ?_
  have hq := oinj hr
  clear hr
  subst hq
  exact at_leaf v1987 ⟨⟨rfl, ⟨rfl, trivial⟩⟩, ⟨[true, false, true], rfl⟩, ⟨[], rfl⟩, ⟨[1, 2], rfl⟩⟩
 clear hl1990
 intro v1989
 change At _ _ (⟨[(2, .pointer (some (Addr.add ⟨b1977, 0, none⟩ 0))), (4, .pointer (some (Addr.add ⟨b1984, 0, none⟩ 0)))], [⟨b1984, [.int .i64 a0.ID, v1989], 25⟩, ⟨b1977, [.int .i64 0, (.slice none 0 0)], 25⟩], [], [((Ty.slice ty69).fact x1988 [v1989]), ((Ty.int .i64).fact a0.ID [.int .i64 a0.ID])]⟩ : St) _
 refine s_tsr ?_
 refine at_lt (lt_load_box 0 rfl ti25 rfl rfl rfl rfl rfl) rfl ?_
 refine at_one 0 rfl (fun ho2005 => ?_)
 refine at_hv rfl ?_
 refine hv_store_box 1 (cs' := [.int .i64 a0.ID, v1989]) rfl rfl ti25 rfl rfl rfl rfl (allc rfl (allc ho2005 rfl)) ?_
 refine s_nt ?_
 refine at_ret ?_
 have hq := oinj hr
 clear hr
 subst hq
 refine at_derive [1, 0] (ty25.fact (⟨a0.ID, x1988⟩ : D_api_Record) [.int .i64 a0.ID, v1989]) rfl (fun F w h => mk25 (x := (⟨a0.ID, x1988⟩ : D_api_Record)) h) ?_
 exact at_return (.agg #[.int .i64 a0.ID, v1989]) [0] hS Tryz.results38 (.cons (.cell 1 rfl ti25 rfl rfl rfl rfl) .nil) rfl rfl ⟨v1989, rfl, rfl⟩
/-! 39 bookplate/bookplateref16.place -/
def m39_l1 (a0 : (List D_ref16_Entry)) (a1 : Str) (a2 : Bool) : Nat → Nat → Option (Fl Int Unit)
  | 0, _ => none
  | k + 1, x2008 =>
    if x2008 < a0.length then
     if a2 = true then
      (a0[x2008]?).bind fun x2016 =>
      if x2016.To = a1 then
       some (Fl.ret (x2008 : Int))
      else
       m39_l1 a0 a1 a2 k (x2008 + 1)
     else
      (a0[x2008]?).bind fun x2022 =>
      if x2022.From = a1 then
       some (Fl.ret (x2008 : Int))
      else
       m39_l1 a0 a1 a2 k (x2008 + 1)
    else
     some (Fl.go ())
def m39 (a0 : (List D_ref16_Entry)) (a1 : Str) (a2 : Bool) : Option Int :=
  (m39_l1 a0 a1 a2 (a0.length + 1) 0).bind fun r => match r with
  | .ret x => some x
  | .go _ =>
   some (-1)
def post39 (r : Int) (v : Value) (fs : List Fact) : Prop := v = .int .i64 r ∧ fs = [((Ty.int .i64).fact r [.int .i64 r])]
theorem en39 : Enters Tryz.prog 39 := ⟨_, Tryz.func39, by kernel_rfl, rfl⟩
theorem f39_spec {a0 : (List D_ref16_Entry)} {a1 : Str} {a2 : Bool} {w2007 : Value} {r : Int} (hr : m39 a0 a1 a2 = some r) : Spec Tryz.prog 39 [w2007, str a1, .bool a2] [((Ty.slice ty50).fact a0 [w2007]), (Ty.str.fact a1 [str a1])] (post39 r) := by
 refine spec_start (N := 38) Tryz.func39 (by kernel_rfl) rfl rfl rfl ?_
 intro g hS
 unfold m39 at hr
 refine s_sr ?_
 refine s_as rfl ?_
 refine s_nt ?_
 refine at_seq ?_
 refine s_sr ?_
 refine s_as rfl ?_
 refine s_nt ?_
 refine at_int .i64 0 (by simp only [lo, hi]; omega) ?_
 replace hr := obind hr
 obtain ⟨r2009, hl2010, hk2011⟩ := hr
 refine at_cutP (V := (Unit) × (Unit)) (fun v => r2009 = Fl.go v.1) (fun v => (⟨[], [], [], []⟩ : St)) ?_ ?_
 ·refine at_block ?_
  refine at_loopW (σ := Nat) (V := Unit) (r := r2009) (fun n s => m39_l1 a0 a1 a2 n s) (fun s e => (⟨[(0, w2007), (1, str a1), (2, .bool a2), (7, .int .i64 (s : Int))], [], [], [((Ty.int .i64).fact (s : Int) [.int .i64 (s : Int)]), ((Ty.slice ty50).fact a0 [w2007]), (Ty.str.fact a1 [str a1])]⟩ : St)) (fun _ => rfl) _ 0 () hl2010 ⟨⟨rfl, ⟨rfl, ⟨rfl, ⟨rfl, trivial⟩⟩⟩⟩, ⟨[], rfl⟩, ⟨[], rfl⟩, ⟨[0, 1, 2], rfl⟩⟩ ?_
  clear hl2010
  intro n x2008 hr e
  skip
  skip
  change m39_l1 a0 a1 a2 (n + 1) x2008 = some r2009 at hr
  change At _ _ (⟨[(0, w2007), (1, str a1), (2, .bool a2), (7, .int .i64 (x2008 : Int))], [], [], [((Ty.int .i64).fact (x2008 : Int) [.int .i64 (x2008 : Int)]), ((Ty.slice ty50).fact a0 [w2007]), (Ty.str.fact a1 [str a1])]⟩ : St) _
  rw [m39_l1] at hr
  refine at_seq ?_
  refine s_sr ?_
  refine s_mv rfl ?_
  refine s_mv rfl ?_
  refine at_inv 1 rfl (fun i2012 => ?_)
  have l2013 := slice_len i2012
  refine at_lt (lt_flen 1 rfl rfl und22) rfl ?_
  refine at_lt (lt_lss rfl rfl) rfl ?_
  refine s_nt ?_
  by_cases h2014 : x2008 < a0.length
  ·replace hr := ipos h2014 hr
   refine at_true rfl (decide_eq_true (by omega)) ?_
   refine at_skip ?_
   refine at_then ?_
   refine at_seq ?_
   refine at_block ?_
   refine s_sr ?_
   refine s_mv rfl ?_
   refine at_lt (lt_not rfl) rfl ?_
   refine s_mv rfl ?_
   by_cases h2015 : a2 = true
   ·replace hr := ipos h2015 hr
    refine at_off rfl rfl (nt h2015) rfl ?_
    refine at_off rfl rfl (nt h2015) rfl ?_
    refine at_off rfl rfl (nt h2015) rfl ?_
    refine at_off rfl rfl (nt h2015) rfl ?_
    refine at_off rfl rfl (nt h2015) rfl ?_
    refine at_off rfl rfl (nt h2015) rfl ?_
    refine at_off rfl rfl (nt h2015) rfl ?_
    refine at_lt (lt_pick false rfl (nt h2015) rfl) rfl ?_
    refine s_mv rfl ?_
    refine at_on rfl rfl rfl ?_
    refine s_mv rfl ?_
    refine at_on rfl rfl rfl ?_
    refine s_mv rfl ?_
    refine at_on rfl rfl h2015 ?_
    refine s_mv rfl ?_
    refine at_on rfl rfl h2015 ?_
    refine s_mv rfl ?_
    replace hr := obind hr
    obtain ⟨x2016, h2017, hr⟩ := hr
    have := (List.getElem?_eq_some_iff.1 h2017).1
    refine at_elem 1 rfl (nat_at' h2017) (fun p2019 ec pa2020 => ?_)
    refine at_open (A := Value) 0 rfl _ _ (fun F w h => op50 h) ?_
    rintro s2018 rfl
    refine at_on rfl rfl h2015 ?_
    refine at_lt (lt_idx rfl rfl pa2020 und22 ti50) rfl ?_
    refine at_on rfl rfl h2015 ?_
    refine at_lt (lt_fieldAddr 1 rfl fld50_1 rfl) rfl ?_
    refine at_on rfl rfl h2015 ?_
    refine at_lt (lt_load_peek 4 rfl ti9 rfl rfl rfl rfl rfl) rfl ?_
    refine at_on rfl rfl h2015 ?_
    refine s_mv rfl ?_
    refine at_on rfl rfl h2015 ?_
    refine at_lt (lt_seql rfl rfl) rfl ?_
    refine at_on rfl rfl rfl ?_
    refine at_lt (lt_pick true rfl h2015 rfl) rfl ?_
    refine at_lt (lt_pick false rfl rfl rfl) rfl ?_
    refine s_nt ?_
    by_cases h2021 : x2016.To = a1
    ·replace hr := ipos h2021 hr
     refine at_true rfl (decide_eq_true h2021) ?_
     refine s_sr ?_
     refine s_mv rfl ?_
     refine s_as rfl ?_
     refine s_nt ?_
     refine at_ret ?_
     have hq := oinj hr
     clear hr
     subst hq
     have hq := oinj hk2011
     clear hk2011
     subst hq
     refine at_in_ret ?_
     refine at_then_ret ?_
     refine at_then_ret ?_
     refine at_in_ret ?_
     refine at_then_ret ?_
     refine at_then_ret ?_
     exact at_return (.int .i64 (x2008 : Int)) [5] hS Tryz.results39 (.cons (.tmp rfl) .nil) rfl rfl ⟨rfl, rfl⟩
    replace hr := ineg h2021 hr
    refine at_false rfl (decide_eq_false h2021) ?_
    refine at_skip ?_
    refine at_in ?_
    refine s_tr ?_
    refine s_mv rfl ?_
    refine at_lt (lt_add rfl rfl (by simp only [lo, hi]; omega)) rfl ?_
    refine s_as rfl ?_
    refine at_nil ?_
    refine at_int .i64 (x2008 + 1 : Int) (by simp only [lo, hi]; omega) ?_
    exact at_again (σ := Nat) (V := Unit) (lp := fun n s => m39_l1 a0 a1 a2 n s) (S := fun s e => (⟨[(0, w2007), (1, str a1), (2, .bool a2), (7, .int .i64 (s : Int))], [], [], [((Ty.int .i64).fact (s : Int) [.int .i64 (s : Int)]), ((Ty.slice ty50).fact a0 [w2007]), (Ty.str.fact a1 [str a1])]⟩ : St)) (x2008 + 1) () hr ⟨⟨rfl, ⟨rfl, ⟨rfl, ⟨rfl, trivial⟩⟩⟩⟩, ⟨[], rfl⟩, ⟨[], rfl⟩, ⟨[0, 7, 8], rfl⟩⟩
   replace hr := ineg h2015 hr
   refine at_on rfl rfl (nf (bf h2015)) ?_
   refine s_mv rfl ?_
   refine at_on rfl rfl (nf (bf h2015)) ?_
   refine s_mv rfl ?_
   replace hr := obind hr
   obtain ⟨x2022, h2023, hr⟩ := hr
   have := (List.getElem?_eq_some_iff.1 h2023).1
   refine at_elem 1 rfl (nat_at' h2023) (fun p2025 ec pa2026 => ?_)
   refine at_open (A := Value) 0 rfl _ _ (fun F w h => op50 h) ?_
   rintro s2024 rfl
   refine at_on rfl rfl (nf (bf h2015)) ?_
   refine at_lt (lt_idx rfl rfl pa2026 und22 ti50) rfl ?_
   refine at_on rfl rfl (nf (bf h2015)) ?_
   refine at_lt (lt_fieldAddr 0 rfl fld50_0 rfl) rfl ?_
   refine at_on rfl rfl (nf (bf h2015)) ?_
   refine at_lt (lt_load_peek 4 rfl ti9 rfl rfl rfl rfl rfl) rfl ?_
   refine at_on rfl rfl (nf (bf h2015)) ?_
   refine s_mv rfl ?_
   refine at_on rfl rfl (nf (bf h2015)) ?_
   refine at_lt (lt_seql rfl rfl) rfl ?_
   refine at_lt (lt_pick true rfl (nf (bf h2015)) rfl) rfl ?_
   refine s_mv rfl ?_
   by_cases h2027 : x2022.From = a1
   ·replace hr := ipos h2027 hr
    refine at_off rfl rfl (decide_eq_true h2027) rfl ?_
    refine at_off rfl rfl (decide_eq_true h2027) rfl ?_
    refine at_offu rfl rfl rfl ?_
    refine at_offu rfl rfl rfl ?_
    refine at_offu rfl rfl rfl ?_
    refine at_offu rfl rfl rfl ?_
    refine at_offu rfl rfl rfl ?_
    refine at_offu rfl rfl rfl ?_
    refine at_offu rfl rfl rfl ?_
    refine at_off rfl rfl (decide_eq_true h2027) rfl ?_
    refine at_lt (lt_pick true rfl (decide_eq_true h2027) rfl) rfl ?_
    refine s_nt ?_
    refine at_true rfl rfl ?_
    refine s_sr ?_
    refine s_mv rfl ?_
    refine s_as rfl ?_
    refine s_nt ?_
    refine at_ret ?_
    have hq := oinj hr
    clear hr
    subst hq
    have hq := oinj hk2011
    clear hk2011
    subst hq
    refine at_in_ret ?_
    refine at_then_ret ?_
    refine at_then_ret ?_
    refine at_in_ret ?_
    refine at_then_ret ?_
    refine at_then_ret ?_
    exact at_return (.int .i64 (x2008 : Int)) [5] hS Tryz.results39 (.cons (.tmp rfl) .nil) rfl rfl ⟨rfl, rfl⟩
   replace hr := ineg h2027 hr
   refine at_on rfl rfl (decide_eq_false h2027) ?_
   refine s_mv rfl ?_
   refine at_on rfl rfl (decide_eq_false h2027) ?_
   refine s_mv rfl ?_
   refine at_off rfl rfl (bf h2015) rfl ?_
   refine at_off rfl rfl (bf h2015) rfl ?_
   refine at_off rfl rfl (bf h2015) rfl ?_
   refine at_off rfl rfl (bf h2015) rfl ?_
   refine at_off rfl rfl (bf h2015) rfl ?_
   refine at_off rfl rfl (bf h2015) rfl ?_
   refine at_off rfl rfl (bf h2015) rfl ?_
   refine at_on rfl rfl (decide_eq_false h2027) ?_
   refine at_lt (lt_pick false rfl (bf h2015) rfl) rfl ?_
   refine at_lt (lt_pick false rfl (decide_eq_false h2027) rfl) rfl ?_
   refine s_nt ?_
   refine at_false rfl rfl ?_
   refine at_skip ?_
   refine at_in ?_
   refine s_tr ?_
   refine s_mv rfl ?_
   refine at_lt (lt_add rfl rfl (by simp only [lo, hi]; omega)) rfl ?_
   refine s_as rfl ?_
   refine at_nil ?_
   refine at_int .i64 (x2008 + 1 : Int) (by simp only [lo, hi]; omega) ?_
   exact at_again (σ := Nat) (V := Unit) (lp := fun n s => m39_l1 a0 a1 a2 n s) (S := fun s e => (⟨[(0, w2007), (1, str a1), (2, .bool a2), (7, .int .i64 (s : Int))], [], [], [((Ty.int .i64).fact (s : Int) [.int .i64 (s : Int)]), ((Ty.slice ty50).fact a0 [w2007]), (Ty.str.fact a1 [str a1])]⟩ : St)) (x2008 + 1) () hr ⟨⟨rfl, ⟨rfl, ⟨rfl, ⟨rfl, trivial⟩⟩⟩⟩, ⟨[], rfl⟩, ⟨[], rfl⟩, ⟨[0, 7, 8], rfl⟩⟩
  replace hr := ineg h2014 hr
  refine at_false rfl (decide_eq_false (by omega)) ?_
  refine at_exit ?_
  refine at_then_exit ?_
  refine at_then_exit ?_
  refine at_in_exit ?_
  have hq := oinj hr
  clear hr
  subst hq
  exact at_leafP ((), ()) rfl ⟨trivial, ⟨[], rfl⟩, ⟨[], rfl⟩, ⟨[], rfl⟩⟩
 rintro ⟨_, _⟩ hp
 replace hr := hk2011
 subst hp
 clear hl2010
 change At _ _ (⟨[], [], [], []⟩ : St) _
 refine s_tsr ?_
 refine s_as rfl ?_
 refine s_nt ?_
 refine at_ret ?_
 have hq := oinj hr
 clear hr
 subst hq
 refine at_int .i64 (-1) (by simp only [lo, hi]; omega) ?_
 exact at_return (.int .i64 (-1)) [0] hS Tryz.results39 (.cons (.tmp rfl) .nil) rfl rfl ⟨rfl, rfl⟩
/-! 40 bookplate/bookplateref16.code -/
def m40_l1 (a0 : (List D_ref16_Pair)) (a1 : UInt8) (a2 : Bool) : Nat → Nat → Option (Fl UInt8 Unit)
  | 0, _ => none
  | k + 1, x2029 =>
    if x2029 < a0.length then
     Option.bind (α := Bool) (
      if a2 = true then
       some false
      else
       (a0[x2029]?).bind fun x2039 =>
       some (decide ((x2039.From.toNat : Int) = (a1.toNat : Int)))
     ) fun x2036 =>
     if x2036 = true then
      (a0[x2029]?).bind fun x2044 =>
      some (Fl.ret x2044.To)
     else
      Option.bind (α := Bool) (
       if a2 = true then
        (a0[x2029]?).bind fun x2051 =>
        some (decide ((x2051.To.toNat : Int) = (a1.toNat : Int)))
       else
        some false
      ) fun x2048 =>
      if x2048 = true then
       (a0[x2029]?).bind fun x2056 =>
       some (Fl.ret x2056.From)
      else
       m40_l1 a0 a1 a2 k (x2029 + 1)
    else
     some (Fl.go ())
def m40 (a0 : (List D_ref16_Pair)) (a1 : UInt8) (a2 : Bool) : Option UInt8 :=
  (m40_l1 a0 a1 a2 (a0.length + 1) 0).bind fun r => match r with
  | .ret x => some x
  | .go _ =>
   some 0
def post40 (r : UInt8) (v : Value) (fs : List Fact) : Prop := v = .int .u8 (r.toNat : Int) ∧ fs = []
theorem en40 : Enters Tryz.prog 40 := ⟨_, Tryz.func40, by kernel_rfl, rfl⟩
theorem f40_spec {a0 : (List D_ref16_Pair)} {a1 : UInt8} {a2 : Bool} {w2028 : Value} {r : UInt8} (hr : m40 a0 a1 a2 = some r) : Spec Tryz.prog 40 [w2028, .int .u8 (a1.toNat : Int), .bool a2] [((Ty.slice ty83).fact a0 [w2028])] (post40 r) := by
 refine spec_start (N := 45) Tryz.func40 (by kernel_rfl) rfl rfl rfl ?_
 intro g hS
 unfold m40 at hr
 refine s_sr ?_
 refine s_as rfl ?_
 refine s_nt ?_
 refine at_seq ?_
 refine s_sr ?_
 refine s_as rfl ?_
 refine s_nt ?_
 refine at_int .i64 0 (by simp only [lo, hi]; omega) ?_
 replace hr := obind hr
 obtain ⟨r2030, hl2031, hk2032⟩ := hr
 refine at_cutP (V := (Unit) × (Unit)) (fun v => r2030 = Fl.go v.1) (fun v => (⟨[], [], [], []⟩ : St)) ?_ ?_
 ·refine at_block ?_
  refine at_loopW (σ := Nat) (V := Unit) (r := r2030) (fun n s => m40_l1 a0 a1 a2 n s) (fun s e => (⟨[(0, w2028), (1, .int .u8 (a1.toNat : Int)), (2, .bool a2), (7, .int .i64 (s : Int))], [], [], [((Ty.int .i64).fact (s : Int) [.int .i64 (s : Int)]), ((Ty.slice ty83).fact a0 [w2028])]⟩ : St)) (fun _ => rfl) _ 0 () hl2031 ⟨⟨rfl, ⟨rfl, ⟨rfl, ⟨rfl, trivial⟩⟩⟩⟩, ⟨[], rfl⟩, ⟨[], rfl⟩, ⟨[0, 1], rfl⟩⟩ ?_
  clear hl2031
  intro n x2029 hr e
  skip
  skip
  change m40_l1 a0 a1 a2 (n + 1) x2029 = some r2030 at hr
  change At _ _ (⟨[(0, w2028), (1, .int .u8 (a1.toNat : Int)), (2, .bool a2), (7, .int .i64 (x2029 : Int))], [], [], [((Ty.int .i64).fact (x2029 : Int) [.int .i64 (x2029 : Int)]), ((Ty.slice ty83).fact a0 [w2028])]⟩ : St) _
  rw [m40_l1] at hr
  refine at_seq ?_
  refine s_sr ?_
  refine s_mv rfl ?_
  refine s_mv rfl ?_
  refine at_inv 1 rfl (fun i2033 => ?_)
  have l2034 := slice_len i2033
  refine at_lt (lt_flen 1 rfl rfl und48) rfl ?_
  refine at_lt (lt_lss rfl rfl) rfl ?_
  refine s_nt ?_
  by_cases h2035 : x2029 < a0.length
  ·replace hr := ipos h2035 hr
   refine at_true rfl (decide_eq_true (by omega)) ?_
   refine at_skip ?_
   refine at_then ?_
   refine at_seq ?_
   refine at_block ?_
   refine at_seq ?_
   refine at_seq ?_
   replace hr := obind hr
   obtain ⟨x2036, hc2037, hr⟩ := hr
   refine at_cut (V := Unit) (fun e => (⟨[(0, w2028), (1, .int .u8 (a1.toNat : Int)), (2, .bool a2), (7, .int .i64 (x2029 : Int)), (24, .bool x2036)], [], [], [((Ty.slice ty83).fact a0 [w2028]), ((Ty.int .i64).fact (x2029 : Int) [.int .i64 (x2029 : Int)])]⟩ : St)) ?_ ?_
   ·clear hr
    have hr := hc2037
    clear hc2037
    refine at_region ?_
    refine s_mv rfl ?_
    refine at_lt (lt_not rfl) rfl ?_
    refine s_mv rfl ?_
    by_cases h2038 : a2 = true
    ·replace hr := ipos h2038 hr
     refine at_off rfl rfl (nt h2038) rfl ?_
     refine at_off rfl rfl (nt h2038) rfl ?_
     refine at_off rfl rfl (nt h2038) rfl ?_
     refine at_off rfl rfl (nt h2038) rfl ?_
     refine at_off rfl rfl (nt h2038) rfl ?_
     refine at_off rfl rfl (nt h2038) rfl ?_
     refine at_off rfl rfl (nt h2038) rfl ?_
     refine at_lt (lt_pick false rfl (nt h2038) rfl) rfl ?_
     refine at_nil ?_
     have hq := oinj hr
     clear hr
     subst hq
     exact at_leaf () ⟨⟨rfl, ⟨rfl, ⟨rfl, ⟨rfl, ⟨rfl, trivial⟩⟩⟩⟩⟩, ⟨[], rfl⟩, ⟨[], rfl⟩, ⟨[1, 0], rfl⟩⟩
    replace hr := ineg h2038 hr
    refine at_on rfl rfl (nf (bf h2038)) ?_
    refine s_mv rfl ?_
    refine at_on rfl rfl (nf (bf h2038)) ?_
    refine s_mv rfl ?_
    replace hr := obind hr
    obtain ⟨x2039, h2040, hr⟩ := hr
    have := (List.getElem?_eq_some_iff.1 h2040).1
    refine at_elem 1 rfl (nat_at' h2040) (fun p2041 ec pa2042 => ?_)
    refine at_open (A := Unit) 0 rfl _ _ (fun F w h => op83 h) ?_
    rintro _ rfl
    refine at_on rfl rfl (nf (bf h2038)) ?_
    refine at_lt (lt_idx rfl rfl pa2042 und48 ti83) rfl ?_
    refine at_on rfl rfl (nf (bf h2038)) ?_
    refine at_lt (lt_fieldAddr 0 rfl fld83_0 rfl) rfl ?_
    refine at_on rfl rfl (nf (bf h2038)) ?_
    refine at_lt (lt_load_peek 1 rfl ti5 rfl rfl rfl rfl rfl) rfl ?_
    refine at_on rfl rfl (nf (bf h2038)) ?_
    refine s_mv rfl ?_
    refine at_on rfl rfl (nf (bf h2038)) ?_
    refine at_lt (lt_eql rfl rfl) rfl ?_
    refine at_lt (lt_pick true rfl (nf (bf h2038)) rfl) rfl ?_
    refine at_nil ?_
    have hq := oinj hr
    clear hr
    subst hq
    exact at_leaf () ⟨⟨rfl, ⟨rfl, ⟨rfl, ⟨rfl, ⟨rfl, trivial⟩⟩⟩⟩⟩, ⟨[], rfl⟩, ⟨[], rfl⟩, ⟨[3, 2], rfl⟩⟩
   clear hc2037
   intro _
   change At _ _ (⟨[(0, w2028), (1, .int .u8 (a1.toNat : Int)), (2, .bool a2), (7, .int .i64 (x2029 : Int)), (24, .bool x2036)], [], [], [((Ty.slice ty83).fact a0 [w2028]), ((Ty.int .i64).fact (x2029 : Int) [.int .i64 (x2029 : Int)])]⟩ : St) _
   refine at_then ?_
   by_cases h2043 : x2036 = true
   ·replace hr := ipos h2043 hr
    refine at_true rfl h2043 ?_
    refine s_sr ?_
    refine s_mv rfl ?_
    refine s_mv rfl ?_
    replace hr := obind hr
    obtain ⟨x2044, h2045, hr⟩ := hr
    have := (List.getElem?_eq_some_iff.1 h2045).1
    refine at_elem 0 rfl (nat_at' h2045) (fun p2046 ec pa2047 => ?_)
    refine at_open (A := Unit) 0 rfl _ _ (fun F w h => op83 h) ?_
    rintro _ rfl
    refine at_lt (lt_idx rfl rfl pa2047 und48 ti83) rfl ?_
    refine at_lt (lt_fieldAddr 1 rfl fld83_1 rfl) rfl ?_
    refine at_lt (lt_load_peek 1 rfl ti5 rfl rfl rfl rfl rfl) rfl ?_
    refine s_as rfl ?_
    refine s_nt ?_
    refine at_ret ?_
    have hq := oinj hr
    clear hr
    subst hq
    have hq := oinj hk2032
    clear hk2032
    subst hq
    refine at_then_ret ?_
    refine at_in_ret ?_
    refine at_then_ret ?_
    refine at_then_ret ?_
    refine at_in_ret ?_
    refine at_then_ret ?_
    refine at_then_ret ?_
    exact at_return (.int .u8 (x2044.To.toNat : Int)) [] hS Tryz.results40 (.cons (.tmp rfl) .nil) rfl rfl ⟨rfl, rfl⟩
   replace hr := ineg h2043 hr
   refine at_false rfl (bf h2043) ?_
   refine at_skip ?_
   refine at_then ?_
   refine at_seq ?_
   replace hr := obind hr
   obtain ⟨x2048, hc2049, hr⟩ := hr
   refine at_cut (V := Unit) (fun e => (⟨[(0, w2028), (1, .int .u8 (a1.toNat : Int)), (2, .bool a2), (7, .int .i64 (x2029 : Int)), (39, .bool x2048)], [], [], [((Ty.slice ty83).fact a0 [w2028]), ((Ty.int .i64).fact (x2029 : Int) [.int .i64 (x2029 : Int)])]⟩ : St)) ?_ ?_
   ·clear hr
    have hr := hc2049
    clear hc2049
    refine at_region ?_
    refine s_mv rfl ?_
    refine s_mv rfl ?_
    by_cases h2050 : a2 = true
    ·replace hr := ipos h2050 hr
     refine at_on rfl rfl h2050 ?_
     refine s_mv rfl ?_
     refine at_on rfl rfl h2050 ?_
     refine s_mv rfl ?_
     replace hr := obind hr
     obtain ⟨x2051, h2052, hr⟩ := hr
     have := (List.getElem?_eq_some_iff.1 h2052).1
     refine at_elem 0 rfl (nat_at' h2052) (fun p2053 ec pa2054 => ?_)
     refine at_open (A := Unit) 0 rfl _ _ (fun F w h => op83 h) ?_
     rintro _ rfl
     refine at_on rfl rfl h2050 ?_
     refine at_lt (lt_idx rfl rfl pa2054 und48 ti83) rfl ?_
     refine at_on rfl rfl h2050 ?_
     refine at_lt (lt_fieldAddr 1 rfl fld83_1 rfl) rfl ?_
     refine at_on rfl rfl h2050 ?_
     refine at_lt (lt_load_peek 1 rfl ti5 rfl rfl rfl rfl rfl) rfl ?_
     refine at_on rfl rfl h2050 ?_
     refine s_mv rfl ?_
     refine at_on rfl rfl h2050 ?_
     refine at_lt (lt_eql rfl rfl) rfl ?_
     refine at_lt (lt_pick true rfl h2050 rfl) rfl ?_
     refine at_nil ?_
     have hq := oinj hr
     clear hr
     subst hq
     exact at_leaf () ⟨⟨rfl, ⟨rfl, ⟨rfl, ⟨rfl, ⟨rfl, trivial⟩⟩⟩⟩⟩, ⟨[], rfl⟩, ⟨[], rfl⟩, ⟨[2, 3], rfl⟩⟩
    replace hr := ineg h2050 hr
    refine at_off rfl rfl (bf h2050) rfl ?_
    refine at_off rfl rfl (bf h2050) rfl ?_
    refine at_off rfl rfl (bf h2050) rfl ?_
    refine at_off rfl rfl (bf h2050) rfl ?_
    refine at_off rfl rfl (bf h2050) rfl ?_
    refine at_off rfl rfl (bf h2050) rfl ?_
    refine at_off rfl rfl (bf h2050) rfl ?_
    refine at_lt (lt_pick false rfl (bf h2050) rfl) rfl ?_
    refine at_nil ?_
    have hq := oinj hr
    clear hr
    subst hq
    exact at_leaf () ⟨⟨rfl, ⟨rfl, ⟨rfl, ⟨rfl, ⟨rfl, trivial⟩⟩⟩⟩⟩, ⟨[], rfl⟩, ⟨[], rfl⟩, ⟨[0, 1], rfl⟩⟩
   clear hc2049
   intro _
   change At _ _ (⟨[(0, w2028), (1, .int .u8 (a1.toNat : Int)), (2, .bool a2), (7, .int .i64 (x2029 : Int)), (39, .bool x2048)], [], [], [((Ty.slice ty83).fact a0 [w2028]), ((Ty.int .i64).fact (x2029 : Int) [.int .i64 (x2029 : Int)])]⟩ : St) _
   refine at_then ?_
   by_cases h2055 : x2048 = true
   ·replace hr := ipos h2055 hr
    refine at_true rfl h2055 ?_
    refine s_sr ?_
    refine s_mv rfl ?_
    refine s_mv rfl ?_
    replace hr := obind hr
    obtain ⟨x2056, h2057, hr⟩ := hr
    have := (List.getElem?_eq_some_iff.1 h2057).1
    refine at_elem 0 rfl (nat_at' h2057) (fun p2058 ec pa2059 => ?_)
    refine at_open (A := Unit) 0 rfl _ _ (fun F w h => op83 h) ?_
    rintro _ rfl
    refine at_lt (lt_idx rfl rfl pa2059 und48 ti83) rfl ?_
    refine at_lt (lt_fieldAddr 0 rfl fld83_0 rfl) rfl ?_
    refine at_lt (lt_load_peek 1 rfl ti5 rfl rfl rfl rfl rfl) rfl ?_
    refine s_as rfl ?_
    refine s_nt ?_
    refine at_ret ?_
    have hq := oinj hr
    clear hr
    subst hq
    have hq := oinj hk2032
    clear hk2032
    subst hq
    refine at_in_ret ?_
    refine at_then_ret ?_
    refine at_then_ret ?_
    refine at_in_ret ?_
    refine at_then_ret ?_
    refine at_then_ret ?_
    exact at_return (.int .u8 (x2056.From.toNat : Int)) [] hS Tryz.results40 (.cons (.tmp rfl) .nil) rfl rfl ⟨rfl, rfl⟩
   replace hr := ineg h2055 hr
   refine at_false rfl (bf h2055) ?_
   refine at_skip ?_
   refine at_in ?_
   refine s_tr ?_
   refine s_mv rfl ?_
   refine at_lt (lt_add rfl rfl (by simp only [lo, hi]; omega)) rfl ?_
   refine s_as rfl ?_
   refine at_nil ?_
   refine at_int .i64 (x2029 + 1 : Int) (by simp only [lo, hi]; omega) ?_
   exact at_again (σ := Nat) (V := Unit) (lp := fun n s => m40_l1 a0 a1 a2 n s) (S := fun s e => (⟨[(0, w2028), (1, .int .u8 (a1.toNat : Int)), (2, .bool a2), (7, .int .i64 (s : Int))], [], [], [((Ty.int .i64).fact (s : Int) [.int .i64 (s : Int)]), ((Ty.slice ty83).fact a0 [w2028])]⟩ : St)) (x2029 + 1) () hr ⟨⟨rfl, ⟨rfl, ⟨rfl, ⟨rfl, trivial⟩⟩⟩⟩, ⟨[], rfl⟩, ⟨[], rfl⟩, ⟨[0, 1], rfl⟩⟩
  replace hr := ineg h2035 hr
  refine at_false rfl (decide_eq_false (by omega)) ?_
  refine at_exit ?_
  refine at_then_exit ?_
  refine at_then_exit ?_
  refine at_in_exit ?_
  have hq := oinj hr
  clear hr
  subst hq
  exact at_leafP ((), ()) rfl ⟨trivial, ⟨[], rfl⟩, ⟨[], rfl⟩, ⟨[], rfl⟩⟩
 rintro ⟨_, _⟩ hp
 replace hr := hk2032
 subst hp
 clear hl2031
 change At _ _ (⟨[], [], [], []⟩ : St) _
 refine s_tsr ?_
 refine s_as rfl ?_
 refine s_nt ?_
 refine at_ret ?_
 have hq := oinj hr
 clear hr
 subst hq
 exact at_return (.int .u8 0) [] hS Tryz.results40 (.cons (.tmp rfl) .nil) rfl rfl ⟨rfl, rfl⟩
/-! 13 bookplate/bookplateref16.Covers -/
def m13_l2 (a0 : (List D_ref16_Entry)) (a1 : D_api_Record) (x2078 : Nat) (x2090 : Int) : Nat → Nat → Option (Fl (Fl Bool Unit) Unit)
  | 0, _ => none
  | k + 1, x2094 =>
    (a1.Fields[x2078]?).bind fun x2098 =>
    if x2094 < x2098.Subs.length then
     (at? a0 x2090).bind fun x2106 =>
     (a1.Fields[x2078]?).bind fun x2111 =>
     (x2111.Subs[x2094]?).bind fun x2116 =>
     (m40 x2106.Codes x2116.Code false).bind fun x2120 =>
     if x2120.toNat = 0 then
      some (Fl.ret (Fl.ret false))
     else
      m13_l2 a0 a1 x2078 x2090 k (x2094 + 1)
    else
     some (Fl.go ())
def m13_l1 (a0 : (List D_ref16_Entry)) (a1 : D_api_Record) : Nat → Nat → Option (Fl Bool Unit)
  | 0, _ => none
  | k + 1, x2078 =>
    if x2078 < a1.Fields.length then
     (a1.Fields[x2078]?).bind fun x2085 =>
     (m39 a0 x2085.Tag false).bind fun x2090 =>
     if x2090 < 0 then
      some (Fl.ret false)
     else
      (m13_l2 a0 a1 x2078 x2090 9223372036854775808 0).bind fun r => match r with
      | .ret x => some x
      | .go _ =>
       m13_l1 a0 a1 k (x2078 + 1)
    else
     some (Fl.go ())
def m13 (a0 : (List D_ref16_Entry)) (a1 : D_api_Record) : Option Bool :=
  (m24 a0).bind fun x2064 =>
  if x2064 = true then
   (m25 (⟨a1.ID, a1.Fields⟩ : D_api_Record)).bind fun x2067 =>
   if x2067 = true then
    (m38 (⟨a1.ID, a1.Fields⟩ : D_api_Record)).bind fun x2070 =>
    (m18 x2070 (⟨a1.ID, a1.Fields⟩ : D_api_Record)).bind fun x2074 =>
    if x2074 = true then
     (m13_l1 a0 a1 (a1.Fields.length + 1) 0).bind fun r => match r with
     | .ret x => some x
     | .go _ =>
      some true
    else
     some false
   else
    some false
  else
   some false
def post13 (r : Bool) (v : Value) (fs : List Fact) : Prop := v = .bool r ∧ fs = []
theorem en13 : Enters Tryz.prog 13 := ⟨_, Tryz.func13, by kernel_rfl, rfl⟩
theorem f13_spec {a0 : (List D_ref16_Entry)} {a1 : D_api_Record} {w2060 : Value} {s2061 : Value} {r : Bool} (hr : m13 a0 a1 = some r) : Spec Tryz.prog 13 [w2060, .agg #[.int .i64 a1.ID, s2061]] [((Ty.slice ty50).fact a0 [w2060]), (ty25.fact a1 [.int .i64 a1.ID, s2061])] (post13 r) := by
 refine spec_start (N := 68) Tryz.func13 (by kernel_rfl) rfl rfl rfl ?_
 intro g hS
 unfold m13 at hr
 refine at_open (A := Unit) 1 rfl (fun _ => True) (fun _ => [((Ty.int .i64).fact a1.ID [.int .i64 a1.ID]), ((Ty.slice ty69).fact a1.Fields [s2061])]) (fun F w h => ⟨(), trivial, ex25 h⟩) (fun _ _ => ?_)
 refine at_inv 0 rfl (fun l2062 => ?_)
 replace l2062 : (-9223372036854775808) ≤ a1.ID ∧ a1.ID ≤ 9223372036854775807 := l2062
 refine s_sr ?_
 refine at_hv rfl ?_
 refine hv_box (cs := [.int .i64 a1.ID, s2061]) rfl rfl rfl (fun b2063 => ?_)
 refine s_as rfl ?_
 refine s_nt ?_
 refine at_seq ?_
 refine at_seq ?_
 replace hr := obind hr
 obtain ⟨x2064, h2065, hr⟩ := hr
 by_cases h2066 : x2064 = true
 ·replace hr := ipos h2066 hr
  replace hr := obind hr
  obtain ⟨x2067, h2068, hr⟩ := hr
  by_cases h2069 : x2067 = true
  ·replace hr := ipos h2069 hr
   replace hr := obind hr
   obtain ⟨x2070, h2071, hr⟩ := hr
   replace hr := obind hr
   obtain ⟨x2074, h2075, hr⟩ := hr
   refine aa_start 15 (by kernel_rfl) ?_
   refine aa_p 0 rfl (lt_move rfl) ?_
   refine aa_one 1 ?_
   refine aa_op rfl rfl ?_
   refine hv_call0 [2] (f24_spec h2065) rfl rfl rfl rfl ?_
   rintro _ _ ⟨rfl, rfl⟩
   refine aa_p 2 rfl (lt_not rfl) ?_
   refine aa_p 3 rfl (lt_move rfl) ?_
   refine aa_lg 4 rfl ⟨11, rfl, .inl ⟨_, rfl, gdq (v := false) (nt h2066) rfl⟩⟩ (lt_load_box 0 rfl ti25 rfl rfl rfl rfl rfl) ?_
   refine aa_one 5 ?_
   refine at_derive [0, 1] (ty25.fact (⟨a1.ID, a1.Fields⟩ : D_api_Record) [.int .i64 a1.ID, s2061]) rfl (fun F w h => mk25 (x := (⟨a1.ID, a1.Fields⟩ : D_api_Record)) h) ?_
   refine aa_op rfl ⟨11, rfl, .inl ⟨_, rfl, gdq (v := false) (nt h2066) rfl⟩⟩ ?_
   refine hv_call0 [0] (f25_spec h2068) rfl rfl rfl rfl ?_
   rintro _ _ ⟨rfl, rfl⟩
   refine aa_pure 6 rfl (by kernel_rfl) rfl ⟨11, rfl, .inl ⟨_, rfl, gdq (v := false) (nt h2066) rfl⟩⟩ (lt_not rfl) rfl (ts_in 0 1 rfl rfl) ?_
   refine aa_pure 7 rfl (by kernel_rfl) rfl rfl (lt_pick false rfl (nt h2066) rfl) rfl (ts_in 0 1 rfl rfl) ?_
   refine aa_pure 8 rfl (by kernel_rfl) rfl rfl (lt_move rfl) rfl (ts_in 0 1 rfl rfl) ?_
   refine aa_load 9 rfl (by kernel_rfl) rfl ⟨16, rfl, .inl ⟨_, rfl, gdq (v := false) (nt h2069) rfl⟩⟩ (lt_load_box 0 rfl ti25 rfl rfl rfl rfl rfl) rfl (ts_in 0 1 rfl rfl) ?_
   refine aa_load 11 rfl (by kernel_rfl) rfl ⟨16, rfl, .inl ⟨_, rfl, gdq (v := false) (nt h2069) rfl⟩⟩ (lt_load_box 0 rfl ti25 rfl rfl rfl rfl rfl) rfl (ts_in 0 1 rfl rfl) ?_
   refine aa_all (rs := [10]) (by kernel_rfl) rfl (ts_in 0 1 rfl rfl) (List.forall_mem_singleton.2 ?_)
   refine aa_op rfl ⟨16, rfl, .inl ⟨_, rfl, gdq (v := false) (nt h2069) rfl⟩⟩ ?_
   refine hv_call0 [0] (f38_spec h2071) rfl rfl rfl rfl ?_
   rintro _ _ ⟨s2072, rfl, rfl⟩
   refine at_open (A := Unit) 0 rfl (fun _ => True) (fun _ => [((Ty.int .i64).fact x2070.ID [.int .i64 x2070.ID]), ((Ty.slice ty69).fact x2070.Fields [s2072])]) (fun F w h => ⟨(), trivial, ex25 h⟩) (fun _ _ => ?_)
   refine at_inv 0 rfl (fun l2076 => ?_)
   replace l2076 : (-9223372036854775808) ≤ x2070.ID ∧ x2070.ID ≤ 9223372036854775807 := l2076
   refine aa_all (rs := [12]) (by kernel_rfl) rfl (ts_in 0 4 rfl rfl) (List.forall_mem_singleton.2 ?_)
   refine aa_op rfl ⟨16, rfl, .inl ⟨_, rfl, gdq (v := false) (nt h2069) rfl⟩⟩ ?_
   refine hv_call0 [2, 3] (f18_spec h2075) rfl rfl rfl rfl ?_
   rintro _ _ ⟨rfl, rfl⟩
   refine aa_pure 13 rfl (by kernel_rfl) rfl ⟨16, rfl, .inl ⟨_, rfl, gdq (v := false) (nt h2069) rfl⟩⟩ (lt_not rfl) rfl (ts_in 0 4 rfl rfl) ?_
   refine aa_pure 14 rfl (by kernel_rfl) rfl rfl (lt_pick false rfl (nt h2069) rfl) rfl (ts_in 0 4 rfl rfl) ?_
   refine aa_done (by kernel_rfl) (ts_in 0 4 rfl rfl) ?_
   refine at_then ?_
   by_cases h2077 : x2074 = true
   ·replace hr := ipos h2077 hr
    refine at_false rfl (nt h2077) ?_
    refine at_skip ?_
    refine at_then ?_
    refine at_seq ?_
    refine s_sr ?_
    refine s_as rfl ?_
    refine s_nt ?_
    refine at_int .i64 0 (by simp only [lo, hi]; omega) ?_
    replace hr := obind hr
    obtain ⟨r2079, hl2080, hk2081⟩ := hr
    refine at_cutP (V := (Unit) × (Unit)) (fun v => r2079 = Fl.go v.1) (fun v => (⟨[], [], [], []⟩ : St)) ?_ ?_
    ·refine at_block ?_
     refine at_loopW (σ := Nat) (V := Unit) (r := r2079) (fun n s => m13_l1 a0 a1 n s) (fun s e => (⟨[(0, w2060), (3, .pointer (some (Addr.add ⟨b2063, 0, none⟩ 0))), (5, .int .i64 (s : Int))], [⟨b2063, [.int .i64 a1.ID, s2061], 25⟩], [], [((Ty.int .i64).fact (s : Int) [.int .i64 (s : Int)]), ((Ty.slice ty50).fact a0 [w2060]), ((Ty.int .i64).fact a1.ID [.int .i64 a1.ID]), ((Ty.slice ty69).fact a1.Fields [s2061])]⟩ : St)) (fun _ => rfl) _ 0 () hl2080 ⟨⟨rfl, ⟨rfl, ⟨rfl, trivial⟩⟩⟩, ⟨[true], rfl⟩, ⟨[], rfl⟩, ⟨[0, 7, 5, 6], rfl⟩⟩ ?_
     clear hl2080
     intro n x2078 hr e
     skip
     skip
     change m13_l1 a0 a1 (n + 1) x2078 = some r2079 at hr
     change At _ _ (⟨[(0, w2060), (3, .pointer (some (Addr.add ⟨b2063, 0, none⟩ 0))), (5, .int .i64 (x2078 : Int))], [⟨b2063, [.int .i64 a1.ID, s2061], 25⟩], [], [((Ty.int .i64).fact (x2078 : Int) [.int .i64 (x2078 : Int)]), ((Ty.slice ty50).fact a0 [w2060]), ((Ty.int .i64).fact a1.ID [.int .i64 a1.ID]), ((Ty.slice ty69).fact a1.Fields [s2061])]⟩ : St) _
     rw [m13_l1] at hr
     refine at_seq ?_
     refine s_sr ?_
     refine s_mv rfl ?_
     refine at_lt (lt_fieldAddr 1 rfl fld25_1 rfl) rfl ?_
     refine at_lt (lt_load_box 0 rfl ti23 rfl rfl rfl rfl rfl) rfl ?_
     refine at_inv 3 rfl (fun i2082 => ?_)
     have l2083 := slice_len i2082
     refine at_lt (lt_flen 3 rfl rfl und23) rfl ?_
     refine at_lt (lt_lss rfl rfl) rfl ?_
     refine s_nt ?_
     by_cases h2084 : x2078 < a1.Fields.length
     ·replace hr := ipos h2084 hr
      refine at_true rfl (decide_eq_true (by omega)) ?_
      refine at_skip ?_
      refine at_then ?_
      refine at_seq ?_
      refine at_block ?_
      refine s_sr ?_
      refine s_mv rfl ?_
      refine at_lt (lt_fieldAddr 1 rfl fld25_1 rfl) rfl ?_
      refine at_lt (lt_load_box 0 rfl ti23 rfl rfl rfl rfl rfl) rfl ?_
      refine s_mv rfl ?_
      replace hr := obind hr
      obtain ⟨x2085, h2086, hr⟩ := hr
      have := (List.getElem?_eq_some_iff.1 h2086).1
      refine at_elem 3 rfl (nat_at' h2086) (fun p2088 ec pa2089 => ?_)
      refine at_open (A := Value) 0 rfl _ _ (fun F w h => op69 h) ?_
      rintro s2087 rfl
      refine at_lt (lt_idx rfl rfl pa2089 und23 ti69) rfl ?_
      refine at_lt (lt_fieldAddr 0 rfl fld69_0 rfl) rfl ?_
      refine at_lt (lt_load_peek 3 rfl ti9 rfl rfl rfl rfl rfl) rfl ?_
      replace hr := obind hr
      obtain ⟨x2090, h2091, hr⟩ := hr
      refine at_hv rfl ?_
      refine hv_call0 [5, 0] (f39_spec h2091) rfl rfl rfl rfl ?_
      rintro _ _ ⟨rfl, rfl⟩
      refine at_inv 0 rfl (fun l2092 => ?_)
      replace l2092 : (-9223372036854775808) ≤ x2090 ∧ x2090 ≤ 9223372036854775807 := l2092
      refine s_as rfl ?_
      refine s_nt ?_
      refine at_seq ?_
      refine s_sr ?_
      refine s_mv rfl ?_
      refine at_lt (lt_lss rfl rfl) rfl ?_
      refine s_nt ?_
      by_cases h2093 : x2090 < 0
      ·replace hr := ipos h2093 hr
       refine at_true rfl (decide_eq_true (by first | exact h2093 | omega)) ?_
       refine s_sr ?_
       refine s_as rfl ?_
       refine s_nt ?_
       refine at_ret ?_
       have hq := oinj hr
       clear hr
       subst hq
       have hq := oinj hk2081
       clear hk2081
       subst hq
       refine at_then_ret ?_
       refine at_in_ret ?_
       refine at_then_ret ?_
       refine at_then_ret ?_
       refine at_in_ret ?_
       refine at_then_ret ?_
       refine at_then_ret ?_
       exact at_return (.bool false) [] hS Tryz.results13 (.cons (.tmp rfl) .nil) rfl rfl ⟨rfl, rfl⟩
      replace hr := ineg h2093 hr
      refine at_false rfl (decide_eq_false (by first | exact h2093 | omega)) ?_
      refine at_skip ?_
      refine s_tsr ?_
      refine s_as rfl ?_
      refine s_nt ?_
      refine at_int .i64 0 (by simp only [lo, hi]; omega) ?_
      replace hr := obind hr
      obtain ⟨r2095, hl2096, hk2097⟩ := hr
      refine at_cutP (V := (Unit) × (Unit)) (fun v => r2095 = Fl.go v.1) (fun v => (⟨[(0, w2060), (3, .pointer (some (Addr.add ⟨b2063, 0, none⟩ 0))), (5, .int .i64 (x2078 : Int))], [⟨b2063, [.int .i64 a1.ID, s2061], 25⟩], [], [((Ty.slice ty50).fact a0 [w2060]), ((Ty.int .i64).fact (x2078 : Int) [.int .i64 (x2078 : Int)]), ((Ty.int .i64).fact a1.ID [.int .i64 a1.ID]), ((Ty.slice ty69).fact a1.Fields [s2061])]⟩ : St)) ?_ ?_
      ·refine at_block ?_
       refine at_loopW (σ := Nat) (V := Unit) (r := r2095) (fun n s => m13_l2 a0 a1 x2078 x2090 n s) (fun s e => (⟨[(0, w2060), (3, .pointer (some (Addr.add ⟨b2063, 0, none⟩ 0))), (5, .int .i64 (x2078 : Int)), (6, .int .i64 x2090), (7, .int .i64 (s : Int))], [⟨b2063, [.int .i64 a1.ID, s2061], 25⟩], [], [((Ty.int .i64).fact (s : Int) [.int .i64 (s : Int)]), ((Ty.slice ty50).fact a0 [w2060]), ((Ty.int .i64).fact (x2078 : Int) [.int .i64 (x2078 : Int)]), ((Ty.int .i64).fact x2090 [.int .i64 x2090]), ((Ty.int .i64).fact a1.ID [.int .i64 a1.ID]), ((Ty.slice ty69).fact a1.Fields [s2061])]⟩ : St)) (fun _ => rfl) _ 0 () hl2096 ⟨⟨rfl, ⟨rfl, ⟨rfl, ⟨rfl, ⟨rfl, trivial⟩⟩⟩⟩⟩, ⟨[true], rfl⟩, ⟨[], rfl⟩, ⟨[0, 7, 6, 1, 8, 9], rfl⟩⟩ ?_
       clear hl2096
       intro n x2094 hr e
       skip
       skip
       change m13_l2 a0 a1 x2078 x2090 (n + 1) x2094 = some r2095 at hr
       change At _ _ (⟨[(0, w2060), (3, .pointer (some (Addr.add ⟨b2063, 0, none⟩ 0))), (5, .int .i64 (x2078 : Int)), (6, .int .i64 x2090), (7, .int .i64 (x2094 : Int))], [⟨b2063, [.int .i64 a1.ID, s2061], 25⟩], [], [((Ty.int .i64).fact (x2094 : Int) [.int .i64 (x2094 : Int)]), ((Ty.slice ty50).fact a0 [w2060]), ((Ty.int .i64).fact (x2078 : Int) [.int .i64 (x2078 : Int)]), ((Ty.int .i64).fact x2090 [.int .i64 x2090]), ((Ty.int .i64).fact a1.ID [.int .i64 a1.ID]), ((Ty.slice ty69).fact a1.Fields [s2061])]⟩ : St) _
       rw [m13_l2] at hr
       refine at_seq ?_
       refine s_sr ?_
       refine s_mv rfl ?_
       refine at_lt (lt_fieldAddr 1 rfl fld25_1 rfl) rfl ?_
       refine at_lt (lt_load_box 0 rfl ti23 rfl rfl rfl rfl rfl) rfl ?_
       refine s_mv rfl ?_
       replace hr := obind hr
       obtain ⟨x2098, h2099, hr⟩ := hr
       have := (List.getElem?_eq_some_iff.1 h2099).1
       refine at_elem 5 rfl (nat_at' h2099) (fun p2101 ec pa2102 => ?_)
       refine at_open (A := Value) 0 rfl _ _ (fun F w h => op69 h) ?_
       rintro s2100 rfl
       refine at_lt (lt_idx rfl rfl pa2102 und23 ti69) rfl ?_
       refine at_lt (lt_fieldAddr 3 rfl fld69_2 rfl) rfl ?_
       refine at_lt (lt_load_peek 3 rfl ti67 rfl rfl rfl rfl rfl) rfl ?_
       refine at_inv 1 rfl (fun i2103 => ?_)
       have l2104 := slice_len i2103
       refine at_lt (lt_flen 1 rfl rfl und67) rfl ?_
       refine at_lt (lt_lss rfl rfl) rfl ?_
       refine s_nt ?_
       by_cases h2105 : x2094 < x2098.Subs.length
       ·replace hr := ipos h2105 hr
        refine at_true rfl (decide_eq_true (by omega)) ?_
        refine at_skip ?_
        refine at_then ?_
        refine at_seq ?_
        refine at_block ?_
        refine at_seq ?_
        replace hr := obind hr
        obtain ⟨x2106, h2107, hr⟩ := hr
        have := at?_lt h2107
        refine at_elem 5 rfl h2107 (fun p2109 ec pa2110 => ?_)
        refine at_open (A := Value) 0 rfl _ _ (fun F w h => op50 h) ?_
        rintro s2108 rfl
        replace hr := obind hr
        obtain ⟨x2111, h2112, hr⟩ := hr
        have := (List.getElem?_eq_some_iff.1 h2112).1
        refine at_elem 14 rfl (nat_at' h2112) (fun p2114 ec pa2115 => ?_)
        refine at_open (A := Value) 0 rfl _ _ (fun F w h => op69 h) ?_
        rintro s2113 rfl
        replace hr := obind hr
        obtain ⟨x2116, h2117, hr⟩ := hr
        have := (List.getElem?_eq_some_iff.1 h2117).1
        refine at_elem 1 rfl (nat_at' h2117) (fun p2118 ec pa2119 => ?_)
        refine at_open (A := Unit) 0 rfl _ _ (fun F w h => op66 h) ?_
        rintro _ rfl
        replace hr := obind hr
        obtain ⟨x2120, h2121, hr⟩ := hr
        refine aa_start 17 (by kernel_rfl) ?_
        refine aa_p 0 rfl (lt_move rfl) ?_
        refine aa_p 1 rfl (lt_move rfl) ?_
        refine aa_p 2 rfl (lt_idx rfl rfl pa2110 und22 ti50) ?_
        refine aa_p 3 rfl (lt_fieldAddr 2 rfl fld50_2 rfl) ?_
        refine aa_l 4 rfl (lt_load_peek 11 rfl ti48 rfl rfl rfl rfl rfl) ?_
        refine aa_p 5 rfl (lt_fieldAddr 1 rfl fld25_1 rfl) ?_
        refine aa_l 6 rfl (lt_load_box 0 rfl ti23 rfl rfl rfl rfl rfl) ?_
        refine aa_p 7 rfl (lt_move rfl) ?_
        refine aa_p 8 rfl (lt_idx rfl rfl pa2115 und23 ti69) ?_
        refine aa_p 9 rfl (lt_fieldAddr 3 rfl fld69_2 rfl) ?_
        refine aa_l 10 rfl (lt_load_peek 6 rfl ti67 rfl rfl rfl rfl rfl) ?_
        refine aa_p 11 rfl (lt_move rfl) ?_
        refine aa_p 12 rfl (lt_idx rfl rfl pa2119 und67 ti66) ?_
        refine aa_p 13 rfl (lt_fieldAddr 0 rfl fld66_0 rfl) ?_
        refine aa_l 14 rfl (lt_load_peek 2 rfl ti5 rfl rfl rfl rfl rfl) ?_
        refine aa_one 15 ?_
        refine aa_op rfl rfl ?_
        refine hv_call0 [9] (f40_spec h2121) rfl rfl rfl rfl ?_
        rintro _ _ ⟨rfl, rfl⟩
        refine aa_p 16 rfl (lt_eql rfl rfl) ?_
        refine aa_done (by kernel_rfl) (ts_in 0 0 rfl rfl) ?_
        refine at_then ?_
        by_cases h2122 : x2120.toNat = 0
        ·replace hr := ipos h2122 hr
         refine at_true rfl (decide_eq_true (by omega)) ?_
         refine s_sr ?_
         refine s_as rfl ?_
         refine s_nt ?_
         refine at_ret ?_
         have hq := oinj hr
         clear hr
         subst hq
         have hq := oinj hk2097
         clear hk2097
         subst hq
         have hq := oinj hk2081
         clear hk2081
         subst hq
         refine at_in_ret ?_
         refine at_then_ret ?_
         refine at_then_ret ?_
         refine at_in_ret ?_
         refine at_then_ret ?_
         refine at_in_ret ?_
         refine at_then_ret ?_
         refine at_then_ret ?_
         refine at_in_ret ?_
         refine at_then_ret ?_
         refine at_then_ret ?_
         exact at_return (.bool false) [] hS Tryz.results13 (.cons (.tmp rfl) .nil) rfl rfl ⟨rfl, rfl⟩
        replace hr := ineg h2122 hr
        refine at_false rfl (decide_eq_false (by omega)) ?_
        refine at_skip ?_
        refine at_in ?_
        refine s_tr ?_
        refine s_mv rfl ?_
        refine at_lt (lt_add rfl rfl (by simp only [lo, hi]; omega)) rfl ?_
        refine s_as rfl ?_
        refine at_nil ?_
        refine at_int .i64 (x2094 + 1 : Int) (by simp only [lo, hi]; omega) ?_
        exact at_again (σ := Nat) (V := Unit) (lp := fun n s => m13_l2 a0 a1 x2078 x2090 n s) (S := fun s e => (⟨[(0, w2060), (3, .pointer (some (Addr.add ⟨b2063, 0, none⟩ 0))), (5, .int .i64 (x2078 : Int)), (6, .int .i64 x2090), (7, .int .i64 (s : Int))], [⟨b2063, [.int .i64 a1.ID, s2061], 25⟩], [], [((Ty.int .i64).fact (s : Int) [.int .i64 (s : Int)]), ((Ty.slice ty50).fact a0 [w2060]), ((Ty.int .i64).fact (x2078 : Int) [.int .i64 (x2078 : Int)]), ((Ty.int .i64).fact x2090 [.int .i64 x2090]), ((Ty.int .i64).fact a1.ID [.int .i64 a1.ID]), ((Ty.slice ty69).fact a1.Fields [s2061])]⟩ : St)) (x2094 + 1) () hr ⟨⟨rfl, ⟨rfl, ⟨rfl, ⟨rfl, ⟨rfl, trivial⟩⟩⟩⟩⟩, ⟨[true], rfl⟩, ⟨[], rfl⟩, ⟨[0, 18, 19, 20, 21, 22], rfl⟩⟩
       replace hr := ineg h2105 hr
       refine at_false rfl (decide_eq_false (by omega)) ?_
       refine at_exit ?_
       refine at_then_exit ?_
       refine at_then_exit ?_
       refine at_in_exit ?_
       have hq := oinj hr
       clear hr
       subst hq
       exact at_leafP ((), ()) rfl ⟨⟨rfl, ⟨rfl, ⟨rfl, trivial⟩⟩⟩, ⟨[true], rfl⟩, ⟨[], rfl⟩, ⟨[5, 6, 8, 9], rfl⟩⟩
      rintro ⟨_, _⟩ hp
      replace hr := hk2097
      subst hp
      clear hl2096
      change At _ _ (⟨[(0, w2060), (3, .pointer (some (Addr.add ⟨b2063, 0, none⟩ 0))), (5, .int .i64 (x2078 : Int))], [⟨b2063, [.int .i64 a1.ID, s2061], 25⟩], [], [((Ty.slice ty50).fact a0 [w2060]), ((Ty.int .i64).fact (x2078 : Int) [.int .i64 (x2078 : Int)]), ((Ty.int .i64).fact a1.ID [.int .i64 a1.ID]), ((Ty.slice ty69).fact a1.Fields [s2061])]⟩ : St) _
      refine at_in ?_
      refine s_tr ?_
      refine s_mv rfl ?_
      refine at_lt (lt_add rfl rfl (by simp only [lo, hi]; omega)) rfl ?_
      refine s_as rfl ?_
      refine at_nil ?_
      refine at_int .i64 (x2078 + 1 : Int) (by simp only [lo, hi]; omega) ?_
      exact at_again (σ := Nat) (V := Unit) (lp := fun n s => m13_l1 a0 a1 n s) (S := fun s e => (⟨[(0, w2060), (3, .pointer (some (Addr.add ⟨b2063, 0, none⟩ 0))), (5, .int .i64 (s : Int))], [⟨b2063, [.int .i64 a1.ID, s2061], 25⟩], [], [((Ty.int .i64).fact (s : Int) [.int .i64 (s : Int)]), ((Ty.slice ty50).fact a0 [w2060]), ((Ty.int .i64).fact a1.ID [.int .i64 a1.ID]), ((Ty.slice ty69).fact a1.Fields [s2061])]⟩ : St)) (x2078 + 1) () hr ⟨⟨rfl, ⟨rfl, ⟨rfl, trivial⟩⟩⟩, ⟨[true], rfl⟩, ⟨[], rfl⟩, ⟨[0, 1, 3, 4], rfl⟩⟩
     replace hr := ineg h2084 hr
     refine at_false rfl (decide_eq_false (by omega)) ?_
     refine at_exit ?_
     refine at_then_exit ?_
     refine at_then_exit ?_
     refine at_in_exit ?_
     have hq := oinj hr
     clear hr
     subst hq
     exact at_leafP ((), ()) rfl ⟨trivial, ⟨[false], rfl⟩, ⟨[], rfl⟩, ⟨[], rfl⟩⟩
    rintro ⟨_, _⟩ hp
    replace hr := hk2081
    subst hp
    clear hl2080
    change At _ _ (⟨[], [], [], []⟩ : St) _
    refine s_tsr ?_
    refine s_as rfl ?_
    refine s_nt ?_
    refine at_ret ?_
    have hq := oinj hr
    clear hr
    subst hq
    exact at_return (.bool true) [] hS Tryz.results13 (.cons (.tmp rfl) .nil) rfl rfl ⟨rfl, rfl⟩
   replace hr := ineg h2077 hr
   refine at_true rfl (nf (bf h2077)) ?_
   refine s_sr ?_
   refine s_as rfl ?_
   refine s_nt ?_
   refine at_ret ?_
   have hq := oinj hr
   clear hr
   subst hq
   refine at_then_ret ?_
   exact at_return (.bool false) [] hS Tryz.results13 (.cons (.tmp rfl) .nil) rfl rfl ⟨rfl, rfl⟩
  replace hr := ineg h2069 hr
  refine aa_start 15 (by kernel_rfl) ?_
  refine aa_p 0 rfl (lt_move rfl) ?_
  refine aa_one 1 ?_
  refine aa_op rfl rfl ?_
  refine hv_call0 [2] (f24_spec h2065) rfl rfl rfl rfl ?_
  rintro _ _ ⟨rfl, rfl⟩
  refine aa_p 2 rfl (lt_not rfl) ?_
  refine aa_p 3 rfl (lt_move rfl) ?_
  refine aa_lg 4 rfl ⟨11, rfl, .inl ⟨_, rfl, gdq (v := false) (nt h2066) rfl⟩⟩ (lt_load_box 0 rfl ti25 rfl rfl rfl rfl rfl) ?_
  refine aa_one 5 ?_
  refine at_derive [0, 1] (ty25.fact (⟨a1.ID, a1.Fields⟩ : D_api_Record) [.int .i64 a1.ID, s2061]) rfl (fun F w h => mk25 (x := (⟨a1.ID, a1.Fields⟩ : D_api_Record)) h) ?_
  refine aa_op rfl ⟨11, rfl, .inl ⟨_, rfl, gdq (v := false) (nt h2066) rfl⟩⟩ ?_
  refine hv_call0 [0] (f25_spec h2068) rfl rfl rfl rfl ?_
  rintro _ _ ⟨rfl, rfl⟩
  refine aa_pure 6 rfl (by kernel_rfl) rfl ⟨11, rfl, .inl ⟨_, rfl, gdq (v := false) (nt h2066) rfl⟩⟩ (lt_not rfl) rfl (ts_in 0 1 rfl rfl) ?_
  refine aa_pure 7 rfl (by kernel_rfl) rfl rfl (lt_pick false rfl (nt h2066) rfl) rfl (ts_in 0 1 rfl rfl) ?_
  refine aa_pure 8 rfl (by kernel_rfl) rfl rfl (lt_move rfl) rfl (ts_in 0 1 rfl rfl) ?_
  refine aa_off 9 rfl (by kernel_rfl) rfl ⟨16, rfl, .inl ⟨_, rfl, gdq (v := true) (nf (bf h2069)) rfl⟩⟩ rfl (ts_in 0 1 rfl rfl) ?_
  refine aa_off 10 rfl (by kernel_rfl) rfl ⟨16, rfl, .inl ⟨_, rfl, gdq (v := true) (nf (bf h2069)) rfl⟩⟩ rfl (ts_in 0 1 rfl rfl) ?_
  refine aa_off 11 rfl (by kernel_rfl) rfl ⟨16, rfl, .inl ⟨_, rfl, gdq (v := true) (nf (bf h2069)) rfl⟩⟩ rfl (ts_in 0 1 rfl rfl) ?_
  refine aa_off 12 rfl (by kernel_rfl) rfl ⟨16, rfl, .inl ⟨_, rfl, gdq (v := true) (nf (bf h2069)) rfl⟩⟩ rfl (ts_in 0 1 rfl rfl) ?_
  refine aa_off 13 rfl (by kernel_rfl) rfl ⟨16, rfl, .inl ⟨_, rfl, gdq (v := true) (nf (bf h2069)) rfl⟩⟩ rfl (ts_in 0 1 rfl rfl) ?_
  refine aa_pure 14 rfl (by kernel_rfl) rfl rfl (lt_pick true rfl (nf (bf h2069)) rfl) rfl (ts_in 0 1 rfl rfl) ?_
  refine aa_done (by kernel_rfl) (ts_in 0 1 rfl rfl) ?_
  refine at_then ?_
  refine at_true rfl rfl ?_
  refine s_sr ?_
  refine s_as rfl ?_
  refine s_nt ?_
  refine at_ret ?_
  have hq := oinj hr
  clear hr
  subst hq
  refine at_then_ret ?_
  exact at_return (.bool false) [] hS Tryz.results13 (.cons (.tmp rfl) .nil) rfl rfl ⟨rfl, rfl⟩
 replace hr := ineg h2066 hr
 refine aa_start 15 (by kernel_rfl) ?_
 refine aa_p 0 rfl (lt_move rfl) ?_
 refine aa_one 1 ?_
 refine aa_op rfl rfl ?_
 refine hv_call0 [2] (f24_spec h2065) rfl rfl rfl rfl ?_
 rintro _ _ ⟨rfl, rfl⟩
 refine aa_p 2 rfl (lt_not rfl) ?_
 refine aa_p 3 rfl (lt_move rfl) ?_
 refine aa_o 4 rfl ⟨11, rfl, .inl ⟨_, rfl, gdq (v := true) (nf (bf h2066)) rfl⟩⟩ ?_
 refine aa_o 5 rfl ⟨11, rfl, .inl ⟨_, rfl, gdq (v := true) (nf (bf h2066)) rfl⟩⟩ ?_
 refine aa_o 6 rfl ⟨11, rfl, .inl ⟨_, rfl, gdq (v := true) (nf (bf h2066)) rfl⟩⟩ ?_
 refine aa_p 7 rfl (lt_pick true rfl (nf (bf h2066)) rfl) ?_
 refine aa_p 8 rfl (lt_move rfl) ?_
 refine aa_o 9 rfl ⟨16, rfl, .inl ⟨_, rfl, gdq (v := true) rfl rfl⟩⟩ ?_
 refine aa_o 10 rfl ⟨16, rfl, .inl ⟨_, rfl, gdq (v := true) rfl rfl⟩⟩ ?_
 refine aa_o 11 rfl ⟨16, rfl, .inl ⟨_, rfl, gdq (v := true) rfl rfl⟩⟩ ?_
 refine aa_o 12 rfl ⟨16, rfl, .inl ⟨_, rfl, gdq (v := true) rfl rfl⟩⟩ ?_
 refine aa_o 13 rfl ⟨16, rfl, .inl ⟨_, rfl, gdq (v := true) rfl rfl⟩⟩ ?_
 refine aa_p 14 rfl (lt_pick true rfl rfl rfl) ?_
 refine aa_done (by kernel_rfl) (ts_in 0 0 rfl rfl) ?_
 refine at_then ?_
 refine at_true rfl rfl ?_
 refine s_sr ?_
 refine s_as rfl ?_
 refine s_nt ?_
 refine at_ret ?_
 have hq := oinj hr
 clear hr
 subst hq
 refine at_then_ret ?_
 exact at_return (.bool false) [] hS Tryz.results13 (.cons (.tmp rfl) .nil) rfl rfl ⟨rfl, rfl⟩
/-! 15 bookplate/bookplatelaw16.Own -/
def m15_l2 (a0 : (List D_ref16_Entry)) (x2125 : Nat) : Nat → Nat → (List D_crosswalk_Pair) → Option (List D_crosswalk_Pair)
  | 0, _, _ => none
  | k + 1, x2150, x2151 =>
    (a0[x2125]?).bind fun x2161 =>
    if x2150 < x2161.Codes.length then
     (a0[x2125]?).bind fun x2169 =>
     (x2169.Codes[x2150]?).bind fun x2174 =>
     if x2151.length + 1 ≤ 70368744177664 then
      m15_l2 a0 x2125 k (x2150 + 1) (x2151 ++ [(⟨x2174.From, x2174.To⟩ : D_crosswalk_Pair)])
     else none
    else
     some x2151
def m15_l1 (a0 : (List D_ref16_Entry)) : Nat → (List D_crosswalk_Entry) → Nat → Option (List D_crosswalk_Entry)
  | 0, _, _ => none
  | k + 1, x2124, x2125 =>
    if x2125 < a0.length then
     (a0[x2125]?).bind fun x2138 =>
     (a0[x2125]?).bind fun x2143 =>
     (m15_l2 a0 x2125 9223372036854775808 0 ([] : (List D_crosswalk_Pair))).bind fun x2155 =>
     if x2124.length + 1 ≤ 2513169434916 then
      m15_l1 a0 k (x2124 ++ [(⟨x2138.From, x2143.To, x2155⟩ : D_crosswalk_Entry)]) (x2125 + 1)
     else none
    else
     some x2124
def m15 (a0 : (List D_ref16_Entry)) : Option (List D_crosswalk_Entry) :=
  (m15_l1 a0 (a0.length + 1) ([] : (List D_crosswalk_Entry)) 0).bind fun x2129 =>
  some x2129
def post15 (r : (List D_crosswalk_Entry)) (v : Value) (fs : List Fact) : Prop := ∃ s2194 : Value, v = s2194 ∧ fs = [((Ty.slice ty76).fact r [s2194])]
theorem en15 : Enters Tryz.prog 15 := ⟨_, Tryz.func15, by kernel_rfl, rfl⟩
theorem f15_spec {a0 : (List D_ref16_Entry)} {w2123 : Value} {r : (List D_crosswalk_Entry)} (hr : m15 a0 = some r) : Spec Tryz.prog 15 [w2123] [((Ty.slice ty50).fact a0 [w2123])] (post15 r) := by
 refine spec_start (N := 52) Tryz.func15 (by kernel_rfl) rfl rfl rfl ?_
 intro g hS
 unfold m15 at hr
 refine s_sr ?_
 refine s_as rfl ?_
 refine s_ntsr ?_
 refine s_as rfl ?_
 refine s_nt ?_
 refine at_seq ?_
 refine s_sr ?_
 refine s_as rfl ?_
 refine s_nt ?_
 refine at_rownew none 76 3 ?_
 refine at_rownil ty76 ?_
 refine at_mkpure (q := (([] : (List D_crosswalk_Entry)).length * ty76.bytes ≤ 140737488355328)) (by simp only [List.nil_append, List.cons_append, List.length_cons, List.length_nil, ty76_bytes] <;> omega) ?_
 refine at_int .i64 0 (by simp only [lo, hi]; omega) ?_
 replace hr := obind hr
 obtain ⟨x2129, hl2133, hr⟩ := hr
 refine at_cut (V := Value × Nat × (List Value)) (fun e => (⟨[(3, e.1)], [], [⟨e.1, 76, 3, e.2.1, e.2.2⟩], [(ty76.row x2129 e.2.2), (pureF (x2129.length * ty76.bytes ≤ 140737488355328))]⟩ : St)) ?_ ?_
 ·refine at_block ?_
  refine at_loopW (σ := ((List D_crosswalk_Entry) × Nat)) (V := Value × Nat × (List Value)) (r := x2129) (fun n s => m15_l1 a0 n s.1 s.2) (fun s e => (⟨[(0, w2123), (3, e.1), (4, .int .i64 (s.2 : Int))], [], [⟨e.1, 76, 3, e.2.1, e.2.2⟩], [(ty76.row s.1 e.2.2), (pureF (s.1.length * ty76.bytes ≤ 140737488355328)), ((Ty.int .i64).fact (s.2 : Int) [.int .i64 (s.2 : Int)]), ((Ty.slice ty50).fact a0 [w2123])]⟩ : St)) (fun _ => rfl) _ (([] : (List D_crosswalk_Entry)), 0) ((.slice none 0 0), 0, []) hl2133 ⟨⟨rfl, ⟨rfl, ⟨rfl, trivial⟩⟩⟩, ⟨[], rfl⟩, ⟨[true], rfl⟩, ⟨[2, 1, 0, 3], rfl⟩⟩ ?_
  clear hr hl2133
  intro n s hr e
  obtain ⟨x2124, x2125⟩ := s
  obtain ⟨v2126, n2127, i2128⟩ := e
  change m15_l1 a0 (n + 1) x2124 x2125 = some x2129 at hr
  change At _ _ (⟨[(0, w2123), (3, v2126), (4, .int .i64 (x2125 : Int))], [], [⟨v2126, 76, 3, n2127, i2128⟩], [(ty76.row x2124 i2128), (pureF (x2124.length * ty76.bytes ≤ 140737488355328)), ((Ty.int .i64).fact (x2125 : Int) [.int .i64 (x2125 : Int)]), ((Ty.slice ty50).fact a0 [w2123])]⟩ : St) _
  rw [m15_l1] at hr
  refine at_seq ?_
  refine s_sr ?_
  refine s_mv rfl ?_
  refine s_mv rfl ?_
  refine at_inv 3 rfl (fun i2135 => ?_)
  have l2136 := slice_len i2135
  refine at_lt (lt_flen 3 rfl rfl und22) rfl ?_
  refine at_lt (lt_lss rfl rfl) rfl ?_
  refine s_nt ?_
  by_cases h2137 : x2125 < a0.length
  ·replace hr := ipos h2137 hr
   refine at_true rfl (decide_eq_true (by omega)) ?_
   refine at_skip ?_
   refine at_then ?_
   refine at_seq ?_
   refine at_block ?_
   refine at_seq ?_
   replace hr := obind hr
   obtain ⟨x2138, h2139, hr⟩ := hr
   have := (List.getElem?_eq_some_iff.1 h2139).1
   refine at_elem 3 rfl (nat_at' h2139) (fun p2141 ec pa2142 => ?_)
   refine at_open (A := Value) 0 rfl _ _ (fun F w h => op50 h) ?_
   rintro s2140 rfl
   replace hr := obind hr
   obtain ⟨x2143, h2144, hr⟩ := hr
   have := (List.getElem?_eq_some_iff.1 h2144).1
   refine at_elem 8 rfl (nat_at' h2144) (fun p2146 ec pa2147 => ?_)
   refine at_open (A := Value) 0 rfl _ _ (fun F w h => op50 h) ?_
   rintro s2145 rfl
   refine aa_start 13 (by kernel_rfl) ?_
   refine aa_p 0 rfl (lt_move rfl) ?_
   refine aa_p 1 rfl (lt_move rfl) ?_
   refine aa_p 2 rfl (lt_idx rfl rfl pa2142 und22 ti50) ?_
   refine aa_p 3 rfl (lt_fieldAddr 0 rfl fld50_0 rfl) ?_
   refine aa_l 4 rfl (lt_load_peek 9 rfl ti9 rfl rfl rfl rfl rfl) ?_
   refine aa_p 5 rfl (lt_move rfl) ?_
   refine aa_p 6 rfl (lt_move rfl) ?_
   refine aa_p 7 rfl (lt_idx rfl rfl pa2147 und22 ti50) ?_
   refine aa_p 8 rfl (lt_fieldAddr 1 rfl fld50_1 rfl) ?_
   refine aa_l 9 rfl (lt_load_peek 4 rfl ti9 rfl rfl rfl rfl rfl) ?_
   refine aa_p 10 rfl (lt_build (cs := [str x2138.From, str x2143.To, (.slice none 0 0)]) rfl ti76 pl76 rfl) ?_
   refine aa_one 11 ?_
   refine aa_op rfl rfl ?_
   refine hv_alloc (cs := [str ([] : Str), str ([] : Str), (.slice none 0 0)]) ti76 rfl rfl (fun b2149 => ?_)
   refine aa_all (rs := [12]) (by kernel_rfl) rfl (ts_in 1 0 rfl rfl) (List.forall_mem_singleton.2 ?_)
   refine aa_op rfl rfl ?_
   refine hv_store_box 0 (cs' := [str x2138.From, str x2143.To, (.slice none 0 0)]) rfl rfl ti76 rfl rfl rfl rfl rfl ?_
   refine aa_done (by kernel_rfl) (ts_in 1 0 rfl rfl) ?_
   refine at_then ?_
   refine at_seq ?_
   refine s_sr ?_
   refine s_as rfl ?_
   refine s_nt ?_
   refine at_int .i64 0 (by simp only [lo, hi]; omega) ?_
   refine at_rownew none 82 2 ?_
   refine at_rownil ty82 ?_
   refine at_mkpure (q := (([] : (List D_crosswalk_Pair)).length * ty82.bytes ≤ 140737488355328)) (by simp only [List.nil_append, List.cons_append, List.length_cons, List.length_nil, ty82_bytes] <;> omega) ?_
   replace hr := obind hr
   obtain ⟨x2155, hl2159, hr⟩ := hr
   refine at_cut (V := Value × Nat × (List Value)) (fun e => (⟨[(0, w2123), (3, v2126), (4, .int .i64 (x2125 : Int)), (5, .pointer (some (Addr.add ⟨b2149, 0, none⟩ 0)))], [⟨b2149, [str x2138.From, str x2143.To, e.1], 76⟩], [⟨e.1, 82, 2, e.2.1, e.2.2⟩, ⟨v2126, 76, 3, n2127, i2128⟩], [(ty82.row x2155 e.2.2), (pureF (x2155.length * ty82.bytes ≤ 140737488355328)), ((Ty.slice ty50).fact a0 [w2123]), (ty76.row x2124 i2128), (pureF (x2124.length * ty76.bytes ≤ 140737488355328)), ((Ty.int .i64).fact (x2125 : Int) [.int .i64 (x2125 : Int)]), (Ty.str.fact x2138.From [str x2138.From]), (Ty.str.fact x2143.To [str x2143.To])]⟩ : St)) ?_ ?_
   ·refine at_block ?_
    refine at_loopW (σ := (Nat × (List D_crosswalk_Pair))) (V := Value × Nat × (List Value)) (r := x2155) (fun n s => m15_l2 a0 x2125 n s.1 s.2) (fun s e => (⟨[(0, w2123), (3, v2126), (4, .int .i64 (x2125 : Int)), (5, .pointer (some (Addr.add ⟨b2149, 0, none⟩ 0))), (6, .int .i64 (s.1 : Int))], [⟨b2149, [str x2138.From, str x2143.To, e.1], 76⟩], [⟨e.1, 82, 2, e.2.1, e.2.2⟩, ⟨v2126, 76, 3, n2127, i2128⟩], [((Ty.int .i64).fact (s.1 : Int) [.int .i64 (s.1 : Int)]), (ty82.row s.2 e.2.2), (pureF (s.2.length * ty82.bytes ≤ 140737488355328)), ((Ty.slice ty50).fact a0 [w2123]), (ty76.row x2124 i2128), (pureF (x2124.length * ty76.bytes ≤ 140737488355328)), ((Ty.int .i64).fact (x2125 : Int) [.int .i64 (x2125 : Int)]), (Ty.str.fact x2138.From [str x2138.From]), (Ty.str.fact x2143.To [str x2143.To])]⟩ : St)) (fun _ => rfl) _ (0, ([] : (List D_crosswalk_Pair))) ((.slice none 0 0), 0, []) hl2159 ⟨⟨rfl, ⟨rfl, ⟨rfl, ⟨rfl, ⟨rfl, trivial⟩⟩⟩⟩⟩, ⟨[true], rfl⟩, ⟨[true, true], rfl⟩, ⟨[2, 1, 0, 16, 13, 14, 15, 8, 4], rfl⟩⟩ ?_
    clear hr hl2159
    intro n s hr e
    obtain ⟨x2150, x2151⟩ := s
    obtain ⟨v2152, n2153, i2154⟩ := e
    change m15_l2 a0 x2125 (n + 1) x2150 x2151 = some x2155 at hr
    change At _ _ (⟨[(0, w2123), (3, v2126), (4, .int .i64 (x2125 : Int)), (5, .pointer (some (Addr.add ⟨b2149, 0, none⟩ 0))), (6, .int .i64 (x2150 : Int))], [⟨b2149, [str x2138.From, str x2143.To, v2152], 76⟩], [⟨v2152, 82, 2, n2153, i2154⟩, ⟨v2126, 76, 3, n2127, i2128⟩], [((Ty.int .i64).fact (x2150 : Int) [.int .i64 (x2150 : Int)]), (ty82.row x2151 i2154), (pureF (x2151.length * ty82.bytes ≤ 140737488355328)), ((Ty.slice ty50).fact a0 [w2123]), (ty76.row x2124 i2128), (pureF (x2124.length * ty76.bytes ≤ 140737488355328)), ((Ty.int .i64).fact (x2125 : Int) [.int .i64 (x2125 : Int)]), (Ty.str.fact x2138.From [str x2138.From]), (Ty.str.fact x2143.To [str x2143.To])]⟩ : St) _
    rw [m15_l2] at hr
    refine at_seq ?_
    refine s_sr ?_
    refine s_mv rfl ?_
    refine s_mv rfl ?_
    refine s_mv rfl ?_
    replace hr := obind hr
    obtain ⟨x2161, h2162, hr⟩ := hr
    have := (List.getElem?_eq_some_iff.1 h2162).1
    refine at_elem 3 rfl (nat_at' h2162) (fun p2164 ec pa2165 => ?_)
    refine at_open (A := Value) 0 rfl _ _ (fun F w h => op50 h) ?_
    rintro s2163 rfl
    refine at_lt (lt_idx rfl rfl pa2165 und22 ti50) rfl ?_
    refine at_lt (lt_fieldAddr 2 rfl fld50_2 rfl) rfl ?_
    refine at_lt (lt_load_peek 4 rfl ti48 rfl rfl rfl rfl rfl) rfl ?_
    refine at_inv 2 rfl (fun i2166 => ?_)
    have l2167 := slice_len i2166
    refine at_lt (lt_flen 2 rfl rfl und48) rfl ?_
    refine at_lt (lt_lss rfl rfl) rfl ?_
    refine s_nt ?_
    by_cases h2168 : x2150 < x2161.Codes.length
    ·replace hr := ipos h2168 hr
     refine at_true rfl (decide_eq_true (by omega)) ?_
     refine at_skip ?_
     refine at_then ?_
     refine at_seq ?_
     refine at_block ?_
     replace hr := obind hr
     obtain ⟨x2169, h2170, hr⟩ := hr
     have := (List.getElem?_eq_some_iff.1 h2170).1
     refine at_elem 8 rfl (nat_at' h2170) (fun p2172 ec pa2173 => ?_)
     refine at_open (A := Value) 0 rfl _ _ (fun F w h => op50 h) ?_
     rintro s2171 rfl
     replace hr := obind hr
     obtain ⟨x2174, h2175, hr⟩ := hr
     have := (List.getElem?_eq_some_iff.1 h2175).1
     refine at_elem 2 rfl (nat_at' h2175) (fun p2176 ec pa2177 => ?_)
     refine at_open (A := Unit) 0 rfl _ _ (fun F w h => op83 h) ?_
     rintro _ rfl
     replace hr := imust hr
     obtain ⟨h2179, hr⟩ := hr
     refine aa_start 13 (by kernel_rfl) ?_
     refine aa_p 0 rfl (lt_fieldAddr 2 rfl fld76_2 rfl) ?_
     refine aa_l 1 rfl (lt_load_box 0 rfl ti74 rfl rfl rfl rfl rfl) ?_
     refine aa_p 2 rfl (lt_move rfl) ?_
     refine aa_p 3 rfl (lt_move rfl) ?_
     refine aa_p 4 rfl (lt_idx rfl rfl pa2173 und22 ti50) ?_
     refine aa_p 5 rfl (lt_fieldAddr 2 rfl fld50_2 rfl) ?_
     refine aa_l 6 rfl (lt_load_peek 6 rfl ti48 rfl rfl rfl rfl rfl) ?_
     refine aa_p 7 rfl (lt_move rfl) ?_
     refine aa_p 8 rfl (lt_idx rfl rfl pa2177 und48 ti83) ?_
     refine aa_l 9 rfl (lt_load_peek 1 rfl ti83 rfl rfl rfl rfl rfl) ?_
     refine aa_one 10 ?_
     refine aa_op rfl rfl ?_
     refine hv_bslice (cs := [.int .u8 (x2174.From.toNat : Int), .int .u8 (x2174.To.toNat : Int)]) rfl und74 ti82 rfl rfl rfl rfl rfl (fun s2183 => ?_)
     refine aa_one 11 ?_
     refine at_derive [] (ty82.fact (⟨x2174.From, x2174.To⟩ : D_crosswalk_Pair) [.int .u8 (x2174.From.toNat : Int), .int .u8 (x2174.To.toNat : Int)]) rfl (fun F w h => mk82 (x := (⟨x2174.From, x2174.To⟩ : D_crosswalk_Pair)) h) ?_
     refine at_rown 1 14 rfl rfl rfl (fun hn2185 => ?_)
     refine aa_op rfl rfl ?_
     refine hv_append 1 0 rfl rfl rfl rfl und74 ti82 rfl rfl rfl (by omega) (by omega) rfl (fun s2184 => ?_)
     refine at_rowsnoc 14 0 rfl rfl ?_
     refine aa_pure 12 rfl (by kernel_rfl) rfl rfl (lt_fieldAddr 2 rfl fld76_2 rfl) rfl (ts_in 0 2 rfl rfl) ?_
     refine aa_all (rs := [13]) (by kernel_rfl) rfl (ts_in 0 2 rfl rfl) (List.forall_mem_singleton.2 ?_)
     refine at_rowv 1 rfl (fun ho2186 => ?_)
     replace ho2186 := row_one (by obtain ⟨a, c, h⟩ := ho2186; exact ⟨a, _, c, h⟩)
     refine aa_op rfl rfl ?_
     refine hv_store1 0 (cs' := [str x2138.From, str x2143.To, s2184]) rfl rfl ti74 rfl rfl rfl rfl ho2186 ?_
     refine aa_done (by kernel_rfl) (ts_out rfl) ?_
     refine at_in ?_
     refine s_tr ?_
     refine s_mv rfl ?_
     refine at_lt (lt_add rfl rfl (by simp only [lo, hi]; omega)) rfl ?_
     refine s_as rfl ?_
     refine at_nil ?_
     refine at_int .i64 (x2150 + 1 : Int) (by simp only [lo, hi]; omega) ?_
     refine at_mkpure (q := ((x2151 ++ [(⟨x2174.From, x2174.To⟩ : D_crosswalk_Pair)]).length * ty82.bytes ≤ 140737488355328)) (by simp only [List.length_append, List.length_cons, List.length_nil, ty82_bytes] <;> omega) ?_
     exact at_again (σ := (Nat × (List D_crosswalk_Pair))) (V := Value × Nat × (List Value)) (lp := fun n s => m15_l2 a0 x2125 n s.1 s.2) (S := fun s e => (⟨[(0, w2123), (3, v2126), (4, .int .i64 (x2125 : Int)), (5, .pointer (some (Addr.add ⟨b2149, 0, none⟩ 0))), (6, .int .i64 (s.1 : Int))], [⟨b2149, [str x2138.From, str x2143.To, e.1], 76⟩], [⟨e.1, 82, 2, e.2.1, e.2.2⟩, ⟨v2126, 76, 3, n2127, i2128⟩], [((Ty.int .i64).fact (s.1 : Int) [.int .i64 (s.1 : Int)]), (ty82.row s.2 e.2.2), (pureF (s.2.length * ty82.bytes ≤ 140737488355328)), ((Ty.slice ty50).fact a0 [w2123]), (ty76.row x2124 i2128), (pureF (x2124.length * ty76.bytes ≤ 140737488355328)), ((Ty.int .i64).fact (x2125 : Int) [.int .i64 (x2125 : Int)]), (Ty.str.fact x2138.From [str x2138.From]), (Ty.str.fact x2143.To [str x2143.To])]⟩ : St)) (x2150 + 1, x2151 ++ [(⟨x2174.From, x2174.To⟩ : D_crosswalk_Pair)]) (s2184, n2153 + 1, i2154 ++ [.int .u8 (x2174.From.toNat : Int), .int .u8 (x2174.To.toNat : Int)]) hr ⟨⟨rfl, ⟨rfl, ⟨rfl, ⟨rfl, ⟨rfl, trivial⟩⟩⟩⟩⟩, ⟨[true], rfl⟩, ⟨[false, true, true], rfl⟩, ⟨[1, 2, 0, 19, 20, 21, 22, 23, 24], rfl⟩⟩
    replace hr := ineg h2168 hr
    refine at_false rfl (decide_eq_false (by omega)) ?_
    refine at_exit ?_
    refine at_then_exit ?_
    refine at_then_exit ?_
    refine at_in_exit ?_
    have hq := oinj hr
    clear hr
    subst hq
    exact at_leaf (v2152, n2153, i2154) ⟨⟨rfl, ⟨rfl, ⟨rfl, ⟨rfl, trivial⟩⟩⟩⟩, ⟨[true], rfl⟩, ⟨[true, true], rfl⟩, ⟨[6, 7, 8, 9, 10, 11, 12, 13], rfl⟩⟩
   clear hl2159
   intro e
   obtain ⟨v2156, n2157, i2158⟩ := e
   change At _ _ (⟨[(0, w2123), (3, v2126), (4, .int .i64 (x2125 : Int)), (5, .pointer (some (Addr.add ⟨b2149, 0, none⟩ 0)))], [⟨b2149, [str x2138.From, str x2143.To, v2156], 76⟩], [⟨v2156, 82, 2, n2157, i2158⟩, ⟨v2126, 76, 3, n2127, i2128⟩], [(ty82.row x2155 i2158), (pureF (x2155.length * ty82.bytes ≤ 140737488355328)), ((Ty.slice ty50).fact a0 [w2123]), (ty76.row x2124 i2128), (pureF (x2124.length * ty76.bytes ≤ 140737488355328)), ((Ty.int .i64).fact (x2125 : Int) [.int .i64 (x2125 : Int)]), (Ty.str.fact x2138.From [str x2138.From]), (Ty.str.fact x2143.To [str x2143.To])]⟩ : St) _
   refine s_tr ?_
   refine s_mv rfl ?_
   refine at_lt (lt_load_box 0 rfl ti76 rfl rfl rfl rfl rfl) rfl ?_
   refine at_hv rfl ?_
   refine hv_bslice (cs := [str x2138.From, str x2143.To, v2156]) rfl und34 ti76 rfl rfl rfl rfl rfl (fun s2187 => ?_)
   replace hr := imust hr
   obtain ⟨h2188, hr⟩ := hr
   refine at_pure 1 rfl (fun hb2190 => ?_)
   refine at_release 1 0 rfl rfl rfl hb2190 ?_
   refine at_derive [7, 8, 0] (ty76.fact (⟨x2138.From, x2143.To, x2155⟩ : D_crosswalk_Entry) [str x2138.From, str x2143.To, v2156]) rfl (fun F w h => mk76 (x := (⟨x2138.From, x2143.To, x2155⟩ : D_crosswalk_Entry)) h) ?_
   refine at_rown 1 5 rfl rfl rfl (fun hn2191 => ?_)
   refine at_one 1 rfl (fun ho2192 => ?_)
   refine at_hv rfl ?_
   refine hv_append 1 0 rfl rfl rfl rfl und34 ti76 rfl rfl (allc rfl (allc rfl (allc ho2192 rfl))) (by omega) (by omega) rfl (fun s2189 => ?_)
   refine at_rowsnoc 5 0 rfl rfl ?_
   refine s_as rfl ?_
   refine at_nil ?_
   refine at_in ?_
   refine s_tr ?_
   refine s_mv rfl ?_
   refine at_lt (lt_add rfl rfl (by simp only [lo, hi]; omega)) rfl ?_
   refine s_as rfl ?_
   refine at_nil ?_
   refine at_mkpure (q := ((x2124 ++ [(⟨x2138.From, x2143.To, x2155⟩ : D_crosswalk_Entry)]).length * ty76.bytes ≤ 140737488355328)) (by simp only [List.length_append, List.length_cons, List.length_nil, ty76_bytes] <;> omega) ?_
   refine at_int .i64 (x2125 + 1 : Int) (by simp only [lo, hi]; omega) ?_
   exact at_again (σ := ((List D_crosswalk_Entry) × Nat)) (V := Value × Nat × (List Value)) (lp := fun n s => m15_l1 a0 n s.1 s.2) (S := fun s e => (⟨[(0, w2123), (3, e.1), (4, .int .i64 (s.2 : Int))], [], [⟨e.1, 76, 3, e.2.1, e.2.2⟩], [(ty76.row s.1 e.2.2), (pureF (s.1.length * ty76.bytes ≤ 140737488355328)), ((Ty.int .i64).fact (s.2 : Int) [.int .i64 (s.2 : Int)]), ((Ty.slice ty50).fact a0 [w2123])]⟩ : St)) (x2124 ++ [(⟨x2138.From, x2143.To, x2155⟩ : D_crosswalk_Entry)], x2125 + 1) (s2189, n2127 + 1, i2128 ++ [str x2138.From, str x2143.To, v2156]) hr ⟨⟨rfl, ⟨rfl, ⟨rfl, trivial⟩⟩⟩, ⟨[false], rfl⟩, ⟨[false, true], rfl⟩, ⟨[2, 1, 0, 7], rfl⟩⟩
  replace hr := ineg h2137 hr
  refine at_false rfl (decide_eq_false (by omega)) ?_
  refine at_exit ?_
  refine at_then_exit ?_
  refine at_then_exit ?_
  refine at_in_exit ?_
  have hq := oinj hr
  clear hr
  subst hq
  exact at_leaf (v2126, n2127, i2128) ⟨⟨rfl, trivial⟩, ⟨[], rfl⟩, ⟨[true], rfl⟩, ⟨[0, 1], rfl⟩⟩
 clear hl2133
 intro e
 obtain ⟨v2130, n2131, i2132⟩ := e
 change At _ _ (⟨[(3, v2130)], [], [⟨v2130, 76, 3, n2131, i2132⟩], [(ty76.row x2129 i2132), (pureF (x2129.length * ty76.bytes ≤ 140737488355328))]⟩ : St) _
 refine s_tsr ?_
 refine s_mv rfl ?_
 refine s_as rfl ?_
 refine s_nt ?_
 refine at_ret ?_
 have hq := oinj hr
 clear hr
 subst hq
 refine at_pure 1 rfl (fun hb2193 => ?_)
 refine at_release 0 0 rfl rfl rfl hb2193 ?_
 exact at_return (v2130) [0] hS Tryz.results15 (.cons (.tmp rfl) .nil) rfl rfl ⟨v2130, rfl, rfl⟩
/-! 45 bookplate/crosswalk.Back$1 -/
def m45 (a0 : Str) (c0 : (List D_crosswalk_Entry)) : Option (D_crosswalk_Entry × Str × Bool) :=
  (m46 c0 a0).bind fun x2198 =>
  some ((⟨x2198.1.From, x2198.1.To, x2198.1.Codes⟩ : D_crosswalk_Entry), x2198.1.From, x2198.2)
def post45 (r : (D_crosswalk_Entry × Str × Bool)) (v : Value) (fs : List Fact) : Prop := ∃ s2203 : Value, v = .tuple #[.agg #[str r.1.From, str r.1.To, s2203], str r.2.1, .bool r.2.2] ∧ fs = [(ty76.fact r.1 [str r.1.From, str r.1.To, s2203]), (Ty.str.fact r.2.1 [str r.2.1])]
theorem en45 : Enters Tryz.prog 45 := ⟨_, Tryz.func45, by kernel_rfl, rfl⟩
theorem f45_spec {a0 : Str} {c0 : (List D_crosswalk_Entry)} {b2195 : Nat} {w2196 : Value} {r : (D_crosswalk_Entry × Str × Bool)} (hr : m45 a0 c0 = some r) : Spec Tryz.prog 45 [str a0, .pointer (some (Addr.add ⟨b2195, 0, none⟩ 0))] [(Ty.str.fact a0 [str a0]), (peek ⟨b2195, 0, none⟩ [w2196]), ((Ty.slice ty76).fact c0 [w2196])] (post45 r) := by
 refine spec_start (N := 18) Tryz.func45 (by kernel_rfl) rfl rfl rfl ?_
 intro g hS
 unfold m45 at hr
 refine s_sr ?_
 refine at_hv rfl ?_
 refine hv_alloc (cs := [str ([] : Str), str ([] : Str), (.slice none 0 0)]) ti76 rfl rfl (fun b2197 => ?_)
 refine s_as rfl ?_
 refine s_as rfl ?_
 refine s_ntsr ?_
 refine at_lt (lt_load_peek 1 rfl ti34 rfl rfl rfl rfl rfl) rfl ?_
 refine s_mv rfl ?_
 replace hr := obind hr
 obtain ⟨x2198, h2199, hr⟩ := hr
 refine at_hv rfl ?_
 refine hv_call0 [2, 0] (f46_spec h2199) rfl rfl rfl rfl ?_
 rintro _ _ ⟨s2200, rfl, rfl⟩
 refine at_open (A := Unit) 0 rfl (fun _ => True) (fun _ => [(Ty.str.fact x2198.1.From [str x2198.1.From]), (Ty.str.fact x2198.1.To [str x2198.1.To]), ((Ty.slice ty82).fact x2198.1.Codes [s2200])]) (fun F w h => ⟨(), trivial, ex76 h⟩) (fun _ _ => ?_)
 refine s_mv rfl ?_
 refine at_lt (lt_extract rfl rfl) rfl ?_
 refine at_lt (lt_extract rfl rfl) rfl ?_
 refine at_hv rfl ?_
 refine hv_alloc (cs := [str ([] : Str), str ([] : Str), (.slice none 0 0)]) ti76 rfl rfl (fun b2201 => ?_)
 refine at_one 2 rfl (fun ho2202 => ?_)
 refine at_hv rfl ?_
 refine hv_store_box 0 (cs' := [str x2198.1.From, str x2198.1.To, s2200]) rfl rfl ti76 rfl rfl rfl rfl (allc rfl (allc rfl (allc ho2202 rfl))) ?_
 refine s_as rfl ?_
 refine s_nt ?_
 refine at_seq ?_
 refine aa_start 4 (by kernel_rfl) ?_
 refine aa_l 0 rfl (lt_load_box 0 rfl ti76 rfl rfl rfl rfl rfl) ?_
 refine aa_p 1 rfl (lt_fieldAddr 0 rfl fld76_0 rfl) ?_
 refine aa_p 3 rfl (lt_move rfl) ?_
 refine aa_all (rs := [2, 4]) (by kernel_rfl) rfl (ts_in 0 0 rfl rfl) (List.forall_mem_cons.2 ⟨?_, (List.forall_mem_singleton.2 ?_)⟩)
 ·refine aa_op rfl rfl ?_
  refine hv_lt (lt_load_box 0 rfl ti9 rfl rfl rfl rfl rfl) rfl ?_
  refine aa_one 4 ?_
  refine aa_op rfl rfl ?_
  refine hv_store_box 1 (cs' := [str x2198.1.From, str x2198.1.To, s2200]) rfl rfl ti76 rfl rfl rfl rfl (allc rfl (allc rfl (allc ho2202 rfl))) ?_
  refine aa_all (rs := [5]) (by kernel_rfl) rfl (ts_out rfl) (List.forall_mem_singleton.2 ?_)
  refine aa_op rfl rfl ?_
  refine hv_lt (lt_assign rfl) rfl ?_
  refine aa_all (rs := [6]) (by kernel_rfl) rfl (ts_out rfl) (List.forall_mem_singleton.2 ?_)
  refine aa_op rfl rfl ?_
  refine hv_lt (lt_assign rfl) rfl ?_
  refine aa_done (by kernel_rfl) (ts_out rfl) ?_
  refine at_then ?_
  refine at_ret ?_
  have hq := oinj hr
  clear hr
  subst hq
  refine at_derive [0, 1, 2] (ty76.fact (⟨x2198.1.From, x2198.1.To, x2198.1.Codes⟩ : D_crosswalk_Entry) [str x2198.1.From, str x2198.1.To, s2200]) rfl (fun F w h => mk76 (x := (⟨x2198.1.From, x2198.1.To, x2198.1.Codes⟩ : D_crosswalk_Entry)) h) ?_
  exact at_return (.tuple #[.agg #[str x2198.1.From, str x2198.1.To, s2200], str x2198.1.From, .bool x2198.2]) [0, 1] hS Tryz.results45 (.cons (.cell 1 rfl ti76 rfl rfl rfl rfl) (.cons (.tmp rfl) (.cons (.tmp rfl) .nil))) rfl rfl ⟨s2200, rfl, rfl⟩
 ·refine aa_op rfl rfl ?_
  refine hv_store_box 1 (cs' := [str x2198.1.From, str x2198.1.To, s2200]) rfl rfl ti76 rfl rfl rfl rfl (allc rfl (allc rfl (allc ho2202 rfl))) ?_
  refine aa_all (rs := [2]) (by kernel_rfl) rfl (ts_out rfl) (List.forall_mem_singleton.2 ?_)
  refine aa_op rfl rfl ?_
  refine hv_lt (lt_load_box 0 rfl ti9 rfl rfl rfl rfl rfl) rfl ?_
  refine aa_all (rs := [5]) (by kernel_rfl) rfl (ts_out rfl) (List.forall_mem_singleton.2 ?_)
  refine aa_op rfl rfl ?_
  refine hv_lt (lt_assign rfl) rfl ?_
  refine aa_all (rs := [6]) (by kernel_rfl) rfl (ts_out rfl) (List.forall_mem_singleton.2 ?_)
  refine aa_op rfl rfl ?_
  refine hv_lt (lt_assign rfl) rfl ?_
  refine aa_done (by kernel_rfl) (ts_out rfl) ?_
  refine at_then ?_
  refine at_ret ?_
  have hq := oinj hr
  clear hr
  subst hq
  refine at_derive [0, 1, 2] (ty76.fact (⟨x2198.1.From, x2198.1.To, x2198.1.Codes⟩ : D_crosswalk_Entry) [str x2198.1.From, str x2198.1.To, s2200]) rfl (fun F w h => mk76 (x := (⟨x2198.1.From, x2198.1.To, x2198.1.Codes⟩ : D_crosswalk_Entry)) h) ?_
  exact at_return (.tuple #[.agg #[str x2198.1.From, str x2198.1.To, s2200], str x2198.1.From, .bool x2198.2]) [0, 1] hS Tryz.results45 (.cons (.cell 1 rfl ti76 rfl rfl rfl rfl) (.cons (.tmp rfl) (.cons (.tmp rfl) .nil))) rfl rfl ⟨s2200, rfl, rfl⟩
/-! 16 bookplate/crosswalk.Back -/
def m16 (a0 : (List D_crosswalk_Entry)) (a1 : D_api_Record) : Option (D_api_Record × Int) :=
  (m41 a0 (⟨a1.ID, a1.Fields⟩ : D_api_Record) (fun y0 => m45 y0 a0) m47).bind fun x2211 =>
  some ((⟨x2211.1.ID, x2211.1.Fields⟩ : D_api_Record), x2211.2)
def post16 (r : (D_api_Record × Int)) (v : Value) (fs : List Fact) : Prop := ∃ s2218 : Value, v = .tuple #[.agg #[.int .i64 r.1.ID, s2218], .int .i64 r.2] ∧ fs = [(ty25.fact r.1 [.int .i64 r.1.ID, s2218]), ((Ty.int .i64).fact r.2 [.int .i64 r.2])]
theorem en16 : Enters Tryz.prog 16 := ⟨_, Tryz.func16, by kernel_rfl, rfl⟩
theorem f16_spec {a0 : (List D_crosswalk_Entry)} {a1 : D_api_Record} {w2204 : Value} {s2205 : Value} {r : (D_api_Record × Int)} (hr : m16 a0 a1 = some r) : Spec Tryz.prog 16 [w2204, .agg #[.int .i64 a1.ID, s2205]] [((Ty.slice ty76).fact a0 [w2204]), (ty25.fact a1 [.int .i64 a1.ID, s2205]), (utf8F 1 2)] (post16 r) := by
 refine spec_start (N := 12) Tryz.func16 (by kernel_rfl) rfl rfl rfl ?_
 intro g hS
 unfold m16 at hr
 refine at_open (A := Unit) 1 rfl (fun _ => True) (fun _ => [((Ty.int .i64).fact a1.ID [.int .i64 a1.ID]), ((Ty.slice ty69).fact a1.Fields [s2205])]) (fun F w h => ⟨(), trivial, ex25 h⟩) (fun _ _ => ?_)
 refine at_inv 0 rfl (fun l2206 => ?_)
 replace l2206 : (-9223372036854775808) ≤ a1.ID ∧ a1.ID ≤ 9223372036854775807 := l2206
 refine s_sr ?_
 refine at_one 2 rfl (fun ho2208 => ?_)
 refine at_hv rfl ?_
 refine hv_box (cs := [w2204]) rfl (cells_one ho2208) rfl (fun b2207 => ?_)
 refine at_hv rfl ?_
 refine hv_box (cs := [.int .i64 a1.ID, s2205]) rfl rfl rfl (fun b2209 => ?_)
 refine at_hv rfl ?_
 refine hv_alloc (cs := [.int .i64 0, (.slice none 0 0)]) ti25 rfl rfl (fun b2210 => ?_)
 refine s_as rfl ?_
 refine s_ntsr ?_
 refine at_lt (lt_load_box 2 rfl ti34 rfl rfl rfl rfl rfl) rfl ?_
 refine at_lt (lt_load_box 1 rfl ti25 rfl rfl rfl rfl rfl) rfl ?_
 refine at_lt (lt_makeFunc rfl) rfl ?_
 replace hr := obind hr
 obtain ⟨x2211, h2212, hr⟩ := hr
 refine at_freeze 2 rfl ?_
 refine at_fn 45 [.pointer (some (Addr.add ⟨b2207, 0, none⟩ 0))] [0, 3] (sp79 (fun y0 => m45 y0 a0)) en45 rfl (by rintro _ _ _ ⟨a0, r, h, rfl, rfl, rfl⟩; exact f45_spec h) ?_
 refine at_fn 47 [] [] (sp80 m47) en47 rfl (by rintro _ _ _ ⟨a0, a1, r, s2214, h, rfl, rfl, rfl⟩; exact f47_spec h) ?_
 refine at_derive [3, 4] (ty25.fact (⟨a1.ID, a1.Fields⟩ : D_api_Record) [.int .i64 a1.ID, s2205]) rfl (fun F w h => mk25 (x := (⟨a1.ID, a1.Fields⟩ : D_api_Record)) h) ?_
 refine at_hv rfl ?_
 refine hv_call0 [6, 0, 2, 1, 8] (f41_spec h2212) rfl rfl rfl rfl ?_
 rintro _ _ ⟨s2213, rfl, rfl⟩
 refine at_open (A := Unit) 0 rfl (fun _ => True) (fun _ => [((Ty.int .i64).fact x2211.1.ID [.int .i64 x2211.1.ID]), ((Ty.slice ty69).fact x2211.1.Fields [s2213])]) (fun F w h => ⟨(), trivial, ex25 h⟩) (fun _ _ => ?_)
 refine at_inv 0 rfl (fun l2215 => ?_)
 replace l2215 : (-9223372036854775808) ≤ x2211.1.ID ∧ x2211.1.ID ≤ 9223372036854775807 := l2215
 refine at_inv 3 rfl (fun l2216 => ?_)
 replace l2216 : (-9223372036854775808) ≤ x2211.2 ∧ x2211.2 ≤ 9223372036854775807 := l2216
 refine at_lt (lt_extract rfl rfl) rfl ?_
 refine at_lt (lt_extract rfl rfl) rfl ?_
 refine at_one 1 rfl (fun ho2217 => ?_)
 refine at_hv rfl ?_
 refine hv_store_box 0 (cs' := [.int .i64 x2211.1.ID, s2213]) rfl rfl ti25 rfl rfl rfl rfl (allc rfl (allc ho2217 rfl)) ?_
 refine s_as rfl ?_
 refine s_nt ?_
 refine at_ret ?_
 have hq := oinj hr
 clear hr
 subst hq
 refine at_derive [0, 1] (ty25.fact (⟨x2211.1.ID, x2211.1.Fields⟩ : D_api_Record) [.int .i64 x2211.1.ID, s2213]) rfl (fun F w h => mk25 (x := (⟨x2211.1.ID, x2211.1.Fields⟩ : D_api_Record)) h) ?_
 exact at_return (.tuple #[.agg #[.int .i64 x2211.1.ID, s2213], .int .i64 x2211.2]) [0, 4] hS Tryz.results16 (.cons (.cell 0 rfl ti25 rfl rfl rfl rfl) (.cons (.tmp rfl) .nil)) rfl rfl ⟨s2213, rfl, rfl⟩
/-! 3 bookplate/bookplatelaw16.CrosswalkBack -/
def m3 (a0 : (List D_ref16_Entry)) (a1 : D_api_Record) : Option Bool :=
  (m10).bind fun x2223 =>
  if x2223 = true then
   (m11 a0).bind fun x2226 =>
   if x2226 = true then
    (m12 (⟨a1.ID, a1.Fields⟩ : D_api_Record) 12).bind fun x2229 =>
    if x2229 = true then
     (m13 a0 (⟨a1.ID, a1.Fields⟩ : D_api_Record)).bind fun x2232 =>
     if x2232 = true then
      Option.bind (α := (Int × D_api_Record)) (
       (m15 a0).bind fun x2251 =>
       (m14 x2251 (⟨a1.ID, a1.Fields⟩ : D_api_Record)).bind fun x2254 =>
       some (x2254.2, (⟨x2254.1.ID, x2254.1.Fields⟩ : D_api_Record))
      ) fun (x2245, x2246) =>
      Option.bind (α := (Int × D_api_Record)) (
       (m15 a0).bind fun x2290 =>
       (m16 x2290 (⟨x2246.ID, x2246.Fields⟩ : D_api_Record)).bind fun x2293 =>
       some (x2293.2, (⟨x2293.1.ID, x2293.1.Fields⟩ : D_api_Record))
      ) fun (x2284, x2285) =>
      if x2245 = 0 then
       if x2246.Fields.length = a1.Fields.length then
        (m15 a0).bind fun x2319 =>
        (m17 x2319).bind fun x2322 =>
        if x2322 = true then
         if x2284 = 0 then
          (m18 (⟨x2285.ID, x2285.Fields⟩ : D_api_Record) (⟨a1.ID, a1.Fields⟩ : D_api_Record)).bind fun x2326 =>
          some x2326
         else
          some false
        else
         some true
       else
        some false
      else
       some false
     else
      some true
    else
     some true
   else
    some true
  else
   some false
def post3 (r : Bool) (v : Value) (fs : List Fact) : Prop := v = .bool r ∧ fs = []
theorem en3 : Enters Tryz.prog 3 := ⟨_, Tryz.func3, by kernel_rfl, rfl⟩
theorem f3_spec {a0 : (List D_ref16_Entry)} {a1 : D_api_Record} {w2219 : Value} {s2220 : Value} {r : Bool} (hr : m3 a0 a1 = some r) : Spec Tryz.prog 3 [w2219, .agg #[.int .i64 a1.ID, s2220]] [((Ty.slice ty50).fact a0 [w2219]), (ty25.fact a1 [.int .i64 a1.ID, s2220]), (utf8F 1 2)] (post3 r) := by
 refine spec_start (N := 65) Tryz.func3 (by kernel_rfl) rfl rfl rfl ?_
 intro g hS
 unfold m3 at hr
 refine at_open (A := Unit) 1 rfl (fun _ => True) (fun _ => [((Ty.int .i64).fact a1.ID [.int .i64 a1.ID]), ((Ty.slice ty69).fact a1.Fields [s2220])]) (fun F w h => ⟨(), trivial, ex25 h⟩) (fun _ _ => ?_)
 refine at_inv 0 rfl (fun l2221 => ?_)
 replace l2221 : (-9223372036854775808) ≤ a1.ID ∧ a1.ID ≤ 9223372036854775807 := l2221
 refine s_sr ?_
 refine at_hv rfl ?_
 refine hv_box (cs := [.int .i64 a1.ID, s2220]) rfl rfl rfl (fun b2222 => ?_)
 refine s_as rfl ?_
 refine s_nt ?_
 refine at_seq ?_
 refine s_sr ?_
 replace hr := obind hr
 obtain ⟨x2223, h2224, hr⟩ := hr
 refine at_hv rfl ?_
 refine hv_call0 [4] (f10_spec h2224) rfl rfl rfl rfl ?_
 rintro _ _ ⟨rfl, rfl⟩
 refine at_lt (lt_not rfl) rfl ?_
 refine s_nt ?_
 by_cases h2225 : x2223 = true
 ·replace hr := ipos h2225 hr
  refine at_false rfl (nt h2225) ?_
  refine at_skip ?_
  refine at_then ?_
  refine at_seq ?_
  refine s_sr ?_
  refine s_mv rfl ?_
  replace hr := obind hr
  obtain ⟨x2226, h2227, hr⟩ := hr
  refine at_hv rfl ?_
  refine hv_call0 [2] (f11_spec h2227) rfl rfl rfl rfl ?_
  rintro _ _ ⟨rfl, rfl⟩
  refine at_lt (lt_not rfl) rfl ?_
  refine s_mv rfl ?_
  by_cases h2228 : x2226 = true
  ·replace hr := ipos h2228 hr
   refine at_on rfl rfl (nt h2228) ?_
   refine at_lt (lt_load_box 0 rfl ti25 rfl rfl rfl rfl rfl) rfl ?_
   replace hr := obind hr
   obtain ⟨x2229, h2230, hr⟩ := hr
   refine at_derive [0, 1] (ty25.fact (⟨a1.ID, a1.Fields⟩ : D_api_Record) [.int .i64 a1.ID, s2220]) rfl (fun F w h => mk25 (x := (⟨a1.ID, a1.Fields⟩ : D_api_Record)) h) ?_
   refine at_int .i64 12 (by simp only [lo, hi]; omega) ?_
   refine at_on rfl rfl (nt h2228) ?_
   refine at_hv rfl ?_
   refine hv_call0 [1, 0] (f12_spec h2230) rfl rfl rfl rfl ?_
   rintro _ _ ⟨rfl, rfl⟩
   refine at_on rfl rfl (nt h2228) ?_
   refine at_lt (lt_not rfl) rfl ?_
   refine at_lt (lt_pick false rfl (nt h2228) rfl) rfl ?_
   refine s_mv rfl ?_
   by_cases h2231 : x2229 = true
   ·replace hr := ipos h2231 hr
    refine at_on rfl rfl (nt h2231) ?_
    refine s_mv rfl ?_
    refine at_on rfl rfl (nt h2231) ?_
    refine at_lt (lt_load_box 0 rfl ti25 rfl rfl rfl rfl rfl) rfl ?_
    replace hr := obind hr
    obtain ⟨x2232, h2233, hr⟩ := hr
    refine at_on rfl rfl (nt h2231) ?_
    refine at_hv rfl ?_
    refine hv_call0 [4, 1] (f13_spec h2233) rfl rfl rfl rfl ?_
    rintro _ _ ⟨rfl, rfl⟩
    refine at_on rfl rfl (nt h2231) ?_
    refine at_lt (lt_not rfl) rfl ?_
    refine at_lt (lt_pick false rfl (nt h2231) rfl) rfl ?_
    refine s_nt ?_
    by_cases h2234 : x2232 = true
    ·replace hr := ipos h2234 hr
     refine at_false rfl (nt h2234) ?_
     refine at_skip ?_
     refine at_then ?_
     refine at_seq ?_
     replace hr := obind hr
     obtain ⟨r2249, hc2250, hr⟩ := hr
     refine at_cut (V := Value × Nat) (fun e => (⟨[(0, w2219), (3, .pointer (some (Addr.add ⟨b2222, 0, none⟩ 0))), (5, .pointer (some (Addr.add ⟨e.2, 0, none⟩ 0))), (6, .int .i64 r2249.1)], [⟨e.2, [.int .i64 r2249.2.ID, e.1], 25⟩, ⟨b2222, [.int .i64 a1.ID, s2220], 25⟩], [], [((Ty.int .i64).fact r2249.1 [.int .i64 r2249.1]), ((Ty.int .i64).fact r2249.2.ID [.int .i64 r2249.2.ID]), ((Ty.slice ty69).fact r2249.2.Fields [e.1]), ((Ty.slice ty50).fact a0 [w2219]), ((Ty.int .i64).fact a1.ID [.int .i64 a1.ID]), ((Ty.slice ty69).fact a1.Fields [s2220]), (utf8F 1 2)]⟩ : St)) ?_ ?_
     ·clear hr
      have hr := hc2250
      clear hc2250
      replace hr := obind hr
      obtain ⟨x2251, h2252, hr⟩ := hr
      replace hr := obind hr
      obtain ⟨x2254, h2255, hr⟩ := hr
      refine aa_start 10 (by kernel_rfl) ?_
      refine aa_p 0 rfl (lt_move rfl) ?_
      refine aa_l 2 rfl (lt_load_box 0 rfl ti25 rfl rfl rfl rfl rfl) ?_
      refine aa_all (rs := [1, 7]) (by kernel_rfl) rfl (ts_in 0 0 rfl rfl) (List.forall_mem_cons.2 ⟨?_, (List.forall_mem_singleton.2 ?_)⟩)
      ·refine aa_op rfl rfl ?_
       refine hv_call0 [4] (f15_spec h2252) rfl rfl rfl rfl ?_
       rintro s2253 _ ⟨_, rfl, rfl⟩
       refine aa_all (rs := [3, 7]) (by kernel_rfl) rfl (ts_in 0 1 rfl rfl) (List.forall_mem_cons.2 ⟨?_, (List.forall_mem_singleton.2 ?_)⟩)
       ·refine aa_op rfl rfl ?_
        refine hv_call0 [0, 2, 7] (f14_spec h2255) rfl rfl rfl rfl ?_
        rintro _ _ ⟨s2256, rfl, rfl⟩
        refine at_open (A := Unit) 0 rfl (fun _ => True) (fun _ => [((Ty.int .i64).fact x2254.1.ID [.int .i64 x2254.1.ID]), ((Ty.slice ty69).fact x2254.1.Fields [s2256])]) (fun F w h => ⟨(), trivial, ex25 h⟩) (fun _ _ => ?_)
        refine at_inv 0 rfl (fun l2261 => ?_)
        replace l2261 : (-9223372036854775808) ≤ x2254.1.ID ∧ x2254.1.ID ≤ 9223372036854775807 := l2261
        refine at_inv 3 rfl (fun l2262 => ?_)
        replace l2262 : (-9223372036854775808) ≤ x2254.2 ∧ x2254.2 ≤ 9223372036854775807 := l2262
        refine aa_pure 4 rfl (by kernel_rfl) rfl rfl (lt_move rfl) rfl (ts_in 0 5 rfl rfl) ?_
        refine aa_pure 5 rfl (by kernel_rfl) rfl rfl (lt_extract rfl rfl) rfl (ts_in 0 5 rfl rfl) ?_
        refine aa_pure 6 rfl (by kernel_rfl) rfl rfl (lt_extract rfl rfl) rfl (ts_in 0 5 rfl rfl) ?_
        refine aa_all (rs := [7]) (by kernel_rfl) rfl (ts_in 0 5 rfl rfl) (List.forall_mem_singleton.2 ?_)
        refine aa_op rfl rfl ?_
        refine hv_alloc (cs := [.int .i64 0, (.slice none 0 0)]) ti25 rfl rfl (fun b2263 => ?_)
        refine aa_all (rs := [8]) (by kernel_rfl) rfl (ts_in 1 5 rfl rfl) (List.forall_mem_singleton.2 ?_)
        refine at_one 1 rfl (fun ho2264 => ?_)
        refine aa_op rfl rfl ?_
        refine hv_store_box 0 (cs' := [.int .i64 x2254.1.ID, s2256]) rfl rfl ti25 rfl rfl rfl rfl (allc rfl (allc ho2264 rfl)) ?_
        refine aa_pure 9 rfl (by kernel_rfl) rfl rfl (lt_assign rfl) rfl (ts_in 1 5 rfl rfl) ?_
        refine aa_done (by kernel_rfl) (ts_in 1 5 rfl rfl) ?_
        have hq := oinj hr
        clear hr
        subst hq
        exact at_leaf (s2256, b2263) ⟨⟨rfl, ⟨rfl, ⟨rfl, ⟨rfl, trivial⟩⟩⟩⟩, ⟨[true, true], rfl⟩, ⟨[], rfl⟩, ⟨[3, 0, 1, 9, 7, 8, 11], rfl⟩⟩
       ·refine aa_op rfl rfl ?_
        refine hv_alloc (cs := [.int .i64 0, (.slice none 0 0)]) ti25 rfl rfl (fun b2265 => ?_)
        refine aa_all (rs := [3]) (by kernel_rfl) rfl (ts_in 1 1 rfl rfl) (List.forall_mem_singleton.2 ?_)
        refine aa_op rfl rfl ?_
        refine hv_call0 [0, 2, 7] (f14_spec h2255) rfl rfl rfl rfl ?_
        rintro _ _ ⟨s2256, rfl, rfl⟩
        refine at_open (A := Unit) 0 rfl (fun _ => True) (fun _ => [((Ty.int .i64).fact x2254.1.ID [.int .i64 x2254.1.ID]), ((Ty.slice ty69).fact x2254.1.Fields [s2256])]) (fun F w h => ⟨(), trivial, ex25 h⟩) (fun _ _ => ?_)
        refine at_inv 0 rfl (fun l2266 => ?_)
        replace l2266 : (-9223372036854775808) ≤ x2254.1.ID ∧ x2254.1.ID ≤ 9223372036854775807 := l2266
        refine at_inv 3 rfl (fun l2267 => ?_)
        replace l2267 : (-9223372036854775808) ≤ x2254.2 ∧ x2254.2 ≤ 9223372036854775807 := l2267
        refine aa_pure 4 rfl (by kernel_rfl) rfl rfl (lt_move rfl) rfl (ts_in 1 5 rfl rfl) ?_
        refine aa_pure 5 rfl (by kernel_rfl) rfl rfl (lt_extract rfl rfl) rfl (ts_in 1 5 rfl rfl) ?_
        refine aa_pure 6 rfl (by kernel_rfl) rfl rfl (lt_extract rfl rfl) rfl (ts_in 1 5 rfl rfl) ?_
        refine aa_all (rs := [8]) (by kernel_rfl) rfl (ts_in 1 5 rfl rfl) (List.forall_mem_singleton.2 ?_)
        refine at_one 1 rfl (fun ho2268 => ?_)
        refine aa_op rfl rfl ?_
        refine hv_store_box 0 (cs' := [.int .i64 x2254.1.ID, s2256]) rfl rfl ti25 rfl rfl rfl rfl (allc rfl (allc ho2268 rfl)) ?_
        refine aa_pure 9 rfl (by kernel_rfl) rfl rfl (lt_assign rfl) rfl (ts_in 1 5 rfl rfl) ?_
        refine aa_done (by kernel_rfl) (ts_in 1 5 rfl rfl) ?_
        have hq := oinj hr
        clear hr
        subst hq
        exact at_leaf (s2256, b2265) ⟨⟨rfl, ⟨rfl, ⟨rfl, ⟨rfl, trivial⟩⟩⟩⟩, ⟨[true, true], rfl⟩, ⟨[], rfl⟩, ⟨[3, 0, 1, 9, 7, 8, 11], rfl⟩⟩
      ·refine aa_op rfl rfl ?_
       refine hv_alloc (cs := [.int .i64 0, (.slice none 0 0)]) ti25 rfl rfl (fun b2269 => ?_)
       refine aa_all (rs := [1]) (by kernel_rfl) rfl (ts_in 1 0 rfl rfl) (List.forall_mem_singleton.2 ?_)
       refine aa_op rfl rfl ?_
       refine hv_call0 [4] (f15_spec h2252) rfl rfl rfl rfl ?_
       rintro s2253 _ ⟨_, rfl, rfl⟩
       refine aa_all (rs := [3]) (by kernel_rfl) rfl (ts_in 1 1 rfl rfl) (List.forall_mem_singleton.2 ?_)
       refine aa_op rfl rfl ?_
       refine hv_call0 [0, 2, 7] (f14_spec h2255) rfl rfl rfl rfl ?_
       rintro _ _ ⟨s2256, rfl, rfl⟩
       refine at_open (A := Unit) 0 rfl (fun _ => True) (fun _ => [((Ty.int .i64).fact x2254.1.ID [.int .i64 x2254.1.ID]), ((Ty.slice ty69).fact x2254.1.Fields [s2256])]) (fun F w h => ⟨(), trivial, ex25 h⟩) (fun _ _ => ?_)
       refine at_inv 0 rfl (fun l2270 => ?_)
       replace l2270 : (-9223372036854775808) ≤ x2254.1.ID ∧ x2254.1.ID ≤ 9223372036854775807 := l2270
       refine at_inv 3 rfl (fun l2271 => ?_)
       replace l2271 : (-9223372036854775808) ≤ x2254.2 ∧ x2254.2 ≤ 9223372036854775807 := l2271
       refine aa_pure 4 rfl (by kernel_rfl) rfl rfl (lt_move rfl) rfl (ts_in 1 5 rfl rfl) ?_
       refine aa_pure 5 rfl (by kernel_rfl) rfl rfl (lt_extract rfl rfl) rfl (ts_in 1 5 rfl rfl) ?_
       refine aa_pure 6 rfl (by kernel_rfl) rfl rfl (lt_extract rfl rfl) rfl (ts_in 1 5 rfl rfl) ?_
       refine aa_all (rs := [8]) (by kernel_rfl) rfl (ts_in 1 5 rfl rfl) (List.forall_mem_singleton.2 ?_)
       refine at_one 1 rfl (fun ho2272 => ?_)
       refine aa_op rfl rfl ?_
       refine hv_store_box 0 (cs' := [.int .i64 x2254.1.ID, s2256]) rfl rfl ti25 rfl rfl rfl rfl (allc rfl (allc ho2272 rfl)) ?_
       refine aa_pure 9 rfl (by kernel_rfl) rfl rfl (lt_assign rfl) rfl (ts_in 1 5 rfl rfl) ?_
       refine aa_done (by kernel_rfl) (ts_in 1 5 rfl rfl) ?_
       have hq := oinj hr
       clear hr
       subst hq
       exact at_leaf (s2256, b2269) ⟨⟨rfl, ⟨rfl, ⟨rfl, ⟨rfl, trivial⟩⟩⟩⟩, ⟨[true, true], rfl⟩, ⟨[], rfl⟩, ⟨[3, 0, 1, 9, 7, 8, 11], rfl⟩⟩
     clear hc2250
     obtain ⟨x2245, x2246⟩ := r2249
     intro e
     obtain ⟨v2247, n2248⟩ := e
     change At _ _ (⟨[(0, w2219), (3, .pointer (some (Addr.add ⟨b2222, 0, none⟩ 0))), (5, .pointer (some (Addr.add ⟨n2248, 0, none⟩ 0))), (6, .int .i64 x2245)], [⟨n2248, [.int .i64 x2246.ID, v2247], 25⟩, ⟨b2222, [.int .i64 a1.ID, s2220], 25⟩], [], [((Ty.int .i64).fact x2245 [.int .i64 x2245]), ((Ty.int .i64).fact x2246.ID [.int .i64 x2246.ID]), ((Ty.slice ty69).fact x2246.Fields [v2247]), ((Ty.slice ty50).fact a0 [w2219]), ((Ty.int .i64).fact a1.ID [.int .i64 a1.ID]), ((Ty.slice ty69).fact a1.Fields [s2220]), (utf8F 1 2)]⟩ : St) _
     refine at_inv 0 rfl (fun l2273 => ?_)
     replace l2273 : (-9223372036854775808) ≤ x2245 ∧ x2245 ≤ 9223372036854775807 := l2273
     refine at_then ?_
     refine at_seq ?_
     replace hr := obind hr
     obtain ⟨r2288, hc2289, hr⟩ := hr
     refine at_cut (V := Value × Nat) (fun e => (⟨[(0, w2219), (3, .pointer (some (Addr.add ⟨b2222, 0, none⟩ 0))), (5, .pointer (some (Addr.add ⟨n2248, 0, none⟩ 0))), (6, .int .i64 x2245), (7, .pointer (some (Addr.add ⟨e.2, 0, none⟩ 0))), (8, .int .i64 r2288.1)], [⟨e.2, [.int .i64 r2288.2.ID, e.1], 25⟩, ⟨n2248, [.int .i64 x2246.ID, v2247], 25⟩, ⟨b2222, [.int .i64 a1.ID, s2220], 25⟩], [], [((Ty.int .i64).fact r2288.1 [.int .i64 r2288.1]), ((Ty.int .i64).fact r2288.2.ID [.int .i64 r2288.2.ID]), ((Ty.slice ty69).fact r2288.2.Fields [e.1]), ((Ty.slice ty50).fact a0 [w2219]), ((Ty.int .i64).fact x2245 [.int .i64 x2245]), ((Ty.int .i64).fact x2246.ID [.int .i64 x2246.ID]), ((Ty.slice ty69).fact x2246.Fields [v2247]), ((Ty.int .i64).fact a1.ID [.int .i64 a1.ID]), ((Ty.slice ty69).fact a1.Fields [s2220]), (utf8F 1 2)]⟩ : St)) ?_ ?_
     ·clear hr
      have hr := hc2289
      clear hc2289
      replace hr := obind hr
      obtain ⟨x2290, h2291, hr⟩ := hr
      replace hr := obind hr
      obtain ⟨x2293, h2294, hr⟩ := hr
      refine aa_start 10 (by kernel_rfl) ?_
      refine aa_p 0 rfl (lt_move rfl) ?_
      refine aa_l 2 rfl (lt_load_box 0 rfl ti25 rfl rfl rfl rfl rfl) ?_
      refine aa_all (rs := [1, 7]) (by kernel_rfl) rfl (ts_in 0 0 rfl rfl) (List.forall_mem_cons.2 ⟨?_, (List.forall_mem_singleton.2 ?_)⟩)
      ·refine aa_op rfl rfl ?_
       refine hv_call0 [3] (f15_spec h2291) rfl rfl rfl rfl ?_
       rintro s2292 _ ⟨_, rfl, rfl⟩
       refine aa_all (rs := [3, 7]) (by kernel_rfl) rfl (ts_in 0 1 rfl rfl) (List.forall_mem_cons.2 ⟨?_, (List.forall_mem_singleton.2 ?_)⟩)
       ·refine at_derive [2, 3] (ty25.fact (⟨x2246.ID, x2246.Fields⟩ : D_api_Record) [.int .i64 x2246.ID, v2247]) rfl (fun F w h => mk25 (x := (⟨x2246.ID, x2246.Fields⟩ : D_api_Record)) h) ?_
        refine aa_op rfl rfl ?_
        refine hv_call0 [1, 0, 8] (f16_spec h2294) rfl rfl rfl rfl ?_
        rintro _ _ ⟨s2295, rfl, rfl⟩
        refine at_open (A := Unit) 0 rfl (fun _ => True) (fun _ => [((Ty.int .i64).fact x2293.1.ID [.int .i64 x2293.1.ID]), ((Ty.slice ty69).fact x2293.1.Fields [s2295])]) (fun F w h => ⟨(), trivial, ex25 h⟩) (fun _ _ => ?_)
        refine at_inv 0 rfl (fun l2300 => ?_)
        replace l2300 : (-9223372036854775808) ≤ x2293.1.ID ∧ x2293.1.ID ≤ 9223372036854775807 := l2300
        refine at_inv 3 rfl (fun l2301 => ?_)
        replace l2301 : (-9223372036854775808) ≤ x2293.2 ∧ x2293.2 ≤ 9223372036854775807 := l2301
        refine aa_pure 4 rfl (by kernel_rfl) rfl rfl (lt_move rfl) rfl (ts_in 0 6 rfl rfl) ?_
        refine aa_pure 5 rfl (by kernel_rfl) rfl rfl (lt_extract rfl rfl) rfl (ts_in 0 6 rfl rfl) ?_
        refine aa_pure 6 rfl (by kernel_rfl) rfl rfl (lt_extract rfl rfl) rfl (ts_in 0 6 rfl rfl) ?_
        refine aa_all (rs := [7]) (by kernel_rfl) rfl (ts_in 0 6 rfl rfl) (List.forall_mem_singleton.2 ?_)
        refine aa_op rfl rfl ?_
        refine hv_alloc (cs := [.int .i64 0, (.slice none 0 0)]) ti25 rfl rfl (fun b2302 => ?_)
        refine aa_all (rs := [8]) (by kernel_rfl) rfl (ts_in 1 6 rfl rfl) (List.forall_mem_singleton.2 ?_)
        refine at_one 1 rfl (fun ho2303 => ?_)
        refine aa_op rfl rfl ?_
        refine hv_store_box 0 (cs' := [.int .i64 x2293.1.ID, s2295]) rfl rfl ti25 rfl rfl rfl rfl (allc rfl (allc ho2303 rfl)) ?_
        refine aa_pure 9 rfl (by kernel_rfl) rfl rfl (lt_assign rfl) rfl (ts_in 1 6 rfl rfl) ?_
        refine aa_done (by kernel_rfl) (ts_in 1 6 rfl rfl) ?_
        have hq := oinj hr
        clear hr
        subst hq
        exact at_leaf (s2295, b2302) ⟨⟨rfl, ⟨rfl, ⟨rfl, ⟨rfl, ⟨rfl, ⟨rfl, trivial⟩⟩⟩⟩⟩⟩, ⟨[true, true, true], rfl⟩, ⟨[], rfl⟩, ⟨[3, 0, 1, 9, 6, 7, 8, 10, 11, 12], rfl⟩⟩
       ·refine aa_op rfl rfl ?_
        refine hv_alloc (cs := [.int .i64 0, (.slice none 0 0)]) ti25 rfl rfl (fun b2304 => ?_)
        refine aa_all (rs := [3]) (by kernel_rfl) rfl (ts_in 1 1 rfl rfl) (List.forall_mem_singleton.2 ?_)
        refine at_derive [2, 3] (ty25.fact (⟨x2246.ID, x2246.Fields⟩ : D_api_Record) [.int .i64 x2246.ID, v2247]) rfl (fun F w h => mk25 (x := (⟨x2246.ID, x2246.Fields⟩ : D_api_Record)) h) ?_
        refine aa_op rfl rfl ?_
        refine hv_call0 [1, 0, 8] (f16_spec h2294) rfl rfl rfl rfl ?_
        rintro _ _ ⟨s2295, rfl, rfl⟩
        refine at_open (A := Unit) 0 rfl (fun _ => True) (fun _ => [((Ty.int .i64).fact x2293.1.ID [.int .i64 x2293.1.ID]), ((Ty.slice ty69).fact x2293.1.Fields [s2295])]) (fun F w h => ⟨(), trivial, ex25 h⟩) (fun _ _ => ?_)
        refine at_inv 0 rfl (fun l2305 => ?_)
        replace l2305 : (-9223372036854775808) ≤ x2293.1.ID ∧ x2293.1.ID ≤ 9223372036854775807 := l2305
        refine at_inv 3 rfl (fun l2306 => ?_)
        replace l2306 : (-9223372036854775808) ≤ x2293.2 ∧ x2293.2 ≤ 9223372036854775807 := l2306
        refine aa_pure 4 rfl (by kernel_rfl) rfl rfl (lt_move rfl) rfl (ts_in 1 6 rfl rfl) ?_
        refine aa_pure 5 rfl (by kernel_rfl) rfl rfl (lt_extract rfl rfl) rfl (ts_in 1 6 rfl rfl) ?_
        refine aa_pure 6 rfl (by kernel_rfl) rfl rfl (lt_extract rfl rfl) rfl (ts_in 1 6 rfl rfl) ?_
        refine aa_all (rs := [8]) (by kernel_rfl) rfl (ts_in 1 6 rfl rfl) (List.forall_mem_singleton.2 ?_)
        refine at_one 1 rfl (fun ho2307 => ?_)
        refine aa_op rfl rfl ?_
        refine hv_store_box 0 (cs' := [.int .i64 x2293.1.ID, s2295]) rfl rfl ti25 rfl rfl rfl rfl (allc rfl (allc ho2307 rfl)) ?_
        refine aa_pure 9 rfl (by kernel_rfl) rfl rfl (lt_assign rfl) rfl (ts_in 1 6 rfl rfl) ?_
        refine aa_done (by kernel_rfl) (ts_in 1 6 rfl rfl) ?_
        have hq := oinj hr
        clear hr
        subst hq
        exact at_leaf (s2295, b2304) ⟨⟨rfl, ⟨rfl, ⟨rfl, ⟨rfl, ⟨rfl, ⟨rfl, trivial⟩⟩⟩⟩⟩⟩, ⟨[true, true, true], rfl⟩, ⟨[], rfl⟩, ⟨[3, 0, 1, 9, 6, 7, 8, 10, 11, 12], rfl⟩⟩
      ·refine aa_op rfl rfl ?_
       refine hv_alloc (cs := [.int .i64 0, (.slice none 0 0)]) ti25 rfl rfl (fun b2308 => ?_)
       refine aa_all (rs := [1]) (by kernel_rfl) rfl (ts_in 1 0 rfl rfl) (List.forall_mem_singleton.2 ?_)
       refine aa_op rfl rfl ?_
       refine hv_call0 [3] (f15_spec h2291) rfl rfl rfl rfl ?_
       rintro s2292 _ ⟨_, rfl, rfl⟩
       refine aa_all (rs := [3]) (by kernel_rfl) rfl (ts_in 1 1 rfl rfl) (List.forall_mem_singleton.2 ?_)
       refine at_derive [2, 3] (ty25.fact (⟨x2246.ID, x2246.Fields⟩ : D_api_Record) [.int .i64 x2246.ID, v2247]) rfl (fun F w h => mk25 (x := (⟨x2246.ID, x2246.Fields⟩ : D_api_Record)) h) ?_
       refine aa_op rfl rfl ?_
       refine hv_call0 [1, 0, 8] (f16_spec h2294) rfl rfl rfl rfl ?_
       rintro _ _ ⟨s2295, rfl, rfl⟩
       refine at_open (A := Unit) 0 rfl (fun _ => True) (fun _ => [((Ty.int .i64).fact x2293.1.ID [.int .i64 x2293.1.ID]), ((Ty.slice ty69).fact x2293.1.Fields [s2295])]) (fun F w h => ⟨(), trivial, ex25 h⟩) (fun _ _ => ?_)
       refine at_inv 0 rfl (fun l2309 => ?_)
       replace l2309 : (-9223372036854775808) ≤ x2293.1.ID ∧ x2293.1.ID ≤ 9223372036854775807 := l2309
       refine at_inv 3 rfl (fun l2310 => ?_)
       replace l2310 : (-9223372036854775808) ≤ x2293.2 ∧ x2293.2 ≤ 9223372036854775807 := l2310
       refine aa_pure 4 rfl (by kernel_rfl) rfl rfl (lt_move rfl) rfl (ts_in 1 6 rfl rfl) ?_
       refine aa_pure 5 rfl (by kernel_rfl) rfl rfl (lt_extract rfl rfl) rfl (ts_in 1 6 rfl rfl) ?_
       refine aa_pure 6 rfl (by kernel_rfl) rfl rfl (lt_extract rfl rfl) rfl (ts_in 1 6 rfl rfl) ?_
       refine aa_all (rs := [8]) (by kernel_rfl) rfl (ts_in 1 6 rfl rfl) (List.forall_mem_singleton.2 ?_)
       refine at_one 1 rfl (fun ho2311 => ?_)
       refine aa_op rfl rfl ?_
       refine hv_store_box 0 (cs' := [.int .i64 x2293.1.ID, s2295]) rfl rfl ti25 rfl rfl rfl rfl (allc rfl (allc ho2311 rfl)) ?_
       refine aa_pure 9 rfl (by kernel_rfl) rfl rfl (lt_assign rfl) rfl (ts_in 1 6 rfl rfl) ?_
       refine aa_done (by kernel_rfl) (ts_in 1 6 rfl rfl) ?_
       have hq := oinj hr
       clear hr
       subst hq
       exact at_leaf (s2295, b2308) ⟨⟨rfl, ⟨rfl, ⟨rfl, ⟨rfl, ⟨rfl, ⟨rfl, trivial⟩⟩⟩⟩⟩⟩, ⟨[true, true, true], rfl⟩, ⟨[], rfl⟩, ⟨[3, 0, 1, 9, 6, 7, 8, 10, 11, 12], rfl⟩⟩
     clear hc2289
     obtain ⟨x2284, x2285⟩ := r2288
     intro e
     obtain ⟨v2286, n2287⟩ := e
     change At _ _ (⟨[(0, w2219), (3, .pointer (some (Addr.add ⟨b2222, 0, none⟩ 0))), (5, .pointer (some (Addr.add ⟨n2248, 0, none⟩ 0))), (6, .int .i64 x2245), (7, .pointer (some (Addr.add ⟨n2287, 0, none⟩ 0))), (8, .int .i64 x2284)], [⟨n2287, [.int .i64 x2285.ID, v2286], 25⟩, ⟨n2248, [.int .i64 x2246.ID, v2247], 25⟩, ⟨b2222, [.int .i64 a1.ID, s2220], 25⟩], [], [((Ty.int .i64).fact x2284 [.int .i64 x2284]), ((Ty.int .i64).fact x2285.ID [.int .i64 x2285.ID]), ((Ty.slice ty69).fact x2285.Fields [v2286]), ((Ty.slice ty50).fact a0 [w2219]), ((Ty.int .i64).fact x2245 [.int .i64 x2245]), ((Ty.int .i64).fact x2246.ID [.int .i64 x2246.ID]), ((Ty.slice ty69).fact x2246.Fields [v2247]), ((Ty.int .i64).fact a1.ID [.int .i64 a1.ID]), ((Ty.slice ty69).fact a1.Fields [s2220]), (utf8F 1 2)]⟩ : St) _
     refine at_inv 0 rfl (fun l2312 => ?_)
     replace l2312 : (-9223372036854775808) ≤ x2284 ∧ x2284 ≤ 9223372036854775807 := l2312
     refine s_tsr ?_
     refine s_mv rfl ?_
     refine at_lt (lt_eql rfl rfl) rfl ?_
     refine s_mv rfl ?_
     by_cases h2313 : x2245 = 0
     ·replace hr := ipos h2313 hr
      refine at_on rfl rfl (decide_eq_true (by first | exact h2313 | omega)) ?_
      refine at_lt (lt_fieldAddr 1 rfl fld25_1 rfl) rfl ?_
      refine at_on rfl rfl (decide_eq_true (by first | exact h2313 | omega)) ?_
      refine at_lt (lt_load_box 1 rfl ti23 rfl rfl rfl rfl rfl) rfl ?_
      refine at_inv 6 rfl (fun i2314 => ?_)
      have l2315 := slice_len i2314
      refine at_on rfl rfl (decide_eq_true (by first | exact h2313 | omega)) ?_
      refine at_lt (lt_flen 6 rfl rfl und23) rfl ?_
      refine at_on rfl rfl (decide_eq_true (by first | exact h2313 | omega)) ?_
      refine at_lt (lt_fieldAddr 1 rfl fld25_1 rfl) rfl ?_
      refine at_on rfl rfl (decide_eq_true (by first | exact h2313 | omega)) ?_
      refine at_lt (lt_load_box 2 rfl ti23 rfl rfl rfl rfl rfl) rfl ?_
      refine at_inv 8 rfl (fun i2316 => ?_)
      have l2317 := slice_len i2316
      refine at_on rfl rfl (decide_eq_true (by first | exact h2313 | omega)) ?_
      refine at_lt (lt_flen 8 rfl rfl und23) rfl ?_
      refine at_on rfl rfl (decide_eq_true (by first | exact h2313 | omega)) ?_
      refine at_lt (lt_eql rfl rfl) rfl ?_
      refine at_lt (lt_pick true rfl (decide_eq_true (by first | exact h2313 | omega)) rfl) rfl ?_
      refine s_mv rfl ?_
      by_cases h2318 : x2246.Fields.length = a1.Fields.length
      ·replace hr := ipos h2318 hr
       refine at_on rfl rfl (decide_eq_true (by omega)) ?_
       refine s_mv rfl ?_
       replace hr := obind hr
       obtain ⟨x2319, h2320, hr⟩ := hr
       refine at_on rfl rfl (decide_eq_true (by omega)) ?_
       refine at_hv rfl ?_
       refine hv_call0 [3] (f15_spec h2320) rfl rfl rfl rfl ?_
       rintro s2321 _ ⟨_, rfl, rfl⟩
       replace hr := obind hr
       obtain ⟨x2322, h2323, hr⟩ := hr
       refine at_on rfl rfl (decide_eq_true (by omega)) ?_
       refine at_hv rfl ?_
       refine hv_call0 [0] (f17_spec h2323) rfl rfl rfl rfl ?_
       rintro _ _ ⟨rfl, rfl⟩
       refine at_on rfl rfl (decide_eq_true (by omega)) ?_
       refine at_lt (lt_not rfl) rfl ?_
       refine at_on rfl rfl (decide_eq_true (by omega)) ?_
       refine s_mv rfl ?_
       by_cases h2324 : x2322 = true
       ·replace hr := ipos h2324 hr
        refine at_on rfl rfl (nt h2324) ?_
        refine s_mv rfl ?_
        refine at_on rfl rfl (nt h2324) ?_
        refine at_lt (lt_eql rfl rfl) rfl ?_
        refine at_on rfl rfl (nt h2324) ?_
        refine s_mv rfl ?_
        by_cases h2325 : x2284 = 0
        ·replace hr := ipos h2325 hr
         refine at_on rfl rfl (decide_eq_true (by first | exact h2325 | omega)) ?_
         refine at_lt (lt_load_box 0 rfl ti25 rfl rfl rfl rfl rfl) rfl ?_
         refine at_on rfl rfl (decide_eq_true (by first | exact h2325 | omega)) ?_
         refine at_lt (lt_load_box 2 rfl ti25 rfl rfl rfl rfl rfl) rfl ?_
         replace hr := obind hr
         obtain ⟨x2326, h2327, hr⟩ := hr
         refine at_derive [2, 3] (ty25.fact (⟨x2285.ID, x2285.Fields⟩ : D_api_Record) [.int .i64 x2285.ID, v2286]) rfl (fun F w h => mk25 (x := (⟨x2285.ID, x2285.Fields⟩ : D_api_Record)) h) ?_
         refine at_derive [9, 10] (ty25.fact (⟨a1.ID, a1.Fields⟩ : D_api_Record) [.int .i64 a1.ID, s2220]) rfl (fun F w h => mk25 (x := (⟨a1.ID, a1.Fields⟩ : D_api_Record)) h) ?_
         refine at_on rfl rfl (decide_eq_true (by first | exact h2325 | omega)) ?_
         refine at_hv rfl ?_
         refine hv_call0 [1, 0] (f18_spec h2327) rfl rfl rfl rfl ?_
         rintro _ _ ⟨rfl, rfl⟩
         refine at_on rfl rfl (nt h2324) ?_
         refine at_lt (lt_pick true rfl (decide_eq_true (by first | exact h2325 | omega)) rfl) rfl ?_
         refine at_on rfl rfl (decide_eq_true (by omega)) ?_
         refine at_lt (lt_pick false rfl (nt h2324) rfl) rfl ?_
         refine at_lt (lt_pick true rfl (decide_eq_true (by omega)) rfl) rfl ?_
         refine s_as rfl ?_
         refine s_nt ?_
         refine at_ret ?_
         have hq := oinj hr
         clear hr
         subst hq
         exact at_return (.bool x2326) [] hS Tryz.results3 (.cons (.tmp rfl) .nil) rfl rfl ⟨rfl, rfl⟩
        replace hr := ineg h2325 hr
        refine at_off rfl rfl (decide_eq_false (by first | exact h2325 | omega)) rfl ?_
        refine at_off rfl rfl (decide_eq_false (by first | exact h2325 | omega)) rfl ?_
        refine at_off rfl rfl (decide_eq_false (by first | exact h2325 | omega)) rfl ?_
        refine at_on rfl rfl (nt h2324) ?_
        refine at_lt (lt_pick false rfl (decide_eq_false (by first | exact h2325 | omega)) rfl) rfl ?_
        refine at_on rfl rfl (decide_eq_true (by omega)) ?_
        refine at_lt (lt_pick false rfl (nt h2324) rfl) rfl ?_
        refine at_lt (lt_pick true rfl (decide_eq_true (by omega)) rfl) rfl ?_
        refine s_as rfl ?_
        refine s_nt ?_
        refine at_ret ?_
        have hq := oinj hr
        clear hr
        subst hq
        exact at_return (.bool false) [] hS Tryz.results3 (.cons (.tmp rfl) .nil) rfl rfl ⟨rfl, rfl⟩
       replace hr := ineg h2324 hr
       refine at_off rfl rfl (nf (bf h2324)) rfl ?_
       refine at_off rfl rfl (nf (bf h2324)) rfl ?_
       refine at_off rfl rfl (nf (bf h2324)) rfl ?_
       refine at_offu rfl rfl rfl ?_
       refine at_offu rfl rfl rfl ?_
       refine at_offu rfl rfl rfl ?_
       refine at_off rfl rfl (nf (bf h2324)) rfl ?_
       refine at_on rfl rfl (decide_eq_true (by omega)) ?_
       refine at_lt (lt_pick true rfl (nf (bf h2324)) rfl) rfl ?_
       refine at_lt (lt_pick true rfl (decide_eq_true (by omega)) rfl) rfl ?_
       refine s_as rfl ?_
       refine s_nt ?_
       refine at_ret ?_
       have hq := oinj hr
       clear hr
       subst hq
       exact at_return (.bool true) [] hS Tryz.results3 (.cons (.tmp rfl) .nil) rfl rfl ⟨rfl, rfl⟩
      replace hr := ineg h2318 hr
      refine at_off rfl rfl (decide_eq_false (by omega)) rfl ?_
      refine at_off rfl rfl (decide_eq_false (by omega)) rfl ?_
      refine at_off rfl rfl (decide_eq_false (by omega)) rfl ?_
      refine at_off rfl rfl (decide_eq_false (by omega)) rfl ?_
      refine at_off rfl rfl (decide_eq_false (by omega)) rfl ?_
      refine at_offu rfl rfl rfl ?_
      refine at_offu rfl rfl rfl ?_
      refine at_offu rfl rfl rfl ?_
      refine at_offu rfl rfl rfl ?_
      refine at_offu rfl rfl rfl ?_
      refine at_offu rfl rfl rfl ?_
      refine at_offu rfl rfl rfl ?_
      refine at_off rfl rfl (decide_eq_false (by omega)) rfl ?_
      refine at_lt (lt_pick false rfl (decide_eq_false (by omega)) rfl) rfl ?_
      refine s_as rfl ?_
      refine s_nt ?_
      refine at_ret ?_
      have hq := oinj hr
      clear hr
      subst hq
      exact at_return (.bool false) [] hS Tryz.results3 (.cons (.tmp rfl) .nil) rfl rfl ⟨rfl, rfl⟩
     replace hr := ineg h2313 hr
     refine at_off rfl rfl (decide_eq_false (by first | exact h2313 | omega)) rfl ?_
     refine at_off rfl rfl (decide_eq_false (by first | exact h2313 | omega)) rfl ?_
     refine at_off rfl rfl (decide_eq_false (by first | exact h2313 | omega)) rfl ?_
     refine at_off rfl rfl (decide_eq_false (by first | exact h2313 | omega)) rfl ?_
     refine at_off rfl rfl (decide_eq_false (by first | exact h2313 | omega)) rfl ?_
     refine at_off rfl rfl (decide_eq_false (by first | exact h2313 | omega)) rfl ?_
     refine at_off rfl rfl (decide_eq_false (by first | exact h2313 | omega)) rfl ?_
     refine at_lt (lt_pick false rfl (decide_eq_false (by first | exact h2313 | omega)) rfl) rfl ?_
     refine s_mv rfl ?_
     refine at_off rfl rfl rfl rfl ?_
     refine at_off rfl rfl rfl rfl ?_
     refine at_off rfl rfl rfl rfl ?_
     refine at_off rfl rfl rfl rfl ?_
     refine at_off rfl rfl rfl rfl ?_
     refine at_offu rfl rfl rfl ?_
     refine at_offu rfl rfl rfl ?_
     refine at_offu rfl rfl rfl ?_
     refine at_offu rfl rfl rfl ?_
     refine at_offu rfl rfl rfl ?_
     refine at_offu rfl rfl rfl ?_
     refine at_offu rfl rfl rfl ?_
     refine at_off rfl rfl rfl rfl ?_
     refine at_lt (lt_pick false rfl rfl rfl) rfl ?_
     refine s_as rfl ?_
     refine s_nt ?_
     refine at_ret ?_
     have hq := oinj hr
     clear hr
     subst hq
     exact at_return (.bool false) [] hS Tryz.results3 (.cons (.tmp rfl) .nil) rfl rfl ⟨rfl, rfl⟩
    replace hr := ineg h2234 hr
    refine at_true rfl (nf (bf h2234)) ?_
    refine s_sr ?_
    refine s_as rfl ?_
    refine s_nt ?_
    refine at_ret ?_
    have hq := oinj hr
    clear hr
    subst hq
    refine at_then_ret ?_
    exact at_return (.bool true) [] hS Tryz.results3 (.cons (.tmp rfl) .nil) rfl rfl ⟨rfl, rfl⟩
   replace hr := ineg h2231 hr
   refine at_off rfl rfl (nf (bf h2231)) rfl ?_
   refine at_off rfl rfl (nf (bf h2231)) rfl ?_
   refine at_off rfl rfl (nf (bf h2231)) rfl ?_
   refine at_off rfl rfl (nf (bf h2231)) rfl ?_
   refine at_lt (lt_pick true rfl (nf (bf h2231)) rfl) rfl ?_
   refine s_nt ?_
   refine at_true rfl rfl ?_
   refine s_sr ?_
   refine s_as rfl ?_
   refine s_nt ?_
   refine at_ret ?_
   have hq := oinj hr
   clear hr
   subst hq
   refine at_then_ret ?_
   exact at_return (.bool true) [] hS Tryz.results3 (.cons (.tmp rfl) .nil) rfl rfl ⟨rfl, rfl⟩
  replace hr := ineg h2228 hr
  refine at_off rfl rfl (nf (bf h2228)) rfl ?_
  refine at_off rfl rfl (nf (bf h2228)) rfl ?_
  refine at_off rfl rfl (nf (bf h2228)) rfl ?_
  refine at_lt (lt_pick true rfl (nf (bf h2228)) rfl) rfl ?_
  refine s_mv rfl ?_
  refine at_off rfl rfl rfl rfl ?_
  refine at_off rfl rfl rfl rfl ?_
  refine at_off rfl rfl rfl rfl ?_
  refine at_off rfl rfl rfl rfl ?_
  refine at_lt (lt_pick true rfl rfl rfl) rfl ?_
  refine s_nt ?_
  refine at_true rfl rfl ?_
  refine s_sr ?_
  refine s_as rfl ?_
  refine s_nt ?_
  refine at_ret ?_
  have hq := oinj hr
  clear hr
  subst hq
  refine at_then_ret ?_
  exact at_return (.bool true) [] hS Tryz.results3 (.cons (.tmp rfl) .nil) rfl rfl ⟨rfl, rfl⟩
 replace hr := ineg h2225 hr
 refine at_true rfl (nf (bf h2225)) ?_
 refine s_sr ?_
 refine s_as rfl ?_
 refine s_nt ?_
 refine at_ret ?_
 have hq := oinj hr
 clear hr
 subst hq
 refine at_then_ret ?_
 exact at_return (.bool false) [] hS Tryz.results3 (.cons (.tmp rfl) .nil) rfl rfl ⟨rfl, rfl⟩
end Go.WK.S
