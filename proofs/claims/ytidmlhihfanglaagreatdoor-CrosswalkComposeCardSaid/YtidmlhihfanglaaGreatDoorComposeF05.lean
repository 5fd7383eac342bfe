/- What functions of this program compute: a model of each, and the proof that it is kept. -/
import Derived.Test.YtidmlhihfanglaaGreatDoorComposeF04
import Derived.KernelRfl
set_option linter.unusedSimpArgs false
set_option linter.unusedVariables false
namespace Go.WK.S
open Go Go.Proofs Go.WK Go.RowKit
set_option linter.unusedVariables false
set_option maxRecDepth 100000
set_option maxHeartbeats 4000000
/-! 26 bookplate/crosswalk.Compose -/
def m26_l2 (x1974 : D_crosswalk_Entry) (x1981 : (D_crosswalk_Entry × Bool)) : Nat → Nat → (List D_crosswalk_Pair) → Option (List D_crosswalk_Pair)
  | 0, _, _ => none
  | k + 1, x1989, x1990 =>
    if x1989 < x1974.Codes.length then
     (x1974.Codes[x1989]?).bind fun x2001 =>
     (m44 (⟨x1981.1.From, x1981.1.To, x1981.1.Codes⟩ : D_crosswalk_Entry) x2001.To).bind fun x2006 =>
     Option.bind (α := (List D_crosswalk_Pair)) (
      if x2006.2 = true then
       if x1990.length + 1 ≤ 70368744177664 then
        some (x1990 ++ [(⟨x2001.From, x2006.1⟩ : D_crosswalk_Pair)])
       else none
      else
       some x1990
     ) fun x2008 =>
     m26_l2 x1974 x1981 k (x1989 + 1) x2008
    else
     some x1990
def m26_l1 (a0 : (List D_crosswalk_Entry)) (a1 : (List D_crosswalk_Entry)) : Nat → (List D_crosswalk_Entry) → Nat → Option (List D_crosswalk_Entry)
  | 0, _, _ => none
  | k + 1, x1962, x1963 =>
    if x1963 < a0.length then
     (a0[x1963]?).bind fun x1974 =>
     (m43 a1 x1974.To).bind fun x1981 =>
     (m26_l2 x1974 x1981 (x1974.Codes.length + 1) 0 ([] : (List D_crosswalk_Pair))).bind fun x1994 =>
     Option.bind (α := (List D_crosswalk_Entry)) (
      if 0 < x1994.length then
       if x1962.length + 1 ≤ 2513169434916 then
        some (x1962 ++ [(⟨x1974.From, x1981.1.To, x1994⟩ : D_crosswalk_Entry)])
       else none
      else
       some x1962
     ) fun x2021 =>
     m26_l1 a0 a1 k x2021 (x1963 + 1)
    else
     some x1962
def m26 (a0 : (List D_crosswalk_Entry)) (a1 : (List D_crosswalk_Entry)) : Option ((List D_crosswalk_Entry) × Int) :=
  (m27 a0).bind fun x1954 =>
  if x1954 = true then
   (m27 a1).bind fun x1957 =>
   if x1957 = true then
    (m26_l1 a0 a1 (a0.length + 1) ([] : (List D_crosswalk_Entry)) 0).bind fun x1967 =>
    some (x1967, 0)
   else
    some (([] : (List D_crosswalk_Entry)), 1)
  else
   some (([] : (List D_crosswalk_Entry)), 1)
def post26 (r : ((List D_crosswalk_Entry) × Int)) (v : Value) (fs : List Fact) : Prop := ∃ s2034 : Value, v = .tuple #[s2034, .int .i64 r.2] ∧ fs = [((Ty.slice ty76).fact r.1 [s2034]), ((Ty.int .i64).fact r.2 [.int .i64 r.2])]
theorem en26 : Enters Tryz.prog 26 := ⟨_, Tryz.func26, by kernel_rfl, rfl⟩
theorem f26_spec {a0 : (List D_crosswalk_Entry)} {a1 : (List D_crosswalk_Entry)} {w1952 : Value} {w1953 : Value} {r : ((List D_crosswalk_Entry) × Int)} (hr : m26 a0 a1 = some r) : Spec Tryz.prog 26 [w1952, w1953] [((Ty.slice ty76).fact a0 [w1952]), ((Ty.slice ty76).fact a1 [w1953])] (post26 r) := by
 refine spec_start (N := 77) Tryz.func26 (by kernel_rfl) rfl rfl rfl ?_
 intro g hS
 unfold m26 at hr
 refine s_sr ?_
 refine s_as rfl ?_
 refine s_as rfl ?_
 refine s_nt ?_
 refine at_seq ?_
 refine s_sr ?_
 refine s_mv rfl ?_
 replace hr := obind hr
 obtain ⟨x1954, h1955, hr⟩ := hr
 refine at_hv rfl ?_
 refine hv_call0 [0] (f27_spec h1955) rfl rfl rfl rfl ?_
 rintro _ _ ⟨rfl, rfl⟩
 refine at_lt (lt_not rfl) rfl ?_
 refine s_mv rfl ?_
 by_cases h1956 : x1954 = true
 ·replace hr := ipos h1956 hr
  refine at_on rfl rfl (nt h1956) ?_
  refine s_mv rfl ?_
  replace hr := obind hr
  obtain ⟨x1957, h1958, hr⟩ := hr
  refine at_on rfl rfl (nt h1956) ?_
  refine at_hv rfl ?_
  refine hv_call0 [1] (f27_spec h1958) rfl rfl rfl rfl ?_
  rintro _ _ ⟨rfl, rfl⟩
  refine at_on rfl rfl (nt h1956) ?_
  refine at_lt (lt_not rfl) rfl ?_
  refine at_lt (lt_pick false rfl (nt h1956) rfl) rfl ?_
  refine s_nt ?_
  by_cases h1959 : x1957 = true
  ·replace hr := ipos h1959 hr
   refine at_false rfl (nt h1959) ?_
   refine at_skip ?_
   refine s_tsr ?_
   refine s_as rfl ?_
   refine s_nt ?_
   refine at_seq ?_
   refine s_sr ?_
   refine s_mv rfl ?_
   refine at_inv 0 rfl (fun i1960 => ?_)
   have l1961 := slice_len i1960
   refine at_lt (lt_flen 0 rfl rfl und34) rfl ?_
   refine s_mv rfl ?_
   refine s_nt ?_
   refine at_rownew none 76 3 ?_
   refine at_rownil ty76 ?_
   refine at_mkpure (q := (([] : (List D_crosswalk_Entry)).length * ty76.bytes ≤ 140737488355328)) (by simp only [List.nil_append, List.cons_append, List.length_cons, List.length_nil, ty76_bytes] <;> omega) ?_
   refine at_int .i64 0 (by simp only [lo, hi]; omega) ?_
   replace hr := obind hr
   obtain ⟨x1967, hl1971, hr⟩ := hr
   refine at_cut (V := Value × Nat × (List Value)) (fun e => (⟨[(6, e.1)], [], [⟨e.1, 76, 3, e.2.1, e.2.2⟩], [(ty76.row x1967 e.2.2), (pureF (x1967.length * ty76.bytes ≤ 140737488355328))]⟩ : St)) ?_ ?_
   ·refine at_block ?_
    refine at_loopW (σ := ((List D_crosswalk_Entry) × Nat)) (V := Value × Nat × (List Value)) (r := x1967) (fun n s => m26_l1 a0 a1 n s.1 s.2) (fun s e => (⟨[(1, w1953), (6, e.1), (24, w1952), (25, .int .i64 (a0.length : Int)), (26, .int .i64 (s.2 : Int))], [], [⟨e.1, 76, 3, e.2.1, e.2.2⟩], [(ty76.row s.1 e.2.2), (pureF (s.1.length * ty76.bytes ≤ 140737488355328)), ((Ty.int .i64).fact (s.2 : Int) [.int .i64 (s.2 : Int)]), ((Ty.slice ty76).fact a1 [w1953]), ((Ty.slice ty76).fact a0 [w1952])]⟩ : St)) (fun _ => rfl) _ (([] : (List D_crosswalk_Entry)), 0) ((.slice none 0 0), 0, []) hl1971 ⟨⟨rfl, ⟨rfl, ⟨rfl, ⟨rfl, ⟨rfl, trivial⟩⟩⟩⟩⟩, ⟨[], rfl⟩, ⟨[true], rfl⟩, ⟨[2, 1, 0, 4, 3], rfl⟩⟩ ?_
    clear hr hl1971
    intro n s hr e
    obtain ⟨x1962, x1963⟩ := s
    obtain ⟨v1964, n1965, i1966⟩ := e
    change m26_l1 a0 a1 (n + 1) x1962 x1963 = some x1967 at hr
    change At _ _ (⟨[(1, w1953), (6, v1964), (24, w1952), (25, .int .i64 (a0.length : Int)), (26, .int .i64 (x1963 : Int))], [], [⟨v1964, 76, 3, n1965, i1966⟩], [(ty76.row x1962 i1966), (pureF (x1962.length * ty76.bytes ≤ 140737488355328)), ((Ty.int .i64).fact (x1963 : Int) [.int .i64 (x1963 : Int)]), ((Ty.slice ty76).fact a1 [w1953]), ((Ty.slice ty76).fact a0 [w1952])]⟩ : St) _
    rw [m26_l1] at hr
    refine s_sr ?_
    refine at_lt (lt_lss rfl rfl) rfl ?_
    refine s_nt ?_
    refine at_seq ?_
    by_cases h1973 : x1963 < a0.length
    ·replace hr := ipos h1973 hr
     refine at_true rfl (decide_eq_true (by omega)) ?_
     refine at_skip ?_
     refine at_then ?_
     refine at_seq ?_
     refine at_block ?_
     refine s_sr ?_
     replace hr := obind hr
     obtain ⟨x1974, h1975, hr⟩ := hr
     have := (List.getElem?_eq_some_iff.1 h1975).1
     refine at_elem 4 rfl (nat_at' h1975) (fun p1977 ec pa1978 => ?_)
     refine at_open (A := Value) 0 rfl _ _ (fun F w h => op76 h) ?_
     rintro s1976 rfl
     refine at_lt (lt_idx rfl rfl pa1978 und34 ti76) rfl ?_
     refine at_lt (lt_load_peek 4 rfl ti76 rfl rfl rfl rfl rfl) rfl ?_
     refine at_hv rfl ?_
     refine hv_alloc (cs := [str ([] : Str), str ([] : Str), (.slice none 0 0)]) ti76 rfl rfl (fun b1979 => ?_)
     refine at_one 2 rfl (fun ho1980 => ?_)
     refine at_hv rfl ?_
     refine hv_store_box 0 (cs' := [str x1974.From, str x1974.To, s1976]) rfl rfl ti76 rfl rfl rfl rfl (allc rfl (allc rfl (allc ho1980 rfl))) ?_
     refine s_ntsr ?_
     refine s_mv rfl ?_
     refine at_lt (lt_fieldAddr 1 rfl fld76_1 rfl) rfl ?_
     refine at_lt (lt_load_box 0 rfl ti9 rfl rfl rfl rfl rfl) rfl ?_
     replace hr := obind hr
     obtain ⟨x1981, h1982, hr⟩ := hr
     refine at_hv rfl ?_
     refine hv_call0 [8, 1] (f43_spec h1982) rfl rfl rfl rfl ?_
     rintro _ _ ⟨s1983, rfl, rfl⟩
     refine at_open (A := Unit) 0 rfl (fun _ => True) (fun _ => [(Ty.str.fact x1981.1.From [str x1981.1.From]), (Ty.str.fact x1981.1.To [str x1981.1.To]), ((Ty.slice ty82).fact x1981.1.Codes [s1983])]) (fun F w h => ⟨(), trivial, ex76 h⟩) (fun _ _ => ?_)
     refine s_mv rfl ?_
     refine at_lt (lt_extract rfl rfl) rfl ?_
     refine at_lt (lt_extract rfl rfl) rfl ?_
     refine at_hv rfl ?_
     refine hv_alloc (cs := [str ([] : Str), str ([] : Str), (.slice none 0 0)]) ti76 rfl rfl (fun b1984 => ?_)
     refine at_one 2 rfl (fun ho1985 => ?_)
     refine at_hv rfl ?_
     refine hv_store_box 0 (cs' := [str x1981.1.From, str x1981.1.To, s1983]) rfl rfl ti76 rfl rfl rfl rfl (allc rfl (allc rfl (allc ho1985 rfl))) ?_
     refine s_as rfl ?_
     refine s_ntsr ?_
     refine at_lt (lt_fieldAddr 0 rfl fld76_0 rfl) rfl ?_
     refine at_lt (lt_load_box 1 rfl ti9 rfl rfl rfl rfl rfl) rfl ?_
     refine at_lt (lt_fieldAddr 1 rfl fld76_1 rfl) rfl ?_
     refine at_lt (lt_load_box 0 rfl ti9 rfl rfl rfl rfl rfl) rfl ?_
     refine at_lt (lt_build (cs := [str x1974.From, str x1981.1.To, (.slice none 0 0)]) rfl ti76 pl76 rfl) rfl ?_
     refine at_hv rfl ?_
     refine hv_alloc (cs := [str ([] : Str), str ([] : Str), (.slice none 0 0)]) ti76 rfl rfl (fun b1986 => ?_)
     refine at_hv rfl ?_
     refine hv_store_box 0 (cs' := [str x1974.From, str x1981.1.To, (.slice none 0 0)]) rfl rfl ti76 rfl rfl rfl rfl rfl ?_
     refine s_nt ?_
     refine at_seq ?_
     refine s_sr ?_
     refine at_lt (lt_fieldAddr 2 rfl fld76_2 rfl) rfl ?_
     refine at_lt (lt_load_box 2 rfl ti74 rfl rfl rfl rfl rfl) rfl ?_
     refine at_inv 6 rfl (fun i1987 => ?_)
     have l1988 := slice_len i1987
     refine at_lt (lt_flen 6 rfl rfl und74) rfl ?_
     refine s_mv rfl ?_
     refine s_nt ?_
     refine at_int .i64 0 (by simp only [lo, hi]; omega) ?_
     refine at_rownew none 82 2 ?_
     refine at_rownil ty82 ?_
     refine at_mkpure (q := (([] : (List D_crosswalk_Pair)).length * ty82.bytes ≤ 140737488355328)) (by simp only [List.nil_append, List.cons_append, List.length_cons, List.length_nil, ty82_bytes] <;> omega) ?_
     replace hr := obind hr
     obtain ⟨x1994, hl1998, hr⟩ := hr
     refine at_cut (V := Value × Nat × (List Value)) (fun e => (⟨[(1, w1953), (6, v1964), (11, .pointer (some (Addr.add ⟨b1986, 0, none⟩ 0))), (24, w1952), (25, .int .i64 (a0.length : Int)), (26, .int .i64 (x1963 : Int))], [⟨b1986, [str x1974.From, str x1981.1.To, e.1], 76⟩], [⟨e.1, 82, 2, e.2.1, e.2.2⟩, ⟨v1964, 76, 3, n1965, i1966⟩], [(ty82.row x1994 e.2.2), (pureF (x1994.length * ty82.bytes ≤ 140737488355328)), ((Ty.slice ty76).fact a1 [w1953]), (ty76.row x1962 i1966), (pureF (x1962.length * ty76.bytes ≤ 140737488355328)), ((Ty.slice ty76).fact a0 [w1952]), ((Ty.int .i64).fact (x1963 : Int) [.int .i64 (x1963 : Int)]), (Ty.str.fact x1974.From [str x1974.From]), (Ty.str.fact x1981.1.To [str x1981.1.To])]⟩ : St)) ?_ ?_
     ·refine at_block ?_
      refine at_loopW (σ := (Nat × (List D_crosswalk_Pair))) (V := Value × Nat × (List Value)) (r := x1994) (fun n s => m26_l2 x1974 x1981 n s.1 s.2) (fun s e => (⟨[(1, w1953), (6, v1964), (9, .pointer (some (Addr.add ⟨b1984, 0, none⟩ 0))), (11, .pointer (some (Addr.add ⟨b1986, 0, none⟩ 0))), (24, w1952), (25, .int .i64 (a0.length : Int)), (26, .int .i64 (x1963 : Int)), (43, s1976), (44, .int .i64 (x1974.Codes.length : Int)), (45, .int .i64 (s.1 : Int))], [⟨b1986, [str x1974.From, str x1981.1.To, e.1], 76⟩, ⟨b1984, [str x1981.1.From, str x1981.1.To, s1983], 76⟩], [⟨e.1, 82, 2, e.2.1, e.2.2⟩, ⟨v1964, 76, 3, n1965, i1966⟩], [((Ty.int .i64).fact (s.1 : Int) [.int .i64 (s.1 : Int)]), (ty82.row s.2 e.2.2), (pureF (s.2.length * ty82.bytes ≤ 140737488355328)), ((Ty.slice ty76).fact a1 [w1953]), (ty76.row x1962 i1966), (pureF (x1962.length * ty76.bytes ≤ 140737488355328)), ((Ty.slice ty76).fact a0 [w1952]), ((Ty.int .i64).fact (x1963 : Int) [.int .i64 (x1963 : Int)]), ((Ty.slice ty82).fact x1974.Codes [s1976]), (Ty.str.fact x1974.From [str x1974.From]), (Ty.str.fact x1981.1.To [str x1981.1.To]), (Ty.str.fact x1981.1.From [str x1981.1.From]), ((Ty.slice ty82).fact x1981.1.Codes [s1983])]⟩ : St)) (fun _ => rfl) _ (0, ([] : (List D_crosswalk_Pair))) ((.slice none 0 0), 0, []) hl1998 ⟨⟨rfl, ⟨rfl, ⟨rfl, ⟨rfl, ⟨rfl, ⟨rfl, ⟨rfl, ⟨rfl, ⟨rfl, ⟨rfl, trivial⟩⟩⟩⟩⟩⟩⟩⟩⟩⟩, ⟨[true, true, false], rfl⟩, ⟨[true, true], rfl⟩, ⟨[2, 1, 0, 15, 12, 13, 16, 14, 9, 7, 4, 3, 5], rfl⟩⟩ ?_
      clear hr hl1998
      intro n s hr e
      obtain ⟨x1989, x1990⟩ := s
      obtain ⟨v1991, n1992, i1993⟩ := e
      change m26_l2 x1974 x1981 (n + 1) x1989 x1990 = some x1994 at hr
      change At _ _ (⟨[(1, w1953), (6, v1964), (9, .pointer (some (Addr.add ⟨b1984, 0, none⟩ 0))), (11, .pointer (some (Addr.add ⟨b1986, 0, none⟩ 0))), (24, w1952), (25, .int .i64 (a0.length : Int)), (26, .int .i64 (x1963 : Int)), (43, s1976), (44, .int .i64 (x1974.Codes.length : Int)), (45, .int .i64 (x1989 : Int))], [⟨b1986, [str x1974.From, str x1981.1.To, v1991], 76⟩, ⟨b1984, [str x1981.1.From, str x1981.1.To, s1983], 76⟩], [⟨v1991, 82, 2, n1992, i1993⟩, ⟨v1964, 76, 3, n1965, i1966⟩], [((Ty.int .i64).fact (x1989 : Int) [.int .i64 (x1989 : Int)]), (ty82.row x1990 i1993), (pureF (x1990.length * ty82.bytes ≤ 140737488355328)), ((Ty.slice ty76).fact a1 [w1953]), (ty76.row x1962 i1966), (pureF (x1962.length * ty76.bytes ≤ 140737488355328)), ((Ty.slice ty76).fact a0 [w1952]), ((Ty.int .i64).fact (x1963 : Int) [.int .i64 (x1963 : Int)]), ((Ty.slice ty82).fact x1974.Codes [s1976]), (Ty.str.fact x1974.From [str x1974.From]), (Ty.str.fact x1981.1.To [str x1981.1.To]), (Ty.str.fact x1981.1.From [str x1981.1.From]), ((Ty.slice ty82).fact x1981.1.Codes [s1983])]⟩ : St) _
      rw [m26_l2] at hr
      refine s_sr ?_
      refine at_lt (lt_lss rfl rfl) rfl ?_
      refine s_nt ?_
      refine at_seq ?_
      by_cases h2000 : x1989 < x1974.Codes.length
      ·replace hr := ipos h2000 hr
       refine at_true rfl (decide_eq_true (by omega)) ?_
       refine at_skip ?_
       refine at_then ?_
       refine at_seq ?_
       refine at_block ?_
       refine s_sr ?_
       replace hr := obind hr
       obtain ⟨x2001, h2002, hr⟩ := hr
       have := (List.getElem?_eq_some_iff.1 h2002).1
       refine at_elem 8 rfl (nat_at' h2002) (fun p2003 ec pa2004 => ?_)
       refine at_open (A := Unit) 0 rfl _ _ (fun F w h => op82 h) ?_
       rintro _ rfl
       refine at_lt (lt_idx rfl rfl pa2004 und74 ti82) rfl ?_
       refine at_lt (lt_load_peek 1 rfl ti82 rfl rfl rfl rfl rfl) rfl ?_
       refine at_hv rfl ?_
       refine hv_alloc (cs := [.int .u8 0, .int .u8 0]) ti82 rfl rfl (fun b2005 => ?_)
       refine at_hv rfl ?_
       refine hv_store_box 0 (cs' := [.int .u8 (x2001.From.toNat : Int), .int .u8 (x2001.To.toNat : Int)]) rfl rfl ti82 rfl rfl rfl rfl rfl ?_
       refine s_ntsr ?_
       refine at_lt (lt_load_box 2 rfl ti76 rfl rfl rfl rfl rfl) rfl ?_
       refine at_lt (lt_fieldAddr 1 rfl fld82_1 rfl) rfl ?_
       refine at_lt (lt_load_box 0 rfl ti5 rfl rfl rfl rfl rfl) rfl ?_
       replace hr := obind hr
       obtain ⟨x2006, h2007, hr⟩ := hr
       refine at_derive [13, 12, 14] (ty76.fact (⟨x1981.1.From, x1981.1.To, x1981.1.Codes⟩ : D_crosswalk_Entry) [str x1981.1.From, str x1981.1.To, s1983]) rfl (fun F w h => mk76 (x := (⟨x1981.1.From, x1981.1.To, x1981.1.Codes⟩ : D_crosswalk_Entry)) h) ?_
       refine at_hv rfl ?_
       refine hv_call0 [0] (f44_spec h2007) rfl rfl rfl rfl ?_
       rintro _ _ ⟨rfl, rfl⟩
       refine s_mv rfl ?_
       refine at_lt (lt_extract rfl rfl) rfl ?_
       refine at_lt (lt_extract rfl rfl) rfl ?_
       refine s_as rfl ?_
       refine s_as rfl ?_
       refine s_ntsr ?_
       refine s_mv rfl ?_
       refine s_nt ?_
       replace hr := obind hr
       obtain ⟨x2008, hc2012, hr⟩ := hr
       refine at_cut (V := Value × Nat × (List Value)) (fun e => (⟨[(1, w1953), (6, v1964), (9, .pointer (some (Addr.add ⟨b1984, 0, none⟩ 0))), (11, .pointer (some (Addr.add ⟨b1986, 0, none⟩ 0))), (24, w1952), (25, .int .i64 (a0.length : Int)), (26, .int .i64 (x1963 : Int)), (43, s1976), (44, .int .i64 (x1974.Codes.length : Int)), (45, .int .i64 (x1989 : Int))], [⟨b1986, [str x1974.From, str x1981.1.To, e.1], 76⟩, ⟨b1984, [str x1981.1.From, str x1981.1.To, s1983], 76⟩], [⟨e.1, 82, 2, e.2.1, e.2.2⟩, ⟨v1964, 76, 3, n1965, i1966⟩], [(ty82.row x2008 e.2.2), (pureF (x2008.length * ty82.bytes ≤ 140737488355328)), ((Ty.slice ty76).fact a1 [w1953]), (ty76.row x1962 i1966), (pureF (x1962.length * ty76.bytes ≤ 140737488355328)), ((Ty.slice ty76).fact a0 [w1952]), ((Ty.int .i64).fact (x1963 : Int) [.int .i64 (x1963 : Int)]), ((Ty.slice ty82).fact x1974.Codes [s1976]), ((Ty.int .i64).fact (x1989 : Int) [.int .i64 (x1989 : Int)]), (Ty.str.fact x1974.From [str x1974.From]), (Ty.str.fact x1981.1.To [str x1981.1.To]), (Ty.str.fact x1981.1.From [str x1981.1.From]), ((Ty.slice ty82).fact x1981.1.Codes [s1983])]⟩ : St)) ?_ ?_
       ·clear hr
        have hr := hc2012
        clear hc2012
        by_cases h2013 : x2006.2 = true
        ·replace hr := ipos h2013 hr
         refine at_true rfl h2013 ?_
         refine at_region ?_
         refine at_lt (lt_fieldAddr 2 rfl fld76_2 rfl) rfl ?_
         refine at_lt (lt_load_box 1 rfl ti74 rfl rfl rfl rfl rfl) rfl ?_
         refine at_lt (lt_fieldAddr 0 rfl fld82_0 rfl) rfl ?_
         refine at_lt (lt_load_box 0 rfl ti5 rfl rfl rfl rfl rfl) rfl ?_
         refine s_mv rfl ?_
         refine at_lt (lt_build (cs := [.int .u8 (x2001.From.toNat : Int), .int .u8 (x2006.1.toNat : Int)]) rfl ti82 pl82 rfl) rfl ?_
         refine at_hv rfl ?_
         refine hv_bslice (cs := [.int .u8 (x2001.From.toNat : Int), .int .u8 (x2006.1.toNat : Int)]) rfl und74 ti82 rfl rfl rfl rfl rfl (fun s2014 => ?_)
         replace hr := imust hr
         obtain ⟨h2015, hr⟩ := hr
         refine at_derive [] (ty82.fact (⟨x2001.From, x2006.1⟩ : D_crosswalk_Pair) [.int .u8 (x2001.From.toNat : Int), .int .u8 (x2006.1.toNat : Int)]) rfl (fun F w h => mk82 (x := (⟨x2001.From, x2006.1⟩ : D_crosswalk_Pair)) h) ?_
         refine at_rown 1 5 rfl rfl rfl (fun hn2017 => ?_)
         refine at_hv rfl ?_
         refine hv_append 1 0 rfl rfl rfl rfl und74 ti82 rfl rfl rfl (by omega) (by omega) rfl (fun s2016 => ?_)
         refine at_rowsnoc 5 0 rfl rfl ?_
         refine at_lt (lt_fieldAddr 2 rfl fld76_2 rfl) rfl ?_
         refine at_rowv 1 rfl (fun ho2018 => ?_)
         replace ho2018 := row_one (by obtain ⟨a, c, h⟩ := ho2018; exact ⟨a, _, c, h⟩)
         refine at_hv rfl ?_
         refine hv_store1 1 (cs' := [str x1974.From, str x1981.1.To, s2016]) rfl rfl ti74 rfl rfl rfl rfl ho2018 ?_
         refine at_nil ?_
         have hq := oinj hr
         clear hr
         subst hq
         refine at_mkpure (q := ((x1990 ++ [(⟨x2001.From, x2006.1⟩ : D_crosswalk_Pair)]).length * ty82.bytes ≤ 140737488355328)) (by simp only [List.length_append, List.length_cons, List.length_nil, ty82_bytes] <;> omega) ?_
         exact at_leaf (s2016, n1992 + 1, i1993 ++ [.int .u8 (x2001.From.toNat : Int), .int .u8 (x2006.1.toNat : Int)]) ⟨⟨rfl, ⟨rfl, ⟨rfl, ⟨rfl, ⟨rfl, ⟨rfl, ⟨rfl, ⟨rfl, ⟨rfl, ⟨rfl, trivial⟩⟩⟩⟩⟩⟩⟩⟩⟩⟩, ⟨[false, true, true], rfl⟩, ⟨[false, true, true], rfl⟩, ⟨[1, 0, 9, 10, 11, 12, 13, 14, 6, 15, 16, 17, 18], rfl⟩⟩
        replace hr := ineg h2013 hr
        refine at_false rfl (bf h2013) ?_
        refine at_skip ?_
        have hq := oinj hr
        clear hr
        subst hq
        exact at_leaf (v1991, n1992, i1993) ⟨⟨rfl, ⟨rfl, ⟨rfl, ⟨rfl, ⟨rfl, ⟨rfl, ⟨rfl, ⟨rfl, ⟨rfl, ⟨rfl, trivial⟩⟩⟩⟩⟩⟩⟩⟩⟩⟩, ⟨[false, true, true], rfl⟩, ⟨[true, true], rfl⟩, ⟨[4, 5, 6, 7, 8, 9, 10, 11, 3, 12, 13, 14, 15], rfl⟩⟩
       clear hc2012
       intro e
       obtain ⟨v2009, n2010, i2011⟩ := e
       change At _ _ (⟨[(1, w1953), (6, v1964), (9, .pointer (some (Addr.add ⟨b1984, 0, none⟩ 0))), (11, .pointer (some (Addr.add ⟨b1986, 0, none⟩ 0))), (24, w1952), (25, .int .i64 (a0.length : Int)), (26, .int .i64 (x1963 : Int)), (43, s1976), (44, .int .i64 (x1974.Codes.length : Int)), (45, .int .i64 (x1989 : Int))], [⟨b1986, [str x1974.From, str x1981.1.To, v2009], 76⟩, ⟨b1984, [str x1981.1.From, str x1981.1.To, s1983], 76⟩], [⟨v2009, 82, 2, n2010, i2011⟩, ⟨v1964, 76, 3, n1965, i1966⟩], [(ty82.row x2008 i2011), (pureF (x2008.length * ty82.bytes ≤ 140737488355328)), ((Ty.slice ty76).fact a1 [w1953]), (ty76.row x1962 i1966), (pureF (x1962.length * ty76.bytes ≤ 140737488355328)), ((Ty.slice ty76).fact a0 [w1952]), ((Ty.int .i64).fact (x1963 : Int) [.int .i64 (x1963 : Int)]), ((Ty.slice ty82).fact x1974.Codes [s1976]), ((Ty.int .i64).fact (x1989 : Int) [.int .i64 (x1989 : Int)]), (Ty.str.fact x1974.From [str x1974.From]), (Ty.str.fact x1981.1.To [str x1981.1.To]), (Ty.str.fact x1981.1.From [str x1981.1.From]), ((Ty.slice ty82).fact x1981.1.Codes [s1983])]⟩ : St) _
       refine at_in ?_
       refine s_tr ?_
       refine at_lt (lt_add rfl rfl (by simp only [lo, hi]; omega)) rfl ?_
       refine s_mv rfl ?_
       refine at_nil ?_
       refine at_int .i64 (x1989 + 1 : Int) (by simp only [lo, hi]; omega) ?_
       exact at_again (σ := (Nat × (List D_crosswalk_Pair))) (V := Value × Nat × (List Value)) (lp := fun n s => m26_l2 x1974 x1981 n s.1 s.2) (S := fun s e => (⟨[(1, w1953), (6, v1964), (9, .pointer (some (Addr.add ⟨b1984, 0, none⟩ 0))), (11, .pointer (some (Addr.add ⟨b1986, 0, none⟩ 0))), (24, w1952), (25, .int .i64 (a0.length : Int)), (26, .int .i64 (x1963 : Int)), (43, s1976), (44, .int .i64 (x1974.Codes.length : Int)), (45, .int .i64 (s.1 : Int))], [⟨b1986, [str x1974.From, str x1981.1.To, e.1], 76⟩, ⟨b1984, [str x1981.1.From, str x1981.1.To, s1983], 76⟩], [⟨e.1, 82, 2, e.2.1, e.2.2⟩, ⟨v1964, 76, 3, n1965, i1966⟩], [((Ty.int .i64).fact (s.1 : Int) [.int .i64 (s.1 : Int)]), (ty82.row s.2 e.2.2), (pureF (s.2.length * ty82.bytes ≤ 140737488355328)), ((Ty.slice ty76).fact a1 [w1953]), (ty76.row x1962 i1966), (pureF (x1962.length * ty76.bytes ≤ 140737488355328)), ((Ty.slice ty76).fact a0 [w1952]), ((Ty.int .i64).fact (x1963 : Int) [.int .i64 (x1963 : Int)]), ((Ty.slice ty82).fact x1974.Codes [s1976]), (Ty.str.fact x1974.From [str x1974.From]), (Ty.str.fact x1981.1.To [str x1981.1.To]), (Ty.str.fact x1981.1.From [str x1981.1.From]), ((Ty.slice ty82).fact x1981.1.Codes [s1983])]⟩ : St)) (x1989 + 1, x2008) (v2009, n2010, i2011) hr ⟨⟨rfl, ⟨rfl, ⟨rfl, ⟨rfl, ⟨rfl, ⟨rfl, ⟨rfl, ⟨rfl, ⟨rfl, ⟨rfl, trivial⟩⟩⟩⟩⟩⟩⟩⟩⟩⟩, ⟨[true, true], rfl⟩, ⟨[true, true], rfl⟩, ⟨[0, 1, 2, 3, 4, 5, 6, 7, 8, 10, 11, 12, 13], rfl⟩⟩
      replace hr := ineg h2000 hr
      refine at_false rfl (decide_eq_false (by omega)) ?_
      refine at_exit ?_
      refine at_then_exit ?_
      refine at_then_exit ?_
      refine at_in_exit ?_
      have hq := oinj hr
      clear hr
      subst hq
      exact at_leaf (v1991, n1992, i1993) ⟨⟨rfl, ⟨rfl, ⟨rfl, ⟨rfl, ⟨rfl, ⟨rfl, trivial⟩⟩⟩⟩⟩⟩, ⟨[true, false], rfl⟩, ⟨[true, true], rfl⟩, ⟨[1, 2, 3, 4, 5, 6, 7, 9, 10], rfl⟩⟩
     clear hl1998
     intro e
     obtain ⟨v1995, n1996, i1997⟩ := e
     change At _ _ (⟨[(1, w1953), (6, v1964), (11, .pointer (some (Addr.add ⟨b1986, 0, none⟩ 0))), (24, w1952), (25, .int .i64 (a0.length : Int)), (26, .int .i64 (x1963 : Int))], [⟨b1986, [str x1974.From, str x1981.1.To, v1995], 76⟩], [⟨v1995, 82, 2, n1996, i1997⟩, ⟨v1964, 76, 3, n1965, i1966⟩], [(ty82.row x1994 i1997), (pureF (x1994.length * ty82.bytes ≤ 140737488355328)), ((Ty.slice ty76).fact a1 [w1953]), (ty76.row x1962 i1966), (pureF (x1962.length * ty76.bytes ≤ 140737488355328)), ((Ty.slice ty76).fact a0 [w1952]), ((Ty.int .i64).fact (x1963 : Int) [.int .i64 (x1963 : Int)]), (Ty.str.fact x1974.From [str x1974.From]), (Ty.str.fact x1981.1.To [str x1981.1.To])]⟩ : St) _
     refine s_tsr ?_
     refine at_lt (lt_fieldAddr 2 rfl fld76_2 rfl) rfl ?_
     refine at_lt (lt_load_box 0 rfl ti74 rfl rfl rfl rfl rfl) rfl ?_
     refine at_rown 0 0 rfl rfl rfl (fun hn2019 => ?_)
     refine at_rowv 0 rfl (fun hv2020 => ?_)
     refine at_lt (lt_rlen rfl hv2020 und74 hn2019) rfl ?_
     refine at_lt (lt_gtr rfl rfl) rfl ?_
     refine s_nt ?_
     replace hr := obind hr
     obtain ⟨x2021, hc2025, hr⟩ := hr
     refine at_cut (V := Value × Nat × (List Value)) (fun e => (⟨[(1, w1953), (6, e.1), (24, w1952), (25, .int .i64 (a0.length : Int)), (26, .int .i64 (x1963 : Int))], [], [⟨e.1, 76, 3, e.2.1, e.2.2⟩], [(ty76.row x2021 e.2.2), (pureF (x2021.length * ty76.bytes ≤ 140737488355328)), ((Ty.slice ty76).fact a1 [w1953]), ((Ty.slice ty76).fact a0 [w1952]), ((Ty.int .i64).fact (x1963 : Int) [.int .i64 (x1963 : Int)])]⟩ : St)) ?_ ?_
     ·clear hr
      have hr := hc2025
      clear hc2025
      by_cases h2026 : 0 < x1994.length
      ·replace hr := ipos h2026 hr
       refine at_true rfl (decide_eq_true (by omega)) ?_
       refine at_region ?_
       refine s_mv rfl ?_
       refine at_lt (lt_load_box 0 rfl ti76 rfl rfl rfl rfl rfl) rfl ?_
       refine at_hv rfl ?_
       refine hv_bslice (cs := [str x1974.From, str x1981.1.To, v1995]) rfl und34 ti76 rfl rfl rfl rfl rfl (fun s2027 => ?_)
       replace hr := imust hr
       obtain ⟨h2028, hr⟩ := hr
       refine at_pure 1 rfl (fun hb2030 => ?_)
       refine at_release 1 0 rfl rfl rfl hb2030 ?_
       refine at_derive [8, 9, 0] (ty76.fact (⟨x1974.From, x1981.1.To, x1994⟩ : D_crosswalk_Entry) [str x1974.From, str x1981.1.To, v1995]) rfl (fun F w h => mk76 (x := (⟨x1974.From, x1981.1.To, x1994⟩ : D_crosswalk_Entry)) h) ?_
       refine at_rown 1 5 rfl rfl rfl (fun hn2031 => ?_)
       refine at_one 1 rfl (fun ho2032 => ?_)
       refine at_hv rfl ?_
       refine hv_append 1 0 rfl rfl rfl rfl und34 ti76 rfl rfl (allc rfl (allc rfl (allc ho2032 rfl))) (by omega) (by omega) rfl (fun s2029 => ?_)
       refine at_rowsnoc 5 0 rfl rfl ?_
       refine s_as rfl ?_
       refine at_nil ?_
       have hq := oinj hr
       clear hr
       subst hq
       refine at_mkpure (q := ((x1962 ++ [(⟨x1974.From, x1981.1.To, x1994⟩ : D_crosswalk_Entry)]).length * ty76.bytes ≤ 140737488355328)) (by simp only [List.length_append, List.length_cons, List.length_nil, ty76_bytes] <;> omega) ?_
       exact at_leaf (s2029, n1965 + 1, i1966 ++ [str x1974.From, str x1981.1.To, v1995]) ⟨⟨rfl, ⟨rfl, ⟨rfl, ⟨rfl, ⟨rfl, trivial⟩⟩⟩⟩⟩, ⟨[false], rfl⟩, ⟨[false, true], rfl⟩, ⟨[1, 0, 6, 9, 10], rfl⟩⟩
      replace hr := ineg h2026 hr
      refine at_false rfl (decide_eq_false (by omega)) ?_
      refine at_skip ?_
      have hq := oinj hr
      clear hr
      subst hq
      exact at_leaf (v1964, n1965, i1966) ⟨⟨rfl, ⟨rfl, ⟨rfl, ⟨rfl, ⟨rfl, trivial⟩⟩⟩⟩⟩, ⟨[false], rfl⟩, ⟨[false, true], rfl⟩, ⟨[3, 4, 2, 5, 6], rfl⟩⟩
     clear hc2025
     intro e
     obtain ⟨v2022, n2023, i2024⟩ := e
     change At _ _ (⟨[(1, w1953), (6, v2022), (24, w1952), (25, .int .i64 (a0.length : Int)), (26, .int .i64 (x1963 : Int))], [], [⟨v2022, 76, 3, n2023, i2024⟩], [(ty76.row x2021 i2024), (pureF (x2021.length * ty76.bytes ≤ 140737488355328)), ((Ty.slice ty76).fact a1 [w1953]), ((Ty.slice ty76).fact a0 [w1952]), ((Ty.int .i64).fact (x1963 : Int) [.int .i64 (x1963 : Int)])]⟩ : St) _
     refine at_in ?_
     refine s_tr ?_
     refine at_lt (lt_add rfl rfl (by simp only [lo, hi]; omega)) rfl ?_
     refine s_mv rfl ?_
     refine at_nil ?_
     refine at_int .i64 (x1963 + 1 : Int) (by simp only [lo, hi]; omega) ?_
     exact at_again (σ := ((List D_crosswalk_Entry) × Nat)) (V := Value × Nat × (List Value)) (lp := fun n s => m26_l1 a0 a1 n s.1 s.2) (S := fun s e => (⟨[(1, w1953), (6, e.1), (24, w1952), (25, .int .i64 (a0.length : Int)), (26, .int .i64 (s.2 : Int))], [], [⟨e.1, 76, 3, e.2.1, e.2.2⟩], [(ty76.row s.1 e.2.2), (pureF (s.1.length * ty76.bytes ≤ 140737488355328)), ((Ty.int .i64).fact (s.2 : Int) [.int .i64 (s.2 : Int)]), ((Ty.slice ty76).fact a1 [w1953]), ((Ty.slice ty76).fact a0 [w1952])]⟩ : St)) (x2021, x1963 + 1) (v2022, n2023, i2024) hr ⟨⟨rfl, ⟨rfl, ⟨rfl, ⟨rfl, ⟨rfl, trivial⟩⟩⟩⟩⟩, ⟨[], rfl⟩, ⟨[true], rfl⟩, ⟨[1, 2, 0, 3, 4], rfl⟩⟩
    replace hr := ineg h1973 hr
    refine at_false rfl (decide_eq_false (by omega)) ?_
    refine at_exit ?_
    refine at_then_exit ?_
    refine at_then_exit ?_
    refine at_in_exit ?_
    have hq := oinj hr
    clear hr
    subst hq
    exact at_leaf (v1964, n1965, i1966) ⟨⟨rfl, trivial⟩, ⟨[], rfl⟩, ⟨[true], rfl⟩, ⟨[0, 1], rfl⟩⟩
   clear hl1971
   intro e
   obtain ⟨v1968, n1969, i1970⟩ := e
   change At _ _ (⟨[(6, v1968)], [], [⟨v1968, 76, 3, n1969, i1970⟩], [(ty76.row x1967 i1970), (pureF (x1967.length * ty76.bytes ≤ 140737488355328))]⟩ : St) _
   refine s_tsr ?_
   refine s_mv rfl ?_
   refine s_as rfl ?_
   refine s_as rfl ?_
   refine s_nt ?_
   refine at_ret ?_
   have hq := oinj hr
   clear hr
   subst hq
   refine at_pure 1 rfl (fun hb2033 => ?_)
   refine at_release 0 0 rfl rfl rfl hb2033 ?_
   refine at_int .i64 0 (by simp only [lo, hi]; omega) ?_
   exact at_return (.tuple #[v1968, .int .i64 0]) [1, 0] hS Tryz.results26 (.cons (.tmp rfl) (.cons (.tmp rfl) .nil)) rfl rfl ⟨v1968, rfl, rfl⟩
  replace hr := ineg h1959 hr
  refine at_true rfl (nf (bf h1959)) ?_
  refine s_sr ?_
  refine s_as rfl ?_
  refine s_as rfl ?_
  refine s_nt ?_
  refine at_ret ?_
  have hq := oinj hr
  clear hr
  subst hq
  refine at_then_ret ?_
  refine at_fnil ty76 none ?_
  refine at_int .i64 1 (by simp only [lo, hi]; omega) ?_
  exact at_return (.tuple #[(.slice none 0 0), .int .i64 1]) [1, 0] hS Tryz.results26 (.cons (.tmp rfl) (.cons (.tmp rfl) .nil)) rfl rfl ⟨((.slice none 0 0)), rfl, rfl⟩
 replace hr := ineg h1956 hr
 refine at_off rfl rfl (nf (bf h1956)) rfl ?_
 refine at_off rfl rfl (nf (bf h1956)) rfl ?_
 refine at_off rfl rfl (nf (bf h1956)) rfl ?_
 refine at_lt (lt_pick true rfl (nf (bf h1956)) rfl) rfl ?_
 refine s_nt ?_
 refine at_true rfl rfl ?_
 refine s_sr ?_
 refine s_as rfl ?_
 refine s_as rfl ?_
 refine s_nt ?_
 refine at_ret ?_
 have hq := oinj hr
 clear hr
 subst hq
 refine at_then_ret ?_
 refine at_fnil ty76 none ?_
 refine at_int .i64 1 (by simp only [lo, hi]; omega) ?_
 exact at_return (.tuple #[(.slice none 0 0), .int .i64 1]) [1, 0] hS Tryz.results26 (.cons (.tmp rfl) (.cons (.tmp rfl) .nil)) rfl rfl ⟨((.slice none 0 0)), rfl, rfl⟩
/-! 5 bookplate/bookplatelaw16.CrosswalkCompose -/
def m5_l2 (a1 : (List D_ref16_Entry)) (x2061 : Nat) : Nat → Nat → Option (Fl (Fl Bool Unit) Unit)
  | 0, _ => none
  | k + 1, x2068 =>
    if x2068 < x2061 then
     (a1[x2061]?).bind fun x2073 =>
     (a1[x2068]?).bind fun x2078 =>
     if x2073.To = x2078.To then
      some (Fl.ret (Fl.ret true))
     else
      if x2068 + 1 ≤ 9223372036854775807 then
       m5_l2 a1 x2061 k (x2068 + 1)
      else none
    else
     some (Fl.go ())
def m5_l1 (a1 : (List D_ref16_Entry)) : Nat → Nat → Option (Fl Bool Unit)
  | 0, _ => none
  | k + 1, x2061 =>
    if x2061 < a1.length then
     (m5_l2 a1 x2061 (x2061 + 1) 0).bind fun r => match r with
     | .ret x => some x
     | .go _ =>
      m5_l1 a1 k (x2061 + 1)
    else
     some (Fl.go ())
def m5 (a0 : (List D_ref16_Entry)) (a1 : (List D_ref16_Entry)) (a2 : D_api_Record) : Option Bool :=
  (m10).bind fun x2040 =>
  if x2040 = true then
   (m11 a0).bind fun x2043 =>
   if x2043 = true then
    (m11 a1).bind fun x2046 =>
    if x2046 = true then
     (m12 (⟨a2.ID, a2.Fields⟩ : D_api_Record) 12).bind fun x2049 =>
     if x2049 = true then
      (m24 a0).bind fun x2052 =>
      if x2052 = true then
       (m24 a1).bind fun x2055 =>
       if x2055 = true then
        (m25 (⟨a2.ID, a2.Fields⟩ : D_api_Record)).bind fun x2058 =>
        if x2058 = true then
         (m5_l1 a1 (a1.length + 1) 0).bind fun r => match r with
         | .ret x => some x
         | .go _ =>
          (m15 a0).bind fun x2085 =>
          (m15 a1).bind fun x2088 =>
          (m26 x2085 x2088).bind fun x2091 =>
          if x2091.2 = 0 then
           (m27 x2091.1).bind fun x2096 =>
           if x2096 = true then
            (m14 x2091.1 (⟨a2.ID, a2.Fields⟩ : D_api_Record)).bind fun x2099 =>
            Option.bind (α := (Int × D_api_Record)) (
             (m15 a0).bind fun x2122 =>
             (m14 x2122 (⟨a2.ID, a2.Fields⟩ : D_api_Record)).bind fun x2125 =>
             some (x2125.2, (⟨x2125.1.ID, x2125.1.Fields⟩ : D_api_Record))
            ) fun (x2116, x2117) =>
            Option.bind (α := (Int × Int × (List D_api_Field))) (
             if x2116 = 0 then
              (m15 a1).bind fun x2152 =>
              (m14 x2152 (⟨x2117.ID, x2117.Fields⟩ : D_api_Record)).bind fun x2155 =>
              some (x2155.2, x2155.1.ID, x2155.1.Fields)
             else
              some (x2116, x2117.ID, x2117.Fields)
            ) fun (x2145, x2146, x2147) =>
            if x2099.2 = x2145 then
             (m18 (⟨x2099.1.ID, x2099.1.Fields⟩ : D_api_Record) (⟨x2146, x2147⟩ : D_api_Record)).bind fun x2167 =>
             some x2167
            else
             some false
           else
            some false
          else
           some false
        else
         some true
       else
        some true
      else
       some true
     else
      some true
    else
     some true
   else
    some true
  else
   some false
def post5 (r : Bool) (v : Value) (fs : List Fact) : Prop := v = .bool r ∧ fs = []
theorem en5 : Enters Tryz.prog 5 := ⟨_, Tryz.func5, by kernel_rfl, rfl⟩
theorem f5_spec {a0 : (List D_ref16_Entry)} {a1 : (List D_ref16_Entry)} {a2 : D_api_Record} {w2035 : Value} {w2036 : Value} {s2037 : Value} {r : Bool} (hr : m5 a0 a1 a2 = some r) : Spec Tryz.prog 5 [w2035, w2036, .agg #[.int .i64 a2.ID, s2037]] [((Ty.slice ty50).fact a0 [w2035]), ((Ty.slice ty50).fact a1 [w2036]), (ty25.fact a2 [.int .i64 a2.ID, s2037]), (utf8F 1 2)] (post5 r) := by
 refine spec_start (N := 112) Tryz.func5 (by kernel_rfl) rfl rfl rfl ?_
 intro g hS
 unfold m5 at hr
 refine at_open (A := Unit) 2 rfl (fun _ => True) (fun _ => [((Ty.int .i64).fact a2.ID [.int .i64 a2.ID]), ((Ty.slice ty69).fact a2.Fields [s2037])]) (fun F w h => ⟨(), trivial, ex25 h⟩) (fun _ _ => ?_)
 refine at_inv 0 rfl (fun l2038 => ?_)
 replace l2038 : (-9223372036854775808) ≤ a2.ID ∧ a2.ID ≤ 9223372036854775807 := l2038
 refine s_sr ?_
 refine at_hv rfl ?_
 refine hv_box (cs := [.int .i64 a2.ID, s2037]) rfl rfl rfl (fun b2039 => ?_)
 refine s_as rfl ?_
 refine s_nt ?_
 refine at_seq ?_
 refine s_sr ?_
 replace hr := obind hr
 obtain ⟨x2040, h2041, hr⟩ := hr
 refine at_hv rfl ?_
 refine hv_call0 [5] (f10_spec h2041) rfl rfl rfl rfl ?_
 rintro _ _ ⟨rfl, rfl⟩
 refine at_lt (lt_not rfl) rfl ?_
 refine s_nt ?_
 by_cases h2042 : x2040 = true
 ·replace hr := ipos h2042 hr
  refine at_false rfl (nt h2042) ?_
  refine at_skip ?_
  refine at_then ?_
  refine at_seq ?_
  refine s_sr ?_
  refine s_mv rfl ?_
  replace hr := obind hr
  obtain ⟨x2043, h2044, hr⟩ := hr
  refine at_hv rfl ?_
  refine hv_call0 [2] (f11_spec h2044) rfl rfl rfl rfl ?_
  rintro _ _ ⟨rfl, rfl⟩
  refine at_lt (lt_not rfl) rfl ?_
  refine s_mv rfl ?_
  by_cases h2045 : x2043 = true
  ·replace hr := ipos h2045 hr
   refine at_on rfl rfl (nt h2045) ?_
   refine s_mv rfl ?_
   replace hr := obind hr
   obtain ⟨x2046, h2047, hr⟩ := hr
   refine at_on rfl rfl (nt h2045) ?_
   refine at_hv rfl ?_
   refine hv_call0 [3] (f11_spec h2047) rfl rfl rfl rfl ?_
   rintro _ _ ⟨rfl, rfl⟩
   refine at_on rfl rfl (nt h2045) ?_
   refine at_lt (lt_not rfl) rfl ?_
   refine at_lt (lt_pick false rfl (nt h2045) rfl) rfl ?_
   refine s_mv rfl ?_
   by_cases h2048 : x2046 = true
   ·replace hr := ipos h2048 hr
    refine at_on rfl rfl (nt h2048) ?_
    refine at_lt (lt_load_box 0 rfl ti25 rfl rfl rfl rfl rfl) rfl ?_
    replace hr := obind hr
    obtain ⟨x2049, h2050, hr⟩ := hr
    refine at_derive [0, 1] (ty25.fact (⟨a2.ID, a2.Fields⟩ : D_api_Record) [.int .i64 a2.ID, s2037]) rfl (fun F w h => mk25 (x := (⟨a2.ID, a2.Fields⟩ : D_api_Record)) h) ?_
    refine at_int .i64 12 (by simp only [lo, hi]; omega) ?_
    refine at_on rfl rfl (nt h2048) ?_
    refine at_hv rfl ?_
    refine hv_call0 [1, 0] (f12_spec h2050) rfl rfl rfl rfl ?_
    rintro _ _ ⟨rfl, rfl⟩
    refine at_on rfl rfl (nt h2048) ?_
    refine at_lt (lt_not rfl) rfl ?_
    refine at_lt (lt_pick false rfl (nt h2048) rfl) rfl ?_
    refine s_mv rfl ?_
    by_cases h2051 : x2049 = true
    ·replace hr := ipos h2051 hr
     refine at_on rfl rfl (nt h2051) ?_
     refine s_mv rfl ?_
     replace hr := obind hr
     obtain ⟨x2052, h2053, hr⟩ := hr
     refine at_on rfl rfl (nt h2051) ?_
     refine at_hv rfl ?_
     refine hv_call0 [4] (f24_spec h2053) rfl rfl rfl rfl ?_
     rintro _ _ ⟨rfl, rfl⟩
     refine at_on rfl rfl (nt h2051) ?_
     refine at_lt (lt_not rfl) rfl ?_
     refine at_lt (lt_pick false rfl (nt h2051) rfl) rfl ?_
     refine s_mv rfl ?_
     by_cases h2054 : x2052 = true
     ·replace hr := ipos h2054 hr
      refine at_on rfl rfl (nt h2054) ?_
      refine s_mv rfl ?_
      replace hr := obind hr
      obtain ⟨x2055, h2056, hr⟩ := hr
      refine at_on rfl rfl (nt h2054) ?_
      refine at_hv rfl ?_
      refine hv_call0 [5] (f24_spec h2056) rfl rfl rfl rfl ?_
      rintro _ _ ⟨rfl, rfl⟩
      refine at_on rfl rfl (nt h2054) ?_
      refine at_lt (lt_not rfl) rfl ?_
      refine at_lt (lt_pick false rfl (nt h2054) rfl) rfl ?_
      refine s_mv rfl ?_
      by_cases h2057 : x2055 = true
      ·replace hr := ipos h2057 hr
       refine at_on rfl rfl (nt h2057) ?_
       refine at_lt (lt_load_box 0 rfl ti25 rfl rfl rfl rfl rfl) rfl ?_
       replace hr := obind hr
       obtain ⟨x2058, h2059, hr⟩ := hr
       refine at_on rfl rfl (nt h2057) ?_
       refine at_hv rfl ?_
       refine hv_call0 [1] (f25_spec h2059) rfl rfl rfl rfl ?_
       rintro _ _ ⟨rfl, rfl⟩
       refine at_on rfl rfl (nt h2057) ?_
       refine at_lt (lt_not rfl) rfl ?_
       refine at_lt (lt_pick false rfl (nt h2057) rfl) rfl ?_
       refine s_nt ?_
       by_cases h2060 : x2058 = true
       ·replace hr := ipos h2060 hr
        refine at_false rfl (nt h2060) ?_
        refine at_skip ?_
        refine at_then ?_
        refine at_seq ?_
        refine s_sr ?_
        refine s_as rfl ?_
        refine s_nt ?_
        refine at_int .i64 0 (by simp only [lo, hi]; omega) ?_
        replace hr := obind hr
        obtain ⟨r2062, hl2063, hk2064⟩ := hr
        refine at_cutP (V := (Unit) × (Unit)) (fun v => r2062 = Fl.go v.1) (fun v => (⟨[(0, w2035), (1, w2036), (5, .pointer (some (Addr.add ⟨b2039, 0, none⟩ 0)))], [⟨b2039, [.int .i64 a2.ID, s2037], 25⟩], [], [((Ty.slice ty50).fact a0 [w2035]), ((Ty.slice ty50).fact a1 [w2036]), ((Ty.int .i64).fact a2.ID [.int .i64 a2.ID]), ((Ty.slice ty69).fact a2.Fields [s2037]), (utf8F 1 2)]⟩ : St)) ?_ ?_
        ·refine at_block ?_
         refine at_loopW (σ := Nat) (V := Unit) (r := r2062) (fun n s => m5_l1 a1 n s) (fun s e => (⟨[(0, w2035), (1, w2036), (5, .pointer (some (Addr.add ⟨b2039, 0, none⟩ 0))), (7, .int .i64 (s : Int))], [⟨b2039, [.int .i64 a2.ID, s2037], 25⟩], [], [((Ty.int .i64).fact (s : Int) [.int .i64 (s : Int)]), ((Ty.slice ty50).fact a0 [w2035]), ((Ty.slice ty50).fact a1 [w2036]), ((Ty.int .i64).fact a2.ID [.int .i64 a2.ID]), ((Ty.slice ty69).fact a2.Fields [s2037]), (utf8F 1 2)]⟩ : St)) (fun _ => rfl) _ 0 () hl2063 ⟨⟨rfl, ⟨rfl, ⟨rfl, ⟨rfl, trivial⟩⟩⟩⟩, ⟨[true], rfl⟩, ⟨[], rfl⟩, ⟨[0, 5, 6, 3, 4, 8], rfl⟩⟩ ?_
         clear hl2063
         intro n x2061 hr e
         skip
         skip
         change m5_l1 a1 (n + 1) x2061 = some r2062 at hr
         change At _ _ (⟨[(0, w2035), (1, w2036), (5, .pointer (some (Addr.add ⟨b2039, 0, none⟩ 0))), (7, .int .i64 (x2061 : Int))], [⟨b2039, [.int .i64 a2.ID, s2037], 25⟩], [], [((Ty.int .i64).fact (x2061 : Int) [.int .i64 (x2061 : Int)]), ((Ty.slice ty50).fact a0 [w2035]), ((Ty.slice ty50).fact a1 [w2036]), ((Ty.int .i64).fact a2.ID [.int .i64 a2.ID]), ((Ty.slice ty69).fact a2.Fields [s2037]), (utf8F 1 2)]⟩ : St) _
         rw [m5_l1] at hr
         refine at_seq ?_
         refine s_sr ?_
         refine s_mv rfl ?_
         refine s_mv rfl ?_
         refine at_inv 2 rfl (fun i2065 => ?_)
         have l2066 := slice_len i2065
         refine at_lt (lt_flen 2 rfl rfl und22) rfl ?_
         refine at_lt (lt_lss rfl rfl) rfl ?_
         refine s_nt ?_
         by_cases h2067 : x2061 < a1.length
         ·replace hr := ipos h2067 hr
          refine at_true rfl (decide_eq_true (by omega)) ?_
          refine at_skip ?_
          refine at_then ?_
          refine at_seq ?_
          refine at_block ?_
          refine s_sr ?_
          refine s_as rfl ?_
          refine s_nt ?_
          refine at_int .i64 0 (by simp only [lo, hi]; omega) ?_
          replace hr := obind hr
          obtain ⟨r2069, hl2070, hk2071⟩ := hr
          refine at_cutP (V := (Unit) × (Unit)) (fun v => r2069 = Fl.go v.1) (fun v => (⟨[(0, w2035), (1, w2036), (5, .pointer (some (Addr.add ⟨b2039, 0, none⟩ 0))), (7, .int .i64 (x2061 : Int))], [⟨b2039, [.int .i64 a2.ID, s2037], 25⟩], [], [((Ty.slice ty50).fact a0 [w2035]), ((Ty.slice ty50).fact a1 [w2036]), ((Ty.int .i64).fact (x2061 : Int) [.int .i64 (x2061 : Int)]), ((Ty.int .i64).fact a2.ID [.int .i64 a2.ID]), ((Ty.slice ty69).fact a2.Fields [s2037]), (utf8F 1 2)]⟩ : St)) ?_ ?_
          ·refine at_block ?_
           refine at_loopW (σ := Nat) (V := Unit) (r := r2069) (fun n s => m5_l2 a1 x2061 n s) (fun s e => (⟨[(0, w2035), (1, w2036), (5, .pointer (some (Addr.add ⟨b2039, 0, none⟩ 0))), (7, .int .i64 (x2061 : Int)), (8, .int .i64 (s : Int))], [⟨b2039, [.int .i64 a2.ID, s2037], 25⟩], [], [((Ty.int .i64).fact (s : Int) [.int .i64 (s : Int)]), ((Ty.slice ty50).fact a0 [w2035]), ((Ty.slice ty50).fact a1 [w2036]), ((Ty.int .i64).fact (x2061 : Int) [.int .i64 (x2061 : Int)]), ((Ty.int .i64).fact a2.ID [.int .i64 a2.ID]), ((Ty.slice ty69).fact a2.Fields [s2037]), (utf8F 1 2)]⟩ : St)) (fun _ => rfl) _ 0 () hl2070 ⟨⟨rfl, ⟨rfl, ⟨rfl, ⟨rfl, ⟨rfl, trivial⟩⟩⟩⟩⟩, ⟨[true], rfl⟩, ⟨[], rfl⟩, ⟨[0, 2, 3, 1, 4, 5, 6], rfl⟩⟩ ?_
           clear hl2070
           intro n x2068 hr e
           skip
           skip
           change m5_l2 a1 x2061 (n + 1) x2068 = some r2069 at hr
           change At _ _ (⟨[(0, w2035), (1, w2036), (5, .pointer (some (Addr.add ⟨b2039, 0, none⟩ 0))), (7, .int .i64 (x2061 : Int)), (8, .int .i64 (x2068 : Int))], [⟨b2039, [.int .i64 a2.ID, s2037], 25⟩], [], [((Ty.int .i64).fact (x2068 : Int) [.int .i64 (x2068 : Int)]), ((Ty.slice ty50).fact a0 [w2035]), ((Ty.slice ty50).fact a1 [w2036]), ((Ty.int .i64).fact (x2061 : Int) [.int .i64 (x2061 : Int)]), ((Ty.int .i64).fact a2.ID [.int .i64 a2.ID]), ((Ty.slice ty69).fact a2.Fields [s2037]), (utf8F 1 2)]⟩ : St) _
           rw [m5_l2] at hr
           refine at_seq ?_
           refine s_sr ?_
           refine s_mv rfl ?_
           refine s_mv rfl ?_
           refine at_lt (lt_lss rfl rfl) rfl ?_
           refine s_nt ?_
           by_cases h2072 : x2068 < x2061
           ·replace hr := ipos h2072 hr
            refine at_true rfl (decide_eq_true (by omega)) ?_
            refine at_skip ?_
            refine at_then ?_
            refine at_seq ?_
            refine at_block ?_
            refine at_seq ?_
            replace hr := obind hr
            obtain ⟨x2073, h2074, hr⟩ := hr
            have := (List.getElem?_eq_some_iff.1 h2074).1
            refine at_elem 2 rfl (nat_at' h2074) (fun p2076 ec pa2077 => ?_)
            refine at_open (A := Value) 0 rfl _ _ (fun F w h => op50 h) ?_
            rintro s2075 rfl
            replace hr := obind hr
            obtain ⟨x2078, h2079, hr⟩ := hr
            have := (List.getElem?_eq_some_iff.1 h2079).1
            refine at_elem 7 rfl (nat_at' h2079) (fun p2081 ec pa2082 => ?_)
            refine at_open (A := Value) 0 rfl _ _ (fun F w h => op50 h) ?_
            rintro s2080 rfl
            refine aa_start 11 (by kernel_rfl) ?_
            refine aa_p 0 rfl (lt_move rfl) ?_
            refine aa_p 1 rfl (lt_move rfl) ?_
            refine aa_p 2 rfl (lt_idx rfl rfl pa2077 und22 ti50) ?_
            refine aa_p 3 rfl (lt_fieldAddr 1 rfl fld50_1 rfl) ?_
            refine aa_l 4 rfl (lt_load_peek 9 rfl ti9 rfl rfl rfl rfl rfl) ?_
            refine aa_p 5 rfl (lt_move rfl) ?_
            refine aa_p 6 rfl (lt_move rfl) ?_
            refine aa_p 7 rfl (lt_idx rfl rfl pa2082 und22 ti50) ?_
            refine aa_p 8 rfl (lt_fieldAddr 1 rfl fld50_1 rfl) ?_
            refine aa_l 9 rfl (lt_load_peek 4 rfl ti9 rfl rfl rfl rfl rfl) ?_
            refine aa_p 10 rfl (lt_seql rfl rfl) ?_
            refine aa_done (by kernel_rfl) (ts_in 0 0 rfl rfl) ?_
            refine at_then ?_
            by_cases h2083 : x2073.To = x2078.To
            ·replace hr := ipos h2083 hr
             refine at_true rfl (decide_eq_true h2083) ?_
             refine s_sr ?_
             refine s_as rfl ?_
             refine s_nt ?_
             refine at_ret ?_
             have hq := oinj hr
             clear hr
             subst hq
             have hq := oinj hk2071
             clear hk2071
             subst hq
             have hq := oinj hk2064
             clear hk2064
             subst hq
             refine at_in_ret ?_
             refine at_then_ret ?_
             refine at_then_ret ?_
             refine at_in_ret ?_
             refine at_then_ret ?_
             refine at_in_ret ?_
             refine at_then_ret ?_
             refine at_then_ret ?_
             refine at_in_ret ?_
             refine at_then_ret ?_
             refine at_then_ret ?_
             exact at_return (.bool true) [] hS Tryz.results5 (.cons (.tmp rfl) .nil) rfl rfl ⟨rfl, rfl⟩
            replace hr := ineg h2083 hr
            refine at_false rfl (decide_eq_false h2083) ?_
            refine at_skip ?_
            refine at_in ?_
            refine s_tr ?_
            refine s_mv rfl ?_
            replace hr := imust hr
            obtain ⟨h2084, hr⟩ := hr
            refine at_lt (lt_add rfl rfl (by simp only [lo, hi]; omega)) rfl ?_
            refine s_as rfl ?_
            refine at_nil ?_
            refine at_int .i64 (x2068 + 1 : Int) (by simp only [lo, hi]; omega) ?_
            exact at_again (σ := Nat) (V := Unit) (lp := fun n s => m5_l2 a1 x2061 n s) (S := fun s e => (⟨[(0, w2035), (1, w2036), (5, .pointer (some (Addr.add ⟨b2039, 0, none⟩ 0))), (7, .int .i64 (x2061 : Int)), (8, .int .i64 (s : Int))], [⟨b2039, [.int .i64 a2.ID, s2037], 25⟩], [], [((Ty.int .i64).fact (s : Int) [.int .i64 (s : Int)]), ((Ty.slice ty50).fact a0 [w2035]), ((Ty.slice ty50).fact a1 [w2036]), ((Ty.int .i64).fact (x2061 : Int) [.int .i64 (x2061 : Int)]), ((Ty.int .i64).fact a2.ID [.int .i64 a2.ID]), ((Ty.slice ty69).fact a2.Fields [s2037]), (utf8F 1 2)]⟩ : St)) (x2068 + 1) () hr ⟨⟨rfl, ⟨rfl, ⟨rfl, ⟨rfl, ⟨rfl, trivial⟩⟩⟩⟩⟩, ⟨[true], rfl⟩, ⟨[], rfl⟩, ⟨[0, 12, 13, 14, 15, 16, 17], rfl⟩⟩
           replace hr := ineg h2072 hr
           refine at_false rfl (decide_eq_false (by omega)) ?_
           refine at_exit ?_
           refine at_then_exit ?_
           refine at_then_exit ?_
           refine at_in_exit ?_
           have hq := oinj hr
           clear hr
           subst hq
           exact at_leafP ((), ()) rfl ⟨⟨rfl, ⟨rfl, ⟨rfl, ⟨rfl, trivial⟩⟩⟩⟩, ⟨[true], rfl⟩, ⟨[], rfl⟩, ⟨[1, 2, 3, 4, 5, 6], rfl⟩⟩
          rintro ⟨_, _⟩ hp
          replace hr := hk2071
          subst hp
          clear hl2070
          change At _ _ (⟨[(0, w2035), (1, w2036), (5, .pointer (some (Addr.add ⟨b2039, 0, none⟩ 0))), (7, .int .i64 (x2061 : Int))], [⟨b2039, [.int .i64 a2.ID, s2037], 25⟩], [], [((Ty.slice ty50).fact a0 [w2035]), ((Ty.slice ty50).fact a1 [w2036]), ((Ty.int .i64).fact (x2061 : Int) [.int .i64 (x2061 : Int)]), ((Ty.int .i64).fact a2.ID [.int .i64 a2.ID]), ((Ty.slice ty69).fact a2.Fields [s2037]), (utf8F 1 2)]⟩ : St) _
          refine at_in ?_
          refine s_tr ?_
          refine s_mv rfl ?_
          refine at_lt (lt_add rfl rfl (by simp only [lo, hi]; omega)) rfl ?_
          refine s_as rfl ?_
          refine at_nil ?_
          refine at_int .i64 (x2061 + 1 : Int) (by simp only [lo, hi]; omega) ?_
          exact at_again (σ := Nat) (V := Unit) (lp := fun n s => m5_l1 a1 n s) (S := fun s e => (⟨[(0, w2035), (1, w2036), (5, .pointer (some (Addr.add ⟨b2039, 0, none⟩ 0))), (7, .int .i64 (s : Int))], [⟨b2039, [.int .i64 a2.ID, s2037], 25⟩], [], [((Ty.int .i64).fact (s : Int) [.int .i64 (s : Int)]), ((Ty.slice ty50).fact a0 [w2035]), ((Ty.slice ty50).fact a1 [w2036]), ((Ty.int .i64).fact a2.ID [.int .i64 a2.ID]), ((Ty.slice ty69).fact a2.Fields [s2037]), (utf8F 1 2)]⟩ : St)) (x2061 + 1) () hr ⟨⟨rfl, ⟨rfl, ⟨rfl, ⟨rfl, trivial⟩⟩⟩⟩, ⟨[true], rfl⟩, ⟨[], rfl⟩, ⟨[0, 1, 2, 4, 5, 6], rfl⟩⟩
         replace hr := ineg h2067 hr
         refine at_false rfl (decide_eq_false (by omega)) ?_
         refine at_exit ?_
         refine at_then_exit ?_
         refine at_then_exit ?_
         refine at_in_exit ?_
         have hq := oinj hr
         clear hr
         subst hq
         exact at_leafP ((), ()) rfl ⟨⟨rfl, ⟨rfl, ⟨rfl, trivial⟩⟩⟩, ⟨[true], rfl⟩, ⟨[], rfl⟩, ⟨[1, 2, 3, 4, 5], rfl⟩⟩
        rintro ⟨_, _⟩ hp
        replace hr := hk2064
        subst hp
        clear hl2063
        change At _ _ (⟨[(0, w2035), (1, w2036), (5, .pointer (some (Addr.add ⟨b2039, 0, none⟩ 0)))], [⟨b2039, [.int .i64 a2.ID, s2037], 25⟩], [], [((Ty.slice ty50).fact a0 [w2035]), ((Ty.slice ty50).fact a1 [w2036]), ((Ty.int .i64).fact a2.ID [.int .i64 a2.ID]), ((Ty.slice ty69).fact a2.Fields [s2037]), (utf8F 1 2)]⟩ : St) _
        refine s_tsr ?_
        refine s_mv rfl ?_
        replace hr := obind hr
        obtain ⟨x2085, h2086, hr⟩ := hr
        refine at_hv rfl ?_
        refine hv_call0 [0] (f15_spec h2086) rfl rfl rfl rfl ?_
        rintro s2087 _ ⟨_, rfl, rfl⟩
        refine s_mv rfl ?_
        replace hr := obind hr
        obtain ⟨x2088, h2089, hr⟩ := hr
        refine at_hv rfl ?_
        refine hv_call0 [2] (f15_spec h2089) rfl rfl rfl rfl ?_
        rintro s2090 _ ⟨_, rfl, rfl⟩
        replace hr := obind hr
        obtain ⟨x2091, h2092, hr⟩ := hr
        refine at_hv rfl ?_
        refine hv_call0 [1, 0] (f26_spec h2092) rfl rfl rfl rfl ?_
        rintro _ _ ⟨s2093, rfl, rfl⟩
        refine at_inv 1 rfl (fun l2094 => ?_)
        replace l2094 : (-9223372036854775808) ≤ x2091.2 ∧ x2091.2 ≤ 9223372036854775807 := l2094
        refine s_mv rfl ?_
        refine at_lt (lt_extract rfl rfl) rfl ?_
        refine at_lt (lt_extract rfl rfl) rfl ?_
        refine s_as rfl ?_
        refine s_as rfl ?_
        refine s_nt ?_
        refine at_seq ?_
        refine s_sr ?_
        refine s_mv rfl ?_
        refine at_lt (lt_neq rfl rfl) rfl ?_
        refine s_mv rfl ?_
        by_cases h2095 : x2091.2 = 0
        ·replace hr := ipos h2095 hr
         refine at_on rfl rfl (nt (decide_eq_true (by first | exact h2095 | omega))) ?_
         refine s_mv rfl ?_
         replace hr := obind hr
         obtain ⟨x2096, h2097, hr⟩ := hr
         refine at_on rfl rfl (nt (decide_eq_true (by first | exact h2095 | omega))) ?_
         refine at_hv rfl ?_
         refine hv_call0 [0] (f27_spec h2097) rfl rfl rfl rfl ?_
         rintro _ _ ⟨rfl, rfl⟩
         refine at_on rfl rfl (nt (decide_eq_true (by first | exact h2095 | omega))) ?_
         refine at_lt (lt_not rfl) rfl ?_
         refine at_lt (lt_pick false rfl (nt (decide_eq_true (by first | exact h2095 | omega))) rfl) rfl ?_
         refine s_nt ?_
         by_cases h2098 : x2096 = true
         ·replace hr := ipos h2098 hr
          refine at_false rfl (nt h2098) ?_
          refine at_skip ?_
          refine s_tsr ?_
          refine s_mv rfl ?_
          refine at_lt (lt_load_box 0 rfl ti25 rfl rfl rfl rfl rfl) rfl ?_
          replace hr := obind hr
          obtain ⟨x2099, h2100, hr⟩ := hr
          refine at_derive [6, 7] (ty25.fact (⟨a2.ID, a2.Fields⟩ : D_api_Record) [.int .i64 a2.ID, s2037]) rfl (fun F w h => mk25 (x := (⟨a2.ID, a2.Fields⟩ : D_api_Record)) h) ?_
          refine at_hv rfl ?_
          refine hv_call0 [1, 0, 9] (f14_spec h2100) rfl rfl rfl rfl ?_
          rintro _ _ ⟨s2101, rfl, rfl⟩
          refine at_open (A := Unit) 0 rfl (fun _ => True) (fun _ => [((Ty.int .i64).fact x2099.1.ID [.int .i64 x2099.1.ID]), ((Ty.slice ty69).fact x2099.1.Fields [s2101])]) (fun F w h => ⟨(), trivial, ex25 h⟩) (fun _ _ => ?_)
          refine at_inv 0 rfl (fun l2102 => ?_)
          replace l2102 : (-9223372036854775808) ≤ x2099.1.ID ∧ x2099.1.ID ≤ 9223372036854775807 := l2102
          refine at_inv 3 rfl (fun l2103 => ?_)
          replace l2103 : (-9223372036854775808) ≤ x2099.2 ∧ x2099.2 ≤ 9223372036854775807 := l2103
          refine s_mv rfl ?_
          refine at_lt (lt_extract rfl rfl) rfl ?_
          refine at_lt (lt_extract rfl rfl) rfl ?_
          refine at_hv rfl ?_
          refine hv_alloc (cs := [.int .i64 0, (.slice none 0 0)]) ti25 rfl rfl (fun b2104 => ?_)
          refine at_one 1 rfl (fun ho2105 => ?_)
          refine at_hv rfl ?_
          refine hv_store_box 0 (cs' := [.int .i64 x2099.1.ID, s2101]) rfl rfl ti25 rfl rfl rfl rfl (allc rfl (allc ho2105 rfl)) ?_
          refine s_as rfl ?_
          refine s_nt ?_
          refine at_seq ?_
          replace hr := obind hr
          obtain ⟨r2120, hc2121, hr⟩ := hr
          refine at_cut (V := Value × Nat) (fun e => (⟨[(1, w2036), (11, .pointer (some (Addr.add ⟨b2104, 0, none⟩ 0))), (12, .int .i64 x2099.2), (13, .pointer (some (Addr.add ⟨e.2, 0, none⟩ 0))), (14, .int .i64 r2120.1)], [⟨e.2, [.int .i64 r2120.2.ID, e.1], 25⟩, ⟨b2104, [.int .i64 x2099.1.ID, s2101], 25⟩], [], [((Ty.int .i64).fact r2120.1 [.int .i64 r2120.1]), ((Ty.int .i64).fact r2120.2.ID [.int .i64 r2120.2.ID]), ((Ty.slice ty69).fact r2120.2.Fields [e.1]), ((Ty.slice ty50).fact a1 [w2036]), ((Ty.int .i64).fact x2099.2 [.int .i64 x2099.2]), ((Ty.int .i64).fact x2099.1.ID [.int .i64 x2099.1.ID]), ((Ty.slice ty69).fact x2099.1.Fields [s2101]), (utf8F 1 2)]⟩ : St)) ?_ ?_
          ·clear hr
           have hr := hc2121
           clear hc2121
           replace hr := obind hr
           obtain ⟨x2122, h2123, hr⟩ := hr
           replace hr := obind hr
           obtain ⟨x2125, h2126, hr⟩ := hr
           refine aa_start 10 (by kernel_rfl) ?_
           refine aa_p 0 rfl (lt_move rfl) ?_
           refine aa_l 2 rfl (lt_load_box 1 rfl ti25 rfl rfl rfl rfl rfl) ?_
           refine aa_all (rs := [1, 7]) (by kernel_rfl) rfl (ts_in 0 0 rfl rfl) (List.forall_mem_cons.2 ⟨?_, (List.forall_mem_singleton.2 ?_)⟩)
           ·refine aa_op rfl rfl ?_
            refine hv_call0 [9] (f15_spec h2123) rfl rfl rfl rfl ?_
            rintro s2124 _ ⟨_, rfl, rfl⟩
            refine aa_all (rs := [3, 7]) (by kernel_rfl) rfl (ts_in 0 1 rfl rfl) (List.forall_mem_cons.2 ⟨?_, (List.forall_mem_singleton.2 ?_)⟩)
            ·refine aa_op rfl rfl ?_
             refine hv_call0 [0, 5, 14] (f14_spec h2126) rfl rfl rfl rfl ?_
             rintro _ _ ⟨s2127, rfl, rfl⟩
             refine at_open (A := Unit) 0 rfl (fun _ => True) (fun _ => [((Ty.int .i64).fact x2125.1.ID [.int .i64 x2125.1.ID]), ((Ty.slice ty69).fact x2125.1.Fields [s2127])]) (fun F w h => ⟨(), trivial, ex25 h⟩) (fun _ _ => ?_)
             refine at_inv 0 rfl (fun l2132 => ?_)
             replace l2132 : (-9223372036854775808) ≤ x2125.1.ID ∧ x2125.1.ID ≤ 9223372036854775807 := l2132
             refine at_inv 3 rfl (fun l2133 => ?_)
             replace l2133 : (-9223372036854775808) ≤ x2125.2 ∧ x2125.2 ≤ 9223372036854775807 := l2133
             refine aa_pure 4 rfl (by kernel_rfl) rfl rfl (lt_move rfl) rfl (ts_in 0 5 rfl rfl) ?_
             refine aa_pure 5 rfl (by kernel_rfl) rfl rfl (lt_extract rfl rfl) rfl (ts_in 0 5 rfl rfl) ?_
             refine aa_pure 6 rfl (by kernel_rfl) rfl rfl (lt_extract rfl rfl) rfl (ts_in 0 5 rfl rfl) ?_
             refine aa_all (rs := [7]) (by kernel_rfl) rfl (ts_in 0 5 rfl rfl) (List.forall_mem_singleton.2 ?_)
             refine aa_op rfl rfl ?_
             refine hv_alloc (cs := [.int .i64 0, (.slice none 0 0)]) ti25 rfl rfl (fun b2134 => ?_)
             refine aa_all (rs := [8]) (by kernel_rfl) rfl (ts_in 1 5 rfl rfl) (List.forall_mem_singleton.2 ?_)
             refine at_one 1 rfl (fun ho2135 => ?_)
             refine aa_op rfl rfl ?_
             refine hv_store_box 0 (cs' := [.int .i64 x2125.1.ID, s2127]) rfl rfl ti25 rfl rfl rfl rfl (allc rfl (allc ho2135 rfl)) ?_
             refine aa_pure 9 rfl (by kernel_rfl) rfl rfl (lt_assign rfl) rfl (ts_in 1 5 rfl rfl) ?_
             refine aa_done (by kernel_rfl) (ts_in 1 5 rfl rfl) ?_
             have hq := oinj hr
             clear hr
             subst hq
             exact at_leaf (s2127, b2134) ⟨⟨rfl, ⟨rfl, ⟨rfl, ⟨rfl, ⟨rfl, trivial⟩⟩⟩⟩⟩, ⟨[true, true, false], rfl⟩, ⟨[], rfl⟩, ⟨[3, 0, 1, 15, 8, 5, 6, 18], rfl⟩⟩
            ·refine aa_op rfl rfl ?_
             refine hv_alloc (cs := [.int .i64 0, (.slice none 0 0)]) ti25 rfl rfl (fun b2136 => ?_)
             refine aa_all (rs := [3]) (by kernel_rfl) rfl (ts_in 1 1 rfl rfl) (List.forall_mem_singleton.2 ?_)
             refine aa_op rfl rfl ?_
             refine hv_call0 [0, 5, 14] (f14_spec h2126) rfl rfl rfl rfl ?_
             rintro _ _ ⟨s2127, rfl, rfl⟩
             refine at_open (A := Unit) 0 rfl (fun _ => True) (fun _ => [((Ty.int .i64).fact x2125.1.ID [.int .i64 x2125.1.ID]), ((Ty.slice ty69).fact x2125.1.Fields [s2127])]) (fun F w h => ⟨(), trivial, ex25 h⟩) (fun _ _ => ?_)
             refine at_inv 0 rfl (fun l2137 => ?_)
             replace l2137 : (-9223372036854775808) ≤ x2125.1.ID ∧ x2125.1.ID ≤ 9223372036854775807 := l2137
             refine at_inv 3 rfl (fun l2138 => ?_)
             replace l2138 : (-9223372036854775808) ≤ x2125.2 ∧ x2125.2 ≤ 9223372036854775807 := l2138
             refine aa_pure 4 rfl (by kernel_rfl) rfl rfl (lt_move rfl) rfl (ts_in 1 5 rfl rfl) ?_
             refine aa_pure 5 rfl (by kernel_rfl) rfl rfl (lt_extract rfl rfl) rfl (ts_in 1 5 rfl rfl) ?_
             refine aa_pure 6 rfl (by kernel_rfl) rfl rfl (lt_extract rfl rfl) rfl (ts_in 1 5 rfl rfl) ?_
             refine aa_all (rs := [8]) (by kernel_rfl) rfl (ts_in 1 5 rfl rfl) (List.forall_mem_singleton.2 ?_)
             refine at_one 1 rfl (fun ho2139 => ?_)
             refine aa_op rfl rfl ?_
             refine hv_store_box 0 (cs' := [.int .i64 x2125.1.ID, s2127]) rfl rfl ti25 rfl rfl rfl rfl (allc rfl (allc ho2139 rfl)) ?_
             refine aa_pure 9 rfl (by kernel_rfl) rfl rfl (lt_assign rfl) rfl (ts_in 1 5 rfl rfl) ?_
             refine aa_done (by kernel_rfl) (ts_in 1 5 rfl rfl) ?_
             have hq := oinj hr
             clear hr
             subst hq
             exact at_leaf (s2127, b2136) ⟨⟨rfl, ⟨rfl, ⟨rfl, ⟨rfl, ⟨rfl, trivial⟩⟩⟩⟩⟩, ⟨[true, true, false], rfl⟩, ⟨[], rfl⟩, ⟨[3, 0, 1, 15, 8, 5, 6, 18], rfl⟩⟩
           ·refine aa_op rfl rfl ?_
            refine hv_alloc (cs := [.int .i64 0, (.slice none 0 0)]) ti25 rfl rfl (fun b2140 => ?_)
            refine aa_all (rs := [1]) (by kernel_rfl) rfl (ts_in 1 0 rfl rfl) (List.forall_mem_singleton.2 ?_)
            refine aa_op rfl rfl ?_
            refine hv_call0 [9] (f15_spec h2123) rfl rfl rfl rfl ?_
            rintro s2124 _ ⟨_, rfl, rfl⟩
            refine aa_all (rs := [3]) (by kernel_rfl) rfl (ts_in 1 1 rfl rfl) (List.forall_mem_singleton.2 ?_)
            refine aa_op rfl rfl ?_
            refine hv_call0 [0, 5, 14] (f14_spec h2126) rfl rfl rfl rfl ?_
            rintro _ _ ⟨s2127, rfl, rfl⟩
            refine at_open (A := Unit) 0 rfl (fun _ => True) (fun _ => [((Ty.int .i64).fact x2125.1.ID [.int .i64 x2125.1.ID]), ((Ty.slice ty69).fact x2125.1.Fields [s2127])]) (fun F w h => ⟨(), trivial, ex25 h⟩) (fun _ _ => ?_)
            refine at_inv 0 rfl (fun l2141 => ?_)
            replace l2141 : (-9223372036854775808) ≤ x2125.1.ID ∧ x2125.1.ID ≤ 9223372036854775807 := l2141
            refine at_inv 3 rfl (fun l2142 => ?_)
            replace l2142 : (-9223372036854775808) ≤ x2125.2 ∧ x2125.2 ≤ 9223372036854775807 := l2142
            refine aa_pure 4 rfl (by kernel_rfl) rfl rfl (lt_move rfl) rfl (ts_in 1 5 rfl rfl) ?_
            refine aa_pure 5 rfl (by kernel_rfl) rfl rfl (lt_extract rfl rfl) rfl (ts_in 1 5 rfl rfl) ?_
            refine aa_pure 6 rfl (by kernel_rfl) rfl rfl (lt_extract rfl rfl) rfl (ts_in 1 5 rfl rfl) ?_
            refine aa_all (rs := [8]) (by kernel_rfl) rfl (ts_in 1 5 rfl rfl) (List.forall_mem_singleton.2 ?_)
            refine at_one 1 rfl (fun ho2143 => ?_)
            refine aa_op rfl rfl ?_
            refine hv_store_box 0 (cs' := [.int .i64 x2125.1.ID, s2127]) rfl rfl ti25 rfl rfl rfl rfl (allc rfl (allc ho2143 rfl)) ?_
            refine aa_pure 9 rfl (by kernel_rfl) rfl rfl (lt_assign rfl) rfl (ts_in 1 5 rfl rfl) ?_
            refine aa_done (by kernel_rfl) (ts_in 1 5 rfl rfl) ?_
            have hq := oinj hr
            clear hr
            subst hq
            exact at_leaf (s2127, b2140) ⟨⟨rfl, ⟨rfl, ⟨rfl, ⟨rfl, ⟨rfl, trivial⟩⟩⟩⟩⟩, ⟨[true, true, false], rfl⟩, ⟨[], rfl⟩, ⟨[3, 0, 1, 15, 8, 5, 6, 18], rfl⟩⟩
          clear hc2121
          obtain ⟨x2116, x2117⟩ := r2120
          intro e
          obtain ⟨v2118, n2119⟩ := e
          change At _ _ (⟨[(1, w2036), (11, .pointer (some (Addr.add ⟨b2104, 0, none⟩ 0))), (12, .int .i64 x2099.2), (13, .pointer (some (Addr.add ⟨n2119, 0, none⟩ 0))), (14, .int .i64 x2116)], [⟨n2119, [.int .i64 x2117.ID, v2118], 25⟩, ⟨b2104, [.int .i64 x2099.1.ID, s2101], 25⟩], [], [((Ty.int .i64).fact x2116 [.int .i64 x2116]), ((Ty.int .i64).fact x2117.ID [.int .i64 x2117.ID]), ((Ty.slice ty69).fact x2117.Fields [v2118]), ((Ty.slice ty50).fact a1 [w2036]), ((Ty.int .i64).fact x2099.2 [.int .i64 x2099.2]), ((Ty.int .i64).fact x2099.1.ID [.int .i64 x2099.1.ID]), ((Ty.slice ty69).fact x2099.1.Fields [s2101]), (utf8F 1 2)]⟩ : St) _
          refine at_inv 0 rfl (fun l2144 => ?_)
          replace l2144 : (-9223372036854775808) ≤ x2116 ∧ x2116 ≤ 9223372036854775807 := l2144
          refine at_then ?_
          refine at_seq ?_
          refine s_sr ?_
          refine s_mv rfl ?_
          refine at_lt (lt_eql rfl rfl) rfl ?_
          refine s_nt ?_
          replace hr := obind hr
          obtain ⟨r2149, hc2150, hr⟩ := hr
          refine at_cut (V := Value) (fun e => (⟨[(11, .pointer (some (Addr.add ⟨b2104, 0, none⟩ 0))), (12, .int .i64 x2099.2), (13, .pointer (some (Addr.add ⟨n2119, 0, none⟩ 0))), (14, .int .i64 r2149.1)], [⟨n2119, [.int .i64 r2149.2.1, e], 25⟩, ⟨b2104, [.int .i64 x2099.1.ID, s2101], 25⟩], [], [((Ty.int .i64).fact r2149.1 [.int .i64 r2149.1]), ((Ty.int .i64).fact r2149.2.1 [.int .i64 r2149.2.1]), ((Ty.slice ty69).fact r2149.2.2 [e]), ((Ty.int .i64).fact x2099.2 [.int .i64 x2099.2]), ((Ty.int .i64).fact x2099.1.ID [.int .i64 x2099.1.ID]), ((Ty.slice ty69).fact x2099.1.Fields [s2101]), (utf8F 1 2)]⟩ : St)) ?_ ?_
          ·clear hr
           have hr := hc2150
           clear hc2150
           by_cases h2151 : x2116 = 0
           ·replace hr := ipos h2151 hr
            refine at_true rfl (decide_eq_true (by first | exact h2151 | omega)) ?_
            replace hr := obind hr
            obtain ⟨x2152, h2153, hr⟩ := hr
            replace hr := obind hr
            obtain ⟨x2155, h2156, hr⟩ := hr
            refine aa_start 7 (by kernel_rfl) ?_
            refine aa_p 0 rfl (lt_move rfl) ?_
            refine aa_l 2 rfl (lt_load_box 0 rfl ti25 rfl rfl rfl rfl rfl) ?_
            refine aa_one 1 ?_
            refine aa_op rfl rfl ?_
            refine hv_call0 [3] (f15_spec h2153) rfl rfl rfl rfl ?_
            rintro s2154 _ ⟨_, rfl, rfl⟩
            refine aa_all (rs := [3]) (by kernel_rfl) rfl (ts_in 0 1 rfl rfl) (List.forall_mem_singleton.2 ?_)
            refine at_derive [2, 3] (ty25.fact (⟨x2117.ID, x2117.Fields⟩ : D_api_Record) [.int .i64 x2117.ID, v2118]) rfl (fun F w h => mk25 (x := (⟨x2117.ID, x2117.Fields⟩ : D_api_Record)) h) ?_
            refine aa_op rfl rfl ?_
            refine hv_call0 [1, 0, 9] (f14_spec h2156) rfl rfl rfl rfl ?_
            rintro _ _ ⟨s2157, rfl, rfl⟩
            refine at_open (A := Unit) 0 rfl (fun _ => True) (fun _ => [((Ty.int .i64).fact x2155.1.ID [.int .i64 x2155.1.ID]), ((Ty.slice ty69).fact x2155.1.Fields [s2157])]) (fun F w h => ⟨(), trivial, ex25 h⟩) (fun _ _ => ?_)
            refine at_inv 0 rfl (fun l2161 => ?_)
            replace l2161 : (-9223372036854775808) ≤ x2155.1.ID ∧ x2155.1.ID ≤ 9223372036854775807 := l2161
            refine at_inv 3 rfl (fun l2162 => ?_)
            replace l2162 : (-9223372036854775808) ≤ x2155.2 ∧ x2155.2 ≤ 9223372036854775807 := l2162
            refine aa_pure 4 rfl (by kernel_rfl) rfl rfl (lt_move rfl) rfl (ts_in 0 6 rfl rfl) ?_
            refine aa_pure 5 rfl (by kernel_rfl) rfl rfl (lt_extract rfl rfl) rfl (ts_in 0 6 rfl rfl) ?_
            refine aa_pure 6 rfl (by kernel_rfl) rfl rfl (lt_extract rfl rfl) rfl (ts_in 0 6 rfl rfl) ?_
            refine aa_all (rs := [7]) (by kernel_rfl) rfl (ts_in 0 6 rfl rfl) (List.forall_mem_singleton.2 ?_)
            refine at_one 1 rfl (fun ho2163 => ?_)
            refine aa_op rfl rfl ?_
            refine hv_store_box 0 (cs' := [.int .i64 x2155.1.ID, s2157]) rfl rfl ti25 rfl rfl rfl rfl (allc rfl (allc ho2163 rfl)) ?_
            refine aa_all (rs := [8]) (by kernel_rfl) rfl (ts_out rfl) (List.forall_mem_singleton.2 ?_)
            refine aa_op rfl rfl ?_
            refine hv_lt (lt_assign rfl) rfl ?_
            refine aa_done (by kernel_rfl) (ts_out rfl) ?_
            have hq := oinj hr
            clear hr
            subst hq
            exact at_leaf s2157 ⟨⟨rfl, ⟨rfl, ⟨rfl, ⟨rfl, trivial⟩⟩⟩⟩, ⟨[true, true], rfl⟩, ⟨[], rfl⟩, ⟨[3, 0, 1, 10, 11, 12, 13], rfl⟩⟩
           replace hr := ineg h2151 hr
           refine at_false rfl (decide_eq_false (by first | exact h2151 | omega)) ?_
           refine at_skip ?_
           have hq := oinj hr
           clear hr
           subst hq
           exact at_leaf v2118 ⟨⟨rfl, ⟨rfl, ⟨rfl, ⟨rfl, trivial⟩⟩⟩⟩, ⟨[true, true], rfl⟩, ⟨[], rfl⟩, ⟨[0, 1, 2, 4, 5, 6, 7], rfl⟩⟩
          clear hc2150
          obtain ⟨x2145, x2146, x2147⟩ := r2149
          intro v2148
          change At _ _ (⟨[(11, .pointer (some (Addr.add ⟨b2104, 0, none⟩ 0))), (12, .int .i64 x2099.2), (13, .pointer (some (Addr.add ⟨n2119, 0, none⟩ 0))), (14, .int .i64 x2145)], [⟨n2119, [.int .i64 x2146, v2148], 25⟩, ⟨b2104, [.int .i64 x2099.1.ID, s2101], 25⟩], [], [((Ty.int .i64).fact x2145 [.int .i64 x2145]), ((Ty.int .i64).fact x2146 [.int .i64 x2146]), ((Ty.slice ty69).fact x2147 [v2148]), ((Ty.int .i64).fact x2099.2 [.int .i64 x2099.2]), ((Ty.int .i64).fact x2099.1.ID [.int .i64 x2099.1.ID]), ((Ty.slice ty69).fact x2099.1.Fields [s2101]), (utf8F 1 2)]⟩ : St) _
          refine at_inv 0 rfl (fun l2164 => ?_)
          replace l2164 : (-9223372036854775808) ≤ x2145 ∧ x2145 ≤ 9223372036854775807 := l2164
          refine at_inv 1 rfl (fun l2165 => ?_)
          replace l2165 : (-9223372036854775808) ≤ x2146 ∧ x2146 ≤ 9223372036854775807 := l2165
          refine s_tsr ?_
          refine s_mv rfl ?_
          refine s_mv rfl ?_
          refine at_lt (lt_eql rfl rfl) rfl ?_
          refine s_mv rfl ?_
          by_cases h2166 : x2099.2 = x2145
          ·replace hr := ipos h2166 hr
           refine at_on rfl rfl (decide_eq_true (by first | exact h2166 | omega)) ?_
           refine at_lt (lt_load_box 1 rfl ti25 rfl rfl rfl rfl rfl) rfl ?_
           refine at_on rfl rfl (decide_eq_true (by first | exact h2166 | omega)) ?_
           refine at_lt (lt_load_box 0 rfl ti25 rfl rfl rfl rfl rfl) rfl ?_
           replace hr := obind hr
           obtain ⟨x2167, h2168, hr⟩ := hr
           refine at_derive [4, 5] (ty25.fact (⟨x2099.1.ID, x2099.1.Fields⟩ : D_api_Record) [.int .i64 x2099.1.ID, s2101]) rfl (fun F w h => mk25 (x := (⟨x2099.1.ID, x2099.1.Fields⟩ : D_api_Record)) h) ?_
           refine at_derive [2, 3] (ty25.fact (⟨x2146, x2147⟩ : D_api_Record) [.int .i64 x2146, v2148]) rfl (fun F w h => mk25 (x := (⟨x2146, x2147⟩ : D_api_Record)) h) ?_
           refine at_on rfl rfl (decide_eq_true (by first | exact h2166 | omega)) ?_
           refine at_hv rfl ?_
           refine hv_call0 [1, 0] (f18_spec h2168) rfl rfl rfl rfl ?_
           rintro _ _ ⟨rfl, rfl⟩
           refine at_lt (lt_pick true rfl (decide_eq_true (by first | exact h2166 | omega)) rfl) rfl ?_
           refine s_as rfl ?_
           refine s_nt ?_
           refine at_ret ?_
           have hq := oinj hr
           clear hr
           subst hq
           exact at_return (.bool x2167) [] hS Tryz.results5 (.cons (.tmp rfl) .nil) rfl rfl ⟨rfl, rfl⟩
          replace hr := ineg h2166 hr
          refine at_off rfl rfl (decide_eq_false (by first | exact h2166 | omega)) rfl ?_
          refine at_off rfl rfl (decide_eq_false (by first | exact h2166 | omega)) rfl ?_
          refine at_off rfl rfl (decide_eq_false (by first | exact h2166 | omega)) rfl ?_
          refine at_lt (lt_pick false rfl (decide_eq_false (by first | exact h2166 | omega)) rfl) rfl ?_
          refine s_as rfl ?_
          refine s_nt ?_
          refine at_ret ?_
          have hq := oinj hr
          clear hr
          subst hq
          exact at_return (.bool false) [] hS Tryz.results5 (.cons (.tmp rfl) .nil) rfl rfl ⟨rfl, rfl⟩
         replace hr := ineg h2098 hr
         refine at_true rfl (nf (bf h2098)) ?_
         refine s_sr ?_
         refine s_as rfl ?_
         refine s_nt ?_
         refine at_ret ?_
         have hq := oinj hr
         clear hr
         subst hq
         refine at_then_ret ?_
         exact at_return (.bool false) [] hS Tryz.results5 (.cons (.tmp rfl) .nil) rfl rfl ⟨rfl, rfl⟩
        replace hr := ineg h2095 hr
        refine at_off rfl rfl (nf (decide_eq_false (by first | exact h2095 | omega))) rfl ?_
        refine at_off rfl rfl (nf (decide_eq_false (by first | exact h2095 | omega))) rfl ?_
        refine at_off rfl rfl (nf (decide_eq_false (by first | exact h2095 | omega))) rfl ?_
        refine at_lt (lt_pick true rfl (nf (decide_eq_false (by first | exact h2095 | omega))) rfl) rfl ?_
        refine s_nt ?_
        refine at_true rfl rfl ?_
        refine s_sr ?_
        refine s_as rfl ?_
        refine s_nt ?_
        refine at_ret ?_
        have hq := oinj hr
        clear hr
        subst hq
        refine at_then_ret ?_
        exact at_return (.bool false) [] hS Tryz.results5 (.cons (.tmp rfl) .nil) rfl rfl ⟨rfl, rfl⟩
       replace hr := ineg h2060 hr
       refine at_true rfl (nf (bf h2060)) ?_
       refine s_sr ?_
       refine s_as rfl ?_
       refine s_nt ?_
       refine at_ret ?_
       have hq := oinj hr
       clear hr
       subst hq
       refine at_then_ret ?_
       exact at_return (.bool true) [] hS Tryz.results5 (.cons (.tmp rfl) .nil) rfl rfl ⟨rfl, rfl⟩
      replace hr := ineg h2057 hr
      refine at_off rfl rfl (nf (bf h2057)) rfl ?_
      refine at_off rfl rfl (nf (bf h2057)) rfl ?_
      refine at_off rfl rfl (nf (bf h2057)) rfl ?_
      refine at_lt (lt_pick true rfl (nf (bf h2057)) rfl) rfl ?_
      refine s_nt ?_
      refine at_true rfl rfl ?_
      refine s_sr ?_
      refine s_as rfl ?_
      refine s_nt ?_
      refine at_ret ?_
      have hq := oinj hr
      clear hr
      subst hq
      refine at_then_ret ?_
      exact at_return (.bool true) [] hS Tryz.results5 (.cons (.tmp rfl) .nil) rfl rfl ⟨rfl, rfl⟩
     replace hr := ineg h2054 hr
     refine at_off rfl rfl (nf (bf h2054)) rfl ?_
     refine at_off rfl rfl (nf (bf h2054)) rfl ?_
     refine at_off rfl rfl (nf (bf h2054)) rfl ?_
     refine at_lt (lt_pick true rfl (nf (bf h2054)) rfl) rfl ?_
     refine s_mv rfl ?_
     refine at_off rfl rfl rfl rfl ?_
     refine at_off rfl rfl rfl rfl ?_
     refine at_off rfl rfl rfl rfl ?_
     refine at_lt (lt_pick true rfl rfl rfl) rfl ?_
     refine s_nt ?_
     refine at_true rfl rfl ?_
     refine s_sr ?_
     refine s_as rfl ?_
     refine s_nt ?_
     refine at_ret ?_
     have hq := oinj hr
     clear hr
     subst hq
     refine at_then_ret ?_
     exact at_return (.bool true) [] hS Tryz.results5 (.cons (.tmp rfl) .nil) rfl rfl ⟨rfl, rfl⟩
    replace hr := ineg h2051 hr
    refine at_off rfl rfl (nf (bf h2051)) rfl ?_
    refine at_off rfl rfl (nf (bf h2051)) rfl ?_
    refine at_off rfl rfl (nf (bf h2051)) rfl ?_
    refine at_lt (lt_pick true rfl (nf (bf h2051)) rfl) rfl ?_
    refine s_mv rfl ?_
    refine at_off rfl rfl rfl rfl ?_
    refine at_off rfl rfl rfl rfl ?_
    refine at_off rfl rfl rfl rfl ?_
    refine at_lt (lt_pick true rfl rfl rfl) rfl ?_
    refine s_mv rfl ?_
    refine at_off rfl rfl rfl rfl ?_
    refine at_off rfl rfl rfl rfl ?_
    refine at_off rfl rfl rfl rfl ?_
    refine at_lt (lt_pick true rfl rfl rfl) rfl ?_
    refine s_nt ?_
    refine at_true rfl rfl ?_
    refine s_sr ?_
    refine s_as rfl ?_
    refine s_nt ?_
    refine at_ret ?_
    have hq := oinj hr
    clear hr
    subst hq
    refine at_then_ret ?_
    exact at_return (.bool true) [] hS Tryz.results5 (.cons (.tmp rfl) .nil) rfl rfl ⟨rfl, rfl⟩
   replace hr := ineg h2048 hr
   refine at_off rfl rfl (nf (bf h2048)) rfl ?_
   refine at_off rfl rfl (nf (bf h2048)) rfl ?_
   refine at_off rfl rfl (nf (bf h2048)) rfl ?_
   refine at_lt (lt_pick true rfl (nf (bf h2048)) rfl) rfl ?_
   refine s_mv rfl ?_
   refine at_off rfl rfl rfl rfl ?_
   refine at_off rfl rfl rfl rfl ?_
   refine at_off rfl rfl rfl rfl ?_
   refine at_lt (lt_pick true rfl rfl rfl) rfl ?_
   refine s_mv rfl ?_
   refine at_off rfl rfl rfl rfl ?_
   refine at_off rfl rfl rfl rfl ?_
   refine at_off rfl rfl rfl rfl ?_
   refine at_lt (lt_pick true rfl rfl rfl) rfl ?_
   refine s_mv rfl ?_
   refine at_off rfl rfl rfl rfl ?_
   refine at_off rfl rfl rfl rfl ?_
   refine at_off rfl rfl rfl rfl ?_
   refine at_lt (lt_pick true rfl rfl rfl) rfl ?_
   refine s_nt ?_
   refine at_true rfl rfl ?_
   refine s_sr ?_
   refine s_as rfl ?_
   refine s_nt ?_
   refine at_ret ?_
   have hq := oinj hr
   clear hr
   subst hq
   refine at_then_ret ?_
   exact at_return (.bool true) [] hS Tryz.results5 (.cons (.tmp rfl) .nil) rfl rfl ⟨rfl, rfl⟩
  replace hr := ineg h2045 hr
  refine at_off rfl rfl (nf (bf h2045)) rfl ?_
  refine at_off rfl rfl (nf (bf h2045)) rfl ?_
  refine at_off rfl rfl (nf (bf h2045)) rfl ?_
  refine at_lt (lt_pick true rfl (nf (bf h2045)) rfl) rfl ?_
  refine s_mv rfl ?_
  refine at_off rfl rfl rfl rfl ?_
  refine at_off rfl rfl rfl rfl ?_
  refine at_off rfl rfl rfl rfl ?_
  refine at_lt (lt_pick true rfl rfl rfl) rfl ?_
  refine s_mv rfl ?_
  refine at_off rfl rfl rfl rfl ?_
  refine at_off rfl rfl rfl rfl ?_
  refine at_off rfl rfl rfl rfl ?_
  refine at_lt (lt_pick true rfl rfl rfl) rfl ?_
  refine s_mv rfl ?_
  refine at_off rfl rfl rfl rfl ?_
  refine at_off rfl rfl rfl rfl ?_
  refine at_off rfl rfl rfl rfl ?_
  refine at_lt (lt_pick true rfl rfl rfl) rfl ?_
  refine s_mv rfl ?_
  refine at_off rfl rfl rfl rfl ?_
  refine at_off rfl rfl rfl rfl ?_
  refine at_off rfl rfl rfl rfl ?_
  refine at_lt (lt_pick true rfl rfl rfl) rfl ?_
  refine s_nt ?_
  refine at_true rfl rfl ?_
  refine s_sr ?_
  refine s_as rfl ?_
  refine s_nt ?_
  refine at_ret ?_
  have hq := oinj hr
  clear hr
  subst hq
  refine at_then_ret ?_
  exact at_return (.bool true) [] hS Tryz.results5 (.cons (.tmp rfl) .nil) rfl rfl ⟨rfl, rfl⟩
 replace hr := ineg h2042 hr
 refine at_true rfl (nf (bf h2042)) ?_
 refine s_sr ?_
 refine s_as rfl ?_
 refine s_nt ?_
 refine at_ret ?_
 have hq := oinj hr
 clear hr
 subst hq
 refine at_then_ret ?_
 exact at_return (.bool false) [] hS Tryz.results5 (.cons (.tmp rfl) .nil) rfl rfl ⟨rfl, rfl⟩
end Go.WK.S
