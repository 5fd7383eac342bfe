
/- What functions of this program compute: a model of each, and the proof that it is kept. -/
import Derived.Test.YteljaomifdnkkaaGreatDoorCompareF02
import Derived.KernelRfl
set_option linter.unusedSimpArgs false
set_option linter.unusedVariables false
namespace Go.WK.S
open Go Go.Proofs Go.WK Go.RowKit
set_option linter.unusedVariables false
set_option maxRecDepth 100000
set_option maxHeartbeats 4000000
def m12_l2 (x934 : D_api_Field) : Nat → Nat → Option (Fl (Fl Bool Unit) Unit)
  | 0, _ => none
  | k + 1, x947 =>
    if x947 < x934.Subs.length then
     (x934.Subs[x947]?).bind fun x952 =>
     if 80 < x952.Value.length then
      (x934.Subs[x947]?).bind fun x958 =>
      if x958.Value.length < 400 then
       some (Fl.ret (Fl.ret false))
      else
       (x934.Subs[x947]?).bind fun x964 =>
       if 402 < x964.Value.length then
        some (Fl.ret (Fl.ret false))
       else
        m12_l2 x934 k (x947 + 1)
     else
      (x934.Subs[x947]?).bind fun x970 =>
      if 402 < x970.Value.length then
       some (Fl.ret (Fl.ret false))
      else
       m12_l2 x934 k (x947 + 1)
    else
     some (Fl.go ())
def m12_l3 (x934 : D_api_Field) : Nat → Nat → Option (Fl (Fl Bool Unit) Unit)
  | 0, _ => none
  | k + 1, x979 =>
    if x979 < x934.Subs.length then
     (x934.Subs[x979]?).bind fun x984 =>
     if 80 < x984.Value.length then
      (x934.Subs[x979]?).bind fun x990 =>
      if x990.Value.length < 400 then
       some (Fl.ret (Fl.ret false))
      else
       (x934.Subs[x979]?).bind fun x996 =>
       if 402 < x996.Value.length then
        some (Fl.ret (Fl.ret false))
       else
        m12_l3 x934 k (x979 + 1)
     else
      (x934.Subs[x979]?).bind fun x1002 =>
      if 402 < x1002.Value.length then
       some (Fl.ret (Fl.ret false))
      else
       m12_l3 x934 k (x979 + 1)
    else
     some (Fl.go ())
def m12_l4 (x934 : D_api_Field) : Nat → Nat → Option (Fl (Fl Bool Unit) Unit)
  | 0, _ => none
  | k + 1, x1010 =>
    if x1010 < x934.Subs.length then
     (x934.Subs[x1010]?).bind fun x1015 =>
     if 80 < x1015.Value.length then
      (x934.Subs[x1010]?).bind fun x1021 =>
      if x1021.Value.length < 400 then
       some (Fl.ret (Fl.ret false))
      else
       (x934.Subs[x1010]?).bind fun x1027 =>
       if 402 < x1027.Value.length then
        some (Fl.ret (Fl.ret false))
       else
        m12_l4 x934 k (x1010 + 1)
     else
      (x934.Subs[x1010]?).bind fun x1033 =>
      if 402 < x1033.Value.length then
       some (Fl.ret (Fl.ret false))
      else
       m12_l4 x934 k (x1010 + 1)
    else
     some (Fl.go ())
def m12_l1 (a0 : D_api_Record) : Nat → Nat → Option (Fl Bool Unit)
  | 0, _ => none
  | k + 1, x927 =>
    if x927 < a0.Fields.length then
     (a0.Fields[x927]?).bind fun x934 =>
     if 8 < x934.Subs.length then
      if x934.Subs.length = 20 then
       if 20 < x934.Tag.length then
        some (Fl.ret false)
       else
        (m12_l2 x934 (x934.Subs.length + 1) 0).bind fun r => match r with
        | .ret x => some x
        | .go _ =>
         m12_l1 a0 k (x927 + 1)
      else
       if x934.Subs.length = 21 then
        if 20 < x934.Tag.length then
         some (Fl.ret false)
        else
         (m12_l3 x934 (x934.Subs.length + 1) 0).bind fun r => match r with
         | .ret x => some x
         | .go _ =>
          m12_l1 a0 k (x927 + 1)
       else
        some (Fl.ret false)
     else
      if 20 < x934.Tag.length then
       some (Fl.ret false)
      else
       (m12_l4 x934 (x934.Subs.length + 1) 0).bind fun r => match r with
       | .ret x => some x
       | .go _ =>
        m12_l1 a0 k (x927 + 1)
    else
     some (Fl.go ())
def m12 (a0 : D_api_Record) (a1 : Int) : Option Bool :=
  (m12_l1 a0 (a0.Fields.length + 1) 0).bind fun r => match r with
  | .ret x => some x
  | .go _ =>
   some (decide ((a0.Fields.length : Int) ≤ a1))
def post12 (r : Bool) (v : Value) (fs : List Fact) : Prop := v = .bool r ∧ fs = []
theorem en12 : Enters Tryz.prog 12 := ⟨_, Tryz.func12, by kernel_rfl, rfl⟩
theorem f12_spec {a0 : D_api_Record} {a1 : Int} {s923 : Value} {r : Bool} (hr : m12 a0 a1 = some r) : Spec Tryz.prog 12 [.agg #[.int .i64 a0.ID, s923], .int .i64 a1] [(ty24.fact a0 [.int .i64 a0.ID, s923]), ((Ty.int .i64).fact a1 [.int .i64 a1])] (post12 r) := by
 refine spec_start (N := 82) Tryz.func12 (by kernel_rfl) rfl rfl rfl ?_
 intro g hS
 unfold m12 at hr
 refine at_open (A := Unit) 0 rfl (fun _ => True) (fun _ => [((Ty.int .i64).fact a0.ID [.int .i64 a0.ID]), ((Ty.slice ty59).fact a0.Fields [s923])]) (fun F w h => ⟨(), trivial, ex24 h⟩) (fun _ _ => ?_)
 refine at_inv 0 rfl (fun l924 => ?_)
 replace l924 : (-9223372036854775808) ≤ a0.ID ∧ a0.ID ≤ 9223372036854775807 := l924
 refine at_inv 3 rfl (fun l925 => ?_)
 replace l925 : (-9223372036854775808) ≤ a1 ∧ a1 ≤ 9223372036854775807 := l925
 refine s_sr (at_hv rfl ?_)
 refine hv_box (cs := [.int .i64 a0.ID, s923]) rfl rfl rfl (fun b926 => ?_)
 refine s_as rfl (s_nt (at_seq (s_sr (s_as rfl (s_nt (at_int .i64 0 (by simp only [lo, hi]; omega) ?_))))))
 replace hr := obind hr
 obtain ⟨r928, hl929, hk930⟩ := hr
 refine at_cutP (V := (Unit) × (Unit)) (fun v => r928 = Fl.go v.1) (fun v => (⟨[(1, .int .i64 a1), (2, .pointer (some (Addr.add ⟨b926, 0, none⟩ 0)))], [⟨b926, [.int .i64 a0.ID, s923], 24⟩], [], [((Ty.int .i64).fact a1 [.int .i64 a1]), ((Ty.int .i64).fact a0.ID [.int .i64 a0.ID]), ((Ty.slice ty59).fact a0.Fields [s923])]⟩ : St)) ?_ ?_
 ·refine at_block ?_
  refine at_loopW (σ := Nat) (V := Unit) (r := r928) (fun n s => m12_l1 a0 n s) (fun s e => (⟨[(1, .int .i64 a1), (2, .pointer (some (Addr.add ⟨b926, 0, none⟩ 0))), (5, .int .i64 (s : Int))], [⟨b926, [.int .i64 a0.ID, s923], 24⟩], [], [((Ty.int .i64).fact (s : Int) [.int .i64 (s : Int)]), ((Ty.int .i64).fact a1 [.int .i64 a1]), ((Ty.int .i64).fact a0.ID [.int .i64 a0.ID]), ((Ty.slice ty59).fact a0.Fields [s923])]⟩ : St)) (fun _ => rfl) _ 0 () hl929 ⟨⟨rfl, ⟨rfl, ⟨rfl, trivial⟩⟩⟩, ⟨[true], rfl⟩, ⟨[], rfl⟩, ⟨[0, 4, 1, 2], rfl⟩⟩ ?_
  clear hl929
  intro n x927 hr e
  skip
  skip
  change m12_l1 a0 (n + 1) x927 = some r928 at hr
  change At _ _ (⟨[(1, .int .i64 a1), (2, .pointer (some (Addr.add ⟨b926, 0, none⟩ 0))), (5, .int .i64 (x927 : Int))], [⟨b926, [.int .i64 a0.ID, s923], 24⟩], [], [((Ty.int .i64).fact (x927 : Int) [.int .i64 (x927 : Int)]), ((Ty.int .i64).fact a1 [.int .i64 a1]), ((Ty.int .i64).fact a0.ID [.int .i64 a0.ID]), ((Ty.slice ty59).fact a0.Fields [s923])]⟩ : St) _
  rw [m12_l1] at hr
  refine at_seq (s_sr (s_mv rfl (at_lt (lt_fieldAddr 1 rfl fld24_1 rfl) rfl (at_lt (lt_load_box 0 rfl ti22 rfl rfl rfl rfl rfl) rfl ?_))))
  refine at_inv 3 rfl (fun i931 => ?_)
  have l932 := slice_len i931
  refine at_lt (lt_flen 3 rfl rfl und22) rfl (at_lt (lt_lss rfl rfl) rfl (s_nt ?_))
  by_cases h933 : x927 < a0.Fields.length
  ·replace hr := ipos h933 hr
   refine at_true rfl (decide_eq_true (by omega)) ?_
   refine at_skip (at_then (at_seq (at_block (s_sr (at_lt (lt_fieldAddr 1 rfl fld24_1 rfl) rfl (at_lt (lt_load_box 0 rfl ti22 rfl rfl rfl rfl rfl) rfl (s_mv rfl ?_)))))))
   replace hr := obind hr
   obtain ⟨x934, h935, hr⟩ := hr
   have := (List.getElem?_eq_some_iff.1 h935).1
   refine at_elem 3 rfl (nat_at' h935) (fun p937 ec pa938 => ?_)
   refine at_open (A := Value) 0 rfl _ _ (fun F w h => op59 h) ?_
   rintro s936 rfl
   refine at_lt (lt_idx rfl rfl pa938 und22 ti59) rfl (at_lt (lt_load_peek 3 rfl ti59 rfl rfl rfl rfl rfl) rfl (at_hv rfl ?_))
   refine hv_alloc (cs := [str ([] : Str), .int .u8 0, .int .u8 0, (.slice none 0 0)]) ti59 rfl rfl (fun b939 => ?_)
   refine at_one 1 rfl (fun ho940 => ?_)
   refine at_hv rfl (hv_store_box 0 (cs' := [str x934.Tag, .int .u8 (x934.Ind_0.toNat : Int), .int .u8 (x934.Ind_1.toNat : Int), s936]) rfl rfl ti59 rfl rfl rfl rfl (allc rfl (allc rfl (allc rfl (allc ho940 rfl)))) (s_nt (at_seq (s_sr (at_lt (lt_fieldAddr 3 rfl fld59_2 rfl) rfl (at_lt (lt_load_box 0 rfl ti57 rfl rfl rfl rfl rfl) rfl ?_))))))
   refine at_inv 1 rfl (fun i941 => ?_)
   have l942 := slice_len i941
   refine at_lt (lt_flen 1 rfl rfl und57) rfl (at_lt (lt_gtr rfl rfl) rfl (s_mv rfl ?_))
   by_cases h943 : 8 < x934.Subs.length
   ·replace hr := ipos h943 hr
    refine at_on rfl rfl (decide_eq_true (by omega)) ?_
    refine at_lt (lt_fieldAddr 3 rfl fld59_2 rfl) rfl ?_
    refine at_on rfl rfl (decide_eq_true (by omega)) ?_
    refine at_lt (lt_load_box 0 rfl ti57 rfl rfl rfl rfl rfl) rfl ?_
    refine at_on rfl rfl (decide_eq_true (by omega)) ?_
    refine at_lt (lt_flen 1 rfl rfl und57) rfl ?_
    refine at_on rfl rfl (decide_eq_true (by omega)) ?_
    refine at_lt (lt_neq rfl rfl) rfl ?_
    refine at_lt (lt_pick true rfl (decide_eq_true (by omega)) rfl) rfl ?_
    refine s_mv rfl ?_
    by_cases h944 : x934.Subs.length = 20
    ·replace hr := ipos h944 hr
     refine at_off rfl rfl (nt (decide_eq_true (by omega))) rfl ?_
     refine at_off rfl rfl (nt (decide_eq_true (by omega))) rfl ?_
     refine at_off rfl rfl (nt (decide_eq_true (by omega))) rfl ?_
     refine at_off rfl rfl (nt (decide_eq_true (by omega))) rfl ?_
     refine at_lt (lt_pick false rfl (nt (decide_eq_true (by omega))) rfl) rfl ?_
     refine s_mv rfl (at_on rfl rfl rfl (at_lt (lt_fieldAddr 0 rfl fld59_0 rfl) rfl (at_on rfl rfl rfl (at_lt (lt_load_box 0 rfl ti9 rfl rfl rfl rfl rfl) rfl ?_))))
     refine at_inv 0 rfl (fun l945 => ?_)
     replace l945 : x934.Tag.length ≤ 9223372036854775807 := l945
     refine at_on rfl rfl rfl (at_lt (lt_slen rfl und9) rfl (at_on rfl rfl rfl (at_lt (lt_gtr rfl rfl) rfl (at_lt (lt_pick false rfl rfl rfl) rfl (s_nt ?_)))))
     by_cases h946 : 20 < x934.Tag.length
     ·replace hr := ipos h946 hr
      refine at_true rfl (decide_eq_true (by omega)) ?_
      refine s_sr (s_as rfl (s_nt (at_ret ?_)))
      have hq := oinj hr
      clear hr
      subst hq
      have hq := oinj hk930
      clear hk930
      subst hq
      refine at_then_ret (at_in_ret (at_then_ret (at_then_ret (at_in_ret (at_then_ret (at_then_ret ?_))))))
      exact at_return (.bool false) [] hS Tryz.results12 (.cons (.tmp rfl) .nil) rfl rfl ⟨rfl, rfl⟩
     replace hr := ineg h946 hr
     refine at_false rfl (decide_eq_false (by omega)) ?_
     refine at_skip (s_tsr (s_as rfl (s_nt (at_int .i64 0 (by simp only [lo, hi]; omega) ?_))))
     replace hr := obind hr
     obtain ⟨r948, hl949, hk950⟩ := hr
     refine at_cutP (V := (Unit) × (Unit)) (fun v => r948 = Fl.go v.1) (fun v => (⟨[(1, .int .i64 a1), (2, .pointer (some (Addr.add ⟨b926, 0, none⟩ 0))), (5, .int .i64 (x927 : Int))], [⟨b926, [.int .i64 a0.ID, s923], 24⟩], [], [((Ty.int .i64).fact a1 [.int .i64 a1]), ((Ty.int .i64).fact (x927 : Int) [.int .i64 (x927 : Int)]), ((Ty.int .i64).fact a0.ID [.int .i64 a0.ID]), ((Ty.slice ty59).fact a0.Fields [s923])]⟩ : St)) ?_ ?_
     ·refine at_block ?_
      refine at_loopW (σ := Nat) (V := Unit) (r := r948) (fun n s => m12_l2 x934 n s) (fun s e => (⟨[(1, .int .i64 a1), (2, .pointer (some (Addr.add ⟨b926, 0, none⟩ 0))), (5, .int .i64 (x927 : Int)), (6, .pointer (some (Addr.add ⟨b939, 0, none⟩ 0))), (7, .int .i64 (s : Int))], [⟨b939, [str x934.Tag, .int .u8 (x934.Ind_0.toNat : Int), .int .u8 (x934.Ind_1.toNat : Int), s936], 59⟩, ⟨b926, [.int .i64 a0.ID, s923], 24⟩], [], [((Ty.int .i64).fact (s : Int) [.int .i64 (s : Int)]), ((Ty.int .i64).fact a1 [.int .i64 a1]), ((Ty.int .i64).fact (x927 : Int) [.int .i64 (x927 : Int)]), (Ty.str.fact x934.Tag [str x934.Tag]), ((Ty.slice ty67).fact x934.Subs [s936]), ((Ty.int .i64).fact a0.ID [.int .i64 a0.ID]), ((Ty.slice ty59).fact a0.Fields [s923])]⟩ : St)) (fun _ => rfl) _ 0 () hl949 ⟨⟨rfl, ⟨rfl, ⟨rfl, ⟨rfl, ⟨rfl, trivial⟩⟩⟩⟩⟩, ⟨[true, true], rfl⟩, ⟨[], rfl⟩, ⟨[0, 6, 5, 1, 2, 7, 8], rfl⟩⟩ ?_
      clear hl949
      intro n x947 hr e
      skip
      skip
      change m12_l2 x934 (n + 1) x947 = some r948 at hr
      change At _ _ (⟨[(1, .int .i64 a1), (2, .pointer (some (Addr.add ⟨b926, 0, none⟩ 0))), (5, .int .i64 (x927 : Int)), (6, .pointer (some (Addr.add ⟨b939, 0, none⟩ 0))), (7, .int .i64 (x947 : Int))], [⟨b939, [str x934.Tag, .int .u8 (x934.Ind_0.toNat : Int), .int .u8 (x934.Ind_1.toNat : Int), s936], 59⟩, ⟨b926, [.int .i64 a0.ID, s923], 24⟩], [], [((Ty.int .i64).fact (x947 : Int) [.int .i64 (x947 : Int)]), ((Ty.int .i64).fact a1 [.int .i64 a1]), ((Ty.int .i64).fact (x927 : Int) [.int .i64 (x927 : Int)]), (Ty.str.fact x934.Tag [str x934.Tag]), ((Ty.slice ty67).fact x934.Subs [s936]), ((Ty.int .i64).fact a0.ID [.int .i64 a0.ID]), ((Ty.slice ty59).fact a0.Fields [s923])]⟩ : St) _
      rw [m12_l2] at hr
      refine at_seq (s_sr (s_mv rfl (at_lt (lt_fieldAddr 3 rfl fld59_2 rfl) rfl (at_lt (lt_load_box 0 rfl ti57 rfl rfl rfl rfl rfl) rfl (at_lt (lt_flen 4 rfl rfl und57) rfl (at_lt (lt_lss rfl rfl) rfl (s_nt ?_)))))))
      by_cases h951 : x947 < x934.Subs.length
      ·replace hr := ipos h951 hr
       refine at_true rfl (decide_eq_true (by omega)) ?_
       refine at_skip (at_then (at_seq (at_block (s_sr (at_lt (lt_fieldAddr 3 rfl fld59_2 rfl) rfl (at_lt (lt_load_box 0 rfl ti57 rfl rfl rfl rfl rfl) rfl (s_mv rfl ?_)))))))
       replace hr := obind hr
       obtain ⟨x952, h953, hr⟩ := hr
       have := (List.getElem?_eq_some_iff.1 h953).1
       refine at_elem 4 rfl (nat_at' h953) (fun p954 ec pa955 => ?_)
       refine at_open (A := Unit) 0 rfl _ _ (fun F w h => op67 h) ?_
       rintro _ rfl
       refine at_lt (lt_idx rfl rfl pa955 und57 ti67) rfl (at_lt (lt_fieldAddr 1 rfl fld67_1 rfl) rfl (at_lt (lt_load_peek 2 rfl ti9 rfl rfl rfl rfl rfl) rfl ?_))
       refine at_inv 0 rfl (fun l956 => ?_)
       replace l956 : x952.Value.length ≤ 9223372036854775807 := l956
       refine at_lt (lt_slen rfl und9) rfl (at_lt (lt_gtr rfl rfl) rfl (s_mv rfl ?_))
       by_cases h957 : 80 < x952.Value.length
       ·replace hr := ipos h957 hr
        refine at_on rfl rfl (decide_eq_true (by omega)) ?_
        refine at_lt (lt_fieldAddr 3 rfl fld59_2 rfl) rfl ?_
        refine at_on rfl rfl (decide_eq_true (by omega)) ?_
        refine at_lt (lt_load_box 0 rfl ti57 rfl rfl rfl rfl rfl) rfl ?_
        refine at_on rfl rfl (decide_eq_true (by omega)) ?_
        refine s_mv rfl ?_
        replace hr := obind hr
        obtain ⟨x958, h959, hr⟩ := hr
        have := (List.getElem?_eq_some_iff.1 h959).1
        refine at_elem 7 rfl (nat_at' h959) (fun p960 ec pa961 => ?_)
        refine at_open (A := Unit) 0 rfl _ _ (fun F w h => op67 h) ?_
        rintro _ rfl
        refine at_on rfl rfl (decide_eq_true (by omega)) ?_
        refine at_lt (lt_idx rfl rfl pa961 und57 ti67) rfl ?_
        refine at_on rfl rfl (decide_eq_true (by omega)) ?_
        refine at_lt (lt_fieldAddr 1 rfl fld67_1 rfl) rfl ?_
        refine at_on rfl rfl (decide_eq_true (by omega)) ?_
        refine at_lt (lt_load_peek 2 rfl ti9 rfl rfl rfl rfl rfl) rfl ?_
        refine at_inv 0 rfl (fun l962 => ?_)
        replace l962 : x958.Value.length ≤ 9223372036854775807 := l962
        refine at_on rfl rfl (decide_eq_true (by omega)) ?_
        refine at_lt (lt_slen rfl und9) rfl ?_
        refine at_on rfl rfl (decide_eq_true (by omega)) ?_
        refine at_lt (lt_lss rfl rfl) rfl ?_
        refine at_lt (lt_pick true rfl (decide_eq_true (by omega)) rfl) rfl ?_
        refine s_mv rfl ?_
        by_cases h963 : x958.Value.length < 400
        ·replace hr := ipos h963 hr
         refine at_off rfl rfl (decide_eq_true (by omega)) rfl ?_
         refine at_off rfl rfl (decide_eq_true (by omega)) rfl ?_
         refine at_off rfl rfl (decide_eq_true (by omega)) rfl ?_
         refine at_off rfl rfl (decide_eq_true (by omega)) rfl ?_
         refine at_off rfl rfl (decide_eq_true (by omega)) rfl ?_
         refine at_off rfl rfl (decide_eq_true (by omega)) rfl ?_
         refine at_off rfl rfl (decide_eq_true (by omega)) rfl ?_
         refine at_off rfl rfl (decide_eq_true (by omega)) rfl ?_
         refine at_lt (lt_pick true rfl (decide_eq_true (by omega)) rfl) rfl ?_
         refine s_nt (at_true rfl rfl (s_sr (s_as rfl (s_nt (at_ret ?_)))))
         have hq := oinj hr
         clear hr
         subst hq
         have hq := oinj hk950
         clear hk950
         subst hq
         have hq := oinj hk930
         clear hk930
         subst hq
         refine at_in_ret (at_then_ret (at_then_ret (at_in_ret (at_then_ret (at_in_ret (at_then_ret (at_then_ret (at_in_ret (at_then_ret ?_)))))))))
         refine at_then_ret ?_
         exact at_return (.bool false) [] hS Tryz.results12 (.cons (.tmp rfl) .nil) rfl rfl ⟨rfl, rfl⟩
        replace hr := ineg h963 hr
        refine at_on rfl rfl (decide_eq_false (by omega)) ?_
        refine at_lt (lt_fieldAddr 3 rfl fld59_2 rfl) rfl ?_
        refine at_on rfl rfl (decide_eq_false (by omega)) ?_
        refine at_lt (lt_load_box 0 rfl ti57 rfl rfl rfl rfl rfl) rfl ?_
        refine at_on rfl rfl (decide_eq_false (by omega)) ?_
        refine s_mv rfl ?_
        replace hr := obind hr
        obtain ⟨x964, h965, hr⟩ := hr
        have := (List.getElem?_eq_some_iff.1 h965).1
        refine at_elem 10 rfl (nat_at' h965) (fun p966 ec pa967 => ?_)
        refine at_open (A := Unit) 0 rfl _ _ (fun F w h => op67 h) ?_
        rintro _ rfl
        refine at_on rfl rfl (decide_eq_false (by omega)) ?_
        refine at_lt (lt_idx rfl rfl pa967 und57 ti67) rfl ?_
        refine at_on rfl rfl (decide_eq_false (by omega)) ?_
        refine at_lt (lt_fieldAddr 1 rfl fld67_1 rfl) rfl ?_
        refine at_on rfl rfl (decide_eq_false (by omega)) ?_
        refine at_lt (lt_load_peek 2 rfl ti9 rfl rfl rfl rfl rfl) rfl ?_
        refine at_inv 0 rfl (fun l968 => ?_)
        replace l968 : x964.Value.length ≤ 9223372036854775807 := l968
        refine at_on rfl rfl (decide_eq_false (by omega)) ?_
        refine at_lt (lt_slen rfl und9) rfl ?_
        refine at_on rfl rfl (decide_eq_false (by omega)) ?_
        refine at_lt (lt_gtr rfl rfl) rfl ?_
        refine at_lt (lt_pick false rfl (decide_eq_false (by omega)) rfl) rfl ?_
        refine s_nt ?_
        by_cases h969 : 402 < x964.Value.length
        ·replace hr := ipos h969 hr
         refine at_true rfl (decide_eq_true (by omega)) ?_
         refine s_sr (s_as rfl (s_nt (at_ret ?_)))
         have hq := oinj hr
         clear hr
         subst hq
         have hq := oinj hk950
         clear hk950
         subst hq
         have hq := oinj hk930
         clear hk930
         subst hq
         refine at_in_ret (at_then_ret (at_then_ret (at_in_ret (at_then_ret (at_in_ret (at_then_ret (at_then_ret (at_in_ret (at_then_ret ?_)))))))))
         refine at_then_ret ?_
         exact at_return (.bool false) [] hS Tryz.results12 (.cons (.tmp rfl) .nil) rfl rfl ⟨rfl, rfl⟩
        replace hr := ineg h969 hr
        refine at_false rfl (decide_eq_false (by omega)) ?_
        refine at_skip (at_in (s_tr (s_mv rfl (at_lt (lt_add rfl rfl (by simp only [lo, hi]; omega)) rfl (s_as rfl (at_nil (at_int .i64 (x947 + 1 : Int) (by simp only [lo, hi]; omega) ?_)))))))
        exact at_again (σ := Nat) (V := Unit) (lp := fun n s => m12_l2 x934 n s) (S := fun s e => (⟨[(1, .int .i64 a1), (2, .pointer (some (Addr.add ⟨b926, 0, none⟩ 0))), (5, .int .i64 (x927 : Int)), (6, .pointer (some (Addr.add ⟨b939, 0, none⟩ 0))), (7, .int .i64 (s : Int))], [⟨b939, [str x934.Tag, .int .u8 (x934.Ind_0.toNat : Int), .int .u8 (x934.Ind_1.toNat : Int), s936], 59⟩, ⟨b926, [.int .i64 a0.ID, s923], 24⟩], [], [((Ty.int .i64).fact (s : Int) [.int .i64 (s : Int)]), ((Ty.int .i64).fact a1 [.int .i64 a1]), ((Ty.int .i64).fact (x927 : Int) [.int .i64 (x927 : Int)]), (Ty.str.fact x934.Tag [str x934.Tag]), ((Ty.slice ty67).fact x934.Subs [s936]), ((Ty.int .i64).fact a0.ID [.int .i64 a0.ID]), ((Ty.slice ty59).fact a0.Fields [s923])]⟩ : St)) (x947 + 1) () hr ⟨⟨rfl, ⟨rfl, ⟨rfl, ⟨rfl, ⟨rfl, trivial⟩⟩⟩⟩⟩, ⟨[true, true], rfl⟩, ⟨[], rfl⟩, ⟨[0, 11, 12, 13, 14, 15, 16], rfl⟩⟩
       replace hr := ineg h957 hr
       refine at_off rfl rfl (decide_eq_false (by omega)) rfl ?_
       refine at_off rfl rfl (decide_eq_false (by omega)) rfl ?_
       refine at_off rfl rfl (decide_eq_false (by omega)) rfl ?_
       refine at_off rfl rfl (decide_eq_false (by omega)) rfl ?_
       refine at_off rfl rfl (decide_eq_false (by omega)) rfl ?_
       refine at_off rfl rfl (decide_eq_false (by omega)) rfl ?_
       refine at_off rfl rfl (decide_eq_false (by omega)) rfl ?_
       refine at_off rfl rfl (decide_eq_false (by omega)) rfl ?_
       refine at_lt (lt_pick false rfl (decide_eq_false (by omega)) rfl) rfl ?_
       refine s_mv rfl (at_on rfl rfl rfl (at_lt (lt_fieldAddr 3 rfl fld59_2 rfl) rfl (at_on rfl rfl rfl (at_lt (lt_load_box 0 rfl ti57 rfl rfl rfl rfl rfl) rfl (at_on rfl rfl rfl (s_mv rfl ?_))))))
       replace hr := obind hr
       obtain ⟨x970, h971, hr⟩ := hr
       have := (List.getElem?_eq_some_iff.1 h971).1
       refine at_elem 7 rfl (nat_at' h971) (fun p972 ec pa973 => ?_)
       refine at_open (A := Unit) 0 rfl _ _ (fun F w h => op67 h) ?_
       rintro _ rfl
       refine at_on rfl rfl rfl (at_lt (lt_idx rfl rfl pa973 und57 ti67) rfl (at_on rfl rfl rfl (at_lt (lt_fieldAddr 1 rfl fld67_1 rfl) rfl (at_on rfl rfl rfl (at_lt (lt_load_peek 2 rfl ti9 rfl rfl rfl rfl rfl) rfl ?_)))))
       refine at_inv 0 rfl (fun l974 => ?_)
       replace l974 : x970.Value.length ≤ 9223372036854775807 := l974
       refine at_on rfl rfl rfl (at_lt (lt_slen rfl und9) rfl (at_on rfl rfl rfl (at_lt (lt_gtr rfl rfl) rfl (at_lt (lt_pick false rfl rfl rfl) rfl (s_nt ?_)))))
       by_cases h975 : 402 < x970.Value.length
       ·replace hr := ipos h975 hr
        refine at_true rfl (decide_eq_true (by omega)) ?_
        refine s_sr (s_as rfl (s_nt (at_ret ?_)))
        have hq := oinj hr
        clear hr
        subst hq
        have hq := oinj hk950
        clear hk950
        subst hq
        have hq := oinj hk930
        clear hk930
        subst hq
        refine at_in_ret (at_then_ret (at_then_ret (at_in_ret (at_then_ret (at_in_ret (at_then_ret (at_then_ret (at_in_ret (at_then_ret ?_)))))))))
        refine at_then_ret ?_
        exact at_return (.bool false) [] hS Tryz.results12 (.cons (.tmp rfl) .nil) rfl rfl ⟨rfl, rfl⟩
       replace hr := ineg h975 hr
       refine at_false rfl (decide_eq_false (by omega)) ?_
       refine at_skip (at_in (s_tr (s_mv rfl (at_lt (lt_add rfl rfl (by simp only [lo, hi]; omega)) rfl (s_as rfl (at_nil (at_int .i64 (x947 + 1 : Int) (by simp only [lo, hi]; omega) ?_)))))))
       exact at_again (σ := Nat) (V := Unit) (lp := fun n s => m12_l2 x934 n s) (S := fun s e => (⟨[(1, .int .i64 a1), (2, .pointer (some (Addr.add ⟨b926, 0, none⟩ 0))), (5, .int .i64 (x927 : Int)), (6, .pointer (some (Addr.add ⟨b939, 0, none⟩ 0))), (7, .int .i64 (s : Int))], [⟨b939, [str x934.Tag, .int .u8 (x934.Ind_0.toNat : Int), .int .u8 (x934.Ind_1.toNat : Int), s936], 59⟩, ⟨b926, [.int .i64 a0.ID, s923], 24⟩], [], [((Ty.int .i64).fact (s : Int) [.int .i64 (s : Int)]), ((Ty.int .i64).fact a1 [.int .i64 a1]), ((Ty.int .i64).fact (x927 : Int) [.int .i64 (x927 : Int)]), (Ty.str.fact x934.Tag [str x934.Tag]), ((Ty.slice ty67).fact x934.Subs [s936]), ((Ty.int .i64).fact a0.ID [.int .i64 a0.ID]), ((Ty.slice ty59).fact a0.Fields [s923])]⟩ : St)) (x947 + 1) () hr ⟨⟨rfl, ⟨rfl, ⟨rfl, ⟨rfl, ⟨rfl, trivial⟩⟩⟩⟩⟩, ⟨[true, true], rfl⟩, ⟨[], rfl⟩, ⟨[0, 8, 9, 10, 11, 12, 13], rfl⟩⟩
      replace hr := ineg h951 hr
      refine at_false rfl (decide_eq_false (by omega)) ?_
      refine at_exit (at_then_exit (at_then_exit (at_in_exit ?_)))
      have hq := oinj hr
      clear hr
      subst hq
      exact at_leafP ((), ()) rfl ⟨⟨rfl, ⟨rfl, ⟨rfl, trivial⟩⟩⟩, ⟨[false, true], rfl⟩, ⟨[], rfl⟩, ⟨[1, 2, 5, 6], rfl⟩⟩
     rintro ⟨_, _⟩ hp
     replace hr := hk950
     subst hp
     clear hl949
     change At _ _ (⟨[(1, .int .i64 a1), (2, .pointer (some (Addr.add ⟨b926, 0, none⟩ 0))), (5, .int .i64 (x927 : Int))], [⟨b926, [.int .i64 a0.ID, s923], 24⟩], [], [((Ty.int .i64).fact a1 [.int .i64 a1]), ((Ty.int .i64).fact (x927 : Int) [.int .i64 (x927 : Int)]), ((Ty.int .i64).fact a0.ID [.int .i64 a0.ID]), ((Ty.slice ty59).fact a0.Fields [s923])]⟩ : St) _
     refine at_in (s_tr (s_mv rfl (at_lt (lt_add rfl rfl (by simp only [lo, hi]; omega)) rfl (s_as rfl (at_nil (at_int .i64 (x927 + 1 : Int) (by simp only [lo, hi]; omega) ?_))))))
     exact at_again (σ := Nat) (V := Unit) (lp := fun n s => m12_l1 a0 n s) (S := fun s e => (⟨[(1, .int .i64 a1), (2, .pointer (some (Addr.add ⟨b926, 0, none⟩ 0))), (5, .int .i64 (s : Int))], [⟨b926, [.int .i64 a0.ID, s923], 24⟩], [], [((Ty.int .i64).fact (s : Int) [.int .i64 (s : Int)]), ((Ty.int .i64).fact a1 [.int .i64 a1]), ((Ty.int .i64).fact a0.ID [.int .i64 a0.ID]), ((Ty.slice ty59).fact a0.Fields [s923])]⟩ : St)) (x927 + 1) () hr ⟨⟨rfl, ⟨rfl, ⟨rfl, trivial⟩⟩⟩, ⟨[true], rfl⟩, ⟨[], rfl⟩, ⟨[0, 1, 3, 4], rfl⟩⟩
    replace hr := ineg h944 hr
    refine at_on rfl rfl (nf (decide_eq_false (by omega))) ?_
    refine at_lt (lt_fieldAddr 3 rfl fld59_2 rfl) rfl ?_
    refine at_on rfl rfl (nf (decide_eq_false (by omega))) ?_
    refine at_lt (lt_load_box 0 rfl ti57 rfl rfl rfl rfl rfl) rfl ?_
    refine at_on rfl rfl (nf (decide_eq_false (by omega))) ?_
    refine at_lt (lt_flen 1 rfl rfl und57) rfl ?_
    refine at_on rfl rfl (nf (decide_eq_false (by omega))) ?_
    refine at_lt (lt_neq rfl rfl) rfl ?_
    refine at_lt (lt_pick true rfl (nf (decide_eq_false (by omega))) rfl) rfl ?_
    refine s_mv rfl ?_
    by_cases h976 : x934.Subs.length = 21
    ·replace hr := ipos h976 hr
     refine at_on rfl rfl (nt (decide_eq_true (by omega))) ?_
     refine at_lt (lt_fieldAddr 0 rfl fld59_0 rfl) rfl ?_
     refine at_on rfl rfl (nt (decide_eq_true (by omega))) ?_
     refine at_lt (lt_load_box 0 rfl ti9 rfl rfl rfl rfl rfl) rfl ?_
     refine at_inv 0 rfl (fun l977 => ?_)
     replace l977 : x934.Tag.length ≤ 9223372036854775807 := l977
     refine at_on rfl rfl (nt (decide_eq_true (by omega))) ?_
     refine at_lt (lt_slen rfl und9) rfl ?_
     refine at_on rfl rfl (nt (decide_eq_true (by omega))) ?_
     refine at_lt (lt_gtr rfl rfl) rfl ?_
     refine at_lt (lt_pick false rfl (nt (decide_eq_true (by omega))) rfl) rfl ?_
     refine s_nt ?_
     by_cases h978 : 20 < x934.Tag.length
     ·replace hr := ipos h978 hr
      refine at_true rfl (decide_eq_true (by omega)) ?_
      refine s_sr (s_as rfl (s_nt (at_ret ?_)))
      have hq := oinj hr
      clear hr
      subst hq
      have hq := oinj hk930
      clear hk930
      subst hq
      refine at_then_ret (at_in_ret (at_then_ret (at_then_ret (at_in_ret (at_then_ret (at_then_ret ?_))))))
      exact at_return (.bool false) [] hS Tryz.results12 (.cons (.tmp rfl) .nil) rfl rfl ⟨rfl, rfl⟩
     replace hr := ineg h978 hr
     refine at_false rfl (decide_eq_false (by omega)) ?_
     refine at_skip (s_tsr (s_as rfl (s_nt (at_int .i64 0 (by simp only [lo, hi]; omega) ?_))))
     replace hr := obind hr
     obtain ⟨r980, hl981, hk982⟩ := hr
     refine at_cutP (V := (Unit) × (Unit)) (fun v => r980 = Fl.go v.1) (fun v => (⟨[(1, .int .i64 a1), (2, .pointer (some (Addr.add ⟨b926, 0, none⟩ 0))), (5, .int .i64 (x927 : Int))], [⟨b926, [.int .i64 a0.ID, s923], 24⟩], [], [((Ty.int .i64).fact a1 [.int .i64 a1]), ((Ty.int .i64).fact (x927 : Int) [.int .i64 (x927 : Int)]), ((Ty.int .i64).fact a0.ID [.int .i64 a0.ID]), ((Ty.slice ty59).fact a0.Fields [s923])]⟩ : St)) ?_ ?_
     ·refine at_block ?_
      refine at_loopW (σ := Nat) (V := Unit) (r := r980) (fun n s => m12_l3 x934 n s) (fun s e => (⟨[(1, .int .i64 a1), (2, .pointer (some (Addr.add ⟨b926, 0, none⟩ 0))), (5, .int .i64 (x927 : Int)), (6, .pointer (some (Addr.add ⟨b939, 0, none⟩ 0))), (7, .int .i64 (s : Int))], [⟨b939, [str x934.Tag, .int .u8 (x934.Ind_0.toNat : Int), .int .u8 (x934.Ind_1.toNat : Int), s936], 59⟩, ⟨b926, [.int .i64 a0.ID, s923], 24⟩], [], [((Ty.int .i64).fact (s : Int) [.int .i64 (s : Int)]), ((Ty.int .i64).fact a1 [.int .i64 a1]), ((Ty.int .i64).fact (x927 : Int) [.int .i64 (x927 : Int)]), (Ty.str.fact x934.Tag [str x934.Tag]), ((Ty.slice ty67).fact x934.Subs [s936]), ((Ty.int .i64).fact a0.ID [.int .i64 a0.ID]), ((Ty.slice ty59).fact a0.Fields [s923])]⟩ : St)) (fun _ => rfl) _ 0 () hl981 ⟨⟨rfl, ⟨rfl, ⟨rfl, ⟨rfl, ⟨rfl, trivial⟩⟩⟩⟩⟩, ⟨[true, true], rfl⟩, ⟨[], rfl⟩, ⟨[0, 6, 5, 1, 2, 7, 8], rfl⟩⟩ ?_
      clear hl981
      intro n x979 hr e
      skip
      skip
      change m12_l3 x934 (n + 1) x979 = some r980 at hr
      change At _ _ (⟨[(1, .int .i64 a1), (2, .pointer (some (Addr.add ⟨b926, 0, none⟩ 0))), (5, .int .i64 (x927 : Int)), (6, .pointer (some (Addr.add ⟨b939, 0, none⟩ 0))), (7, .int .i64 (x979 : Int))], [⟨b939, [str x934.Tag, .int .u8 (x934.Ind_0.toNat : Int), .int .u8 (x934.Ind_1.toNat : Int), s936], 59⟩, ⟨b926, [.int .i64 a0.ID, s923], 24⟩], [], [((Ty.int .i64).fact (x979 : Int) [.int .i64 (x979 : Int)]), ((Ty.int .i64).fact a1 [.int .i64 a1]), ((Ty.int .i64).fact (x927 : Int) [.int .i64 (x927 : Int)]), (Ty.str.fact x934.Tag [str x934.Tag]), ((Ty.slice ty67).fact x934.Subs [s936]), ((Ty.int .i64).fact a0.ID [.int .i64 a0.ID]), ((Ty.slice ty59).fact a0.Fields [s923])]⟩ : St) _
      rw [m12_l3] at hr
      refine at_seq (s_sr (s_mv rfl (at_lt (lt_fieldAddr 3 rfl fld59_2 rfl) rfl (at_lt (lt_load_box 0 rfl ti57 rfl rfl rfl rfl rfl) rfl (at_lt (lt_flen 4 rfl rfl und57) rfl (at_lt (lt_lss rfl rfl) rfl (s_nt ?_)))))))
      by_cases h983 : x979 < x934.Subs.length
      ·replace hr := ipos h983 hr
       refine at_true rfl (decide_eq_true (by omega)) ?_
       refine at_skip (at_then (at_seq (at_block (s_sr (at_lt (lt_fieldAddr 3 rfl fld59_2 rfl) rfl (at_lt (lt_load_box 0 rfl ti57 rfl rfl rfl rfl rfl) rfl (s_mv rfl ?_)))))))
       replace hr := obind hr
       obtain ⟨x984, h985, hr⟩ := hr
       have := (List.getElem?_eq_some_iff.1 h985).1
       refine at_elem 4 rfl (nat_at' h985) (fun p986 ec pa987 => ?_)
       refine at_open (A := Unit) 0 rfl _ _ (fun F w h => op67 h) ?_
       rintro _ rfl
       refine at_lt (lt_idx rfl rfl pa987 und57 ti67) rfl (at_lt (lt_fieldAddr 1 rfl fld67_1 rfl) rfl (at_lt (lt_load_peek 2 rfl ti9 rfl rfl rfl rfl rfl) rfl ?_))
       refine at_inv 0 rfl (fun l988 => ?_)
       replace l988 : x984.Value.length ≤ 9223372036854775807 := l988
       refine at_lt (lt_slen rfl und9) rfl (at_lt (lt_gtr rfl rfl) rfl (s_mv rfl ?_))
       by_cases h989 : 80 < x984.Value.length
       ·replace hr := ipos h989 hr
        refine at_on rfl rfl (decide_eq_true (by omega)) ?_
        refine at_lt (lt_fieldAddr 3 rfl fld59_2 rfl) rfl ?_
        refine at_on rfl rfl (decide_eq_true (by omega)) ?_
        refine at_lt (lt_load_box 0 rfl ti57 rfl rfl rfl rfl rfl) rfl ?_
        refine at_on rfl rfl (decide_eq_true (by omega)) ?_
        refine s_mv rfl ?_
        replace hr := obind hr
        obtain ⟨x990, h991, hr⟩ := hr
        have := (List.getElem?_eq_some_iff.1 h991).1
        refine at_elem 7 rfl (nat_at' h991) (fun p992 ec pa993 => ?_)
        refine at_open (A := Unit) 0 rfl _ _ (fun F w h => op67 h) ?_
        rintro _ rfl
        refine at_on rfl rfl (decide_eq_true (by omega)) ?_
        refine at_lt (lt_idx rfl rfl pa993 und57 ti67) rfl ?_
        refine at_on rfl rfl (decide_eq_true (by omega)) ?_
        refine at_lt (lt_fieldAddr 1 rfl fld67_1 rfl) rfl ?_
        refine at_on rfl rfl (decide_eq_true (by omega)) ?_
        refine at_lt (lt_load_peek 2 rfl ti9 rfl rfl rfl rfl rfl) rfl ?_
        refine at_inv 0 rfl (fun l994 => ?_)
        replace l994 : x990.Value.length ≤ 9223372036854775807 := l994
        refine at_on rfl rfl (decide_eq_true (by omega)) ?_
        refine at_lt (lt_slen rfl und9) rfl ?_
        refine at_on rfl rfl (decide_eq_true (by omega)) ?_
        refine at_lt (lt_lss rfl rfl) rfl ?_
        refine at_lt (lt_pick true rfl (decide_eq_true (by omega)) rfl) rfl ?_
        refine s_mv rfl ?_
        by_cases h995 : x990.Value.length < 400
        ·replace hr := ipos h995 hr
         refine at_off rfl rfl (decide_eq_true (by omega)) rfl ?_
         refine at_off rfl rfl (decide_eq_true (by omega)) rfl ?_
         refine at_off rfl rfl (decide_eq_true (by omega)) rfl ?_
         refine at_off rfl rfl (decide_eq_true (by omega)) rfl ?_
         refine at_off rfl rfl (decide_eq_true (by omega)) rfl ?_
         refine at_off rfl rfl (decide_eq_true (by omega)) rfl ?_
         refine at_off rfl rfl (decide_eq_true (by omega)) rfl ?_
         refine at_off rfl rfl (decide_eq_true (by omega)) rfl ?_
         refine at_lt (lt_pick true rfl (decide_eq_true (by omega)) rfl) rfl ?_
         refine s_nt (at_true rfl rfl (s_sr (s_as rfl (s_nt (at_ret ?_)))))
         have hq := oinj hr
         clear hr
         subst hq
         have hq := oinj hk982
         clear hk982
         subst hq
         have hq := oinj hk930
         clear hk930
         subst hq
         refine at_in_ret (at_then_ret (at_then_ret (at_in_ret (at_then_ret (at_in_ret (at_then_ret (at_then_ret (at_in_ret (at_then_ret ?_)))))))))
         refine at_then_ret ?_
         exact at_return (.bool false) [] hS Tryz.results12 (.cons (.tmp rfl) .nil) rfl rfl ⟨rfl, rfl⟩
        replace hr := ineg h995 hr
        refine at_on rfl rfl (decide_eq_false (by omega)) ?_
        refine at_lt (lt_fieldAddr 3 rfl fld59_2 rfl) rfl ?_
        refine at_on rfl rfl (decide_eq_false (by omega)) ?_
        refine at_lt (lt_load_box 0 rfl ti57 rfl rfl rfl rfl rfl) rfl ?_
        refine at_on rfl rfl (decide_eq_false (by omega)) ?_
        refine s_mv rfl ?_
        replace hr := obind hr
        obtain ⟨x996, h997, hr⟩ := hr
        have := (List.getElem?_eq_some_iff.1 h997).1
        refine at_elem 10 rfl (nat_at' h997) (fun p998 ec pa999 => ?_)
        refine at_open (A := Unit) 0 rfl _ _ (fun F w h => op67 h) ?_
        rintro _ rfl
        refine at_on rfl rfl (decide_eq_false (by omega)) ?_
        refine at_lt (lt_idx rfl rfl pa999 und57 ti67) rfl ?_
        refine at_on rfl rfl (decide_eq_false (by omega)) ?_
        refine at_lt (lt_fieldAddr 1 rfl fld67_1 rfl) rfl ?_
        refine at_on rfl rfl (decide_eq_false (by omega)) ?_
        refine at_lt (lt_load_peek 2 rfl ti9 rfl rfl rfl rfl rfl) rfl ?_
        refine at_inv 0 rfl (fun l1000 => ?_)
        replace l1000 : x996.Value.length ≤ 9223372036854775807 := l1000
        refine at_on rfl rfl (decide_eq_false (by omega)) ?_
        refine at_lt (lt_slen rfl und9) rfl ?_
        refine at_on rfl rfl (decide_eq_false (by omega)) ?_
        refine at_lt (lt_gtr rfl rfl) rfl ?_
        refine at_lt (lt_pick false rfl (decide_eq_false (by omega)) rfl) rfl ?_
        refine s_nt ?_
        by_cases h1001 : 402 < x996.Value.length
        ·replace hr := ipos h1001 hr
         refine at_true rfl (decide_eq_true (by omega)) ?_
         refine s_sr (s_as rfl (s_nt (at_ret ?_)))
         have hq := oinj hr
         clear hr
         subst hq
         have hq := oinj hk982
         clear hk982
         subst hq
         have hq := oinj hk930
         clear hk930
         subst hq
         refine at_in_ret (at_then_ret (at_then_ret (at_in_ret (at_then_ret (at_in_ret (at_then_ret (at_then_ret (at_in_ret (at_then_ret ?_)))))))))
         refine at_then_ret ?_
         exact at_return (.bool false) [] hS Tryz.results12 (.cons (.tmp rfl) .nil) rfl rfl ⟨rfl, rfl⟩
        replace hr := ineg h1001 hr
        refine at_false rfl (decide_eq_false (by omega)) ?_
        refine at_skip (at_in (s_tr (s_mv rfl (at_lt (lt_add rfl rfl (by simp only [lo, hi]; omega)) rfl (s_as rfl (at_nil (at_int .i64 (x979 + 1 : Int) (by simp only [lo, hi]; omega) ?_)))))))
        exact at_again (σ := Nat) (V := Unit) (lp := fun n s => m12_l3 x934 n s) (S := fun s e => (⟨[(1, .int .i64 a1), (2, .pointer (some (Addr.add ⟨b926, 0, none⟩ 0))), (5, .int .i64 (x927 : Int)), (6, .pointer (some (Addr.add ⟨b939, 0, none⟩ 0))), (7, .int .i64 (s : Int))], [⟨b939, [str x934.Tag, .int .u8 (x934.Ind_0.toNat : Int), .int .u8 (x934.Ind_1.toNat : Int), s936], 59⟩, ⟨b926, [.int .i64 a0.ID, s923], 24⟩], [], [((Ty.int .i64).fact (s : Int) [.int .i64 (s : Int)]), ((Ty.int .i64).fact a1 [.int .i64 a1]), ((Ty.int .i64).fact (x927 : Int) [.int .i64 (x927 : Int)]), (Ty.str.fact x934.Tag [str x934.Tag]), ((Ty.slice ty67).fact x934.Subs [s936]), ((Ty.int .i64).fact a0.ID [.int .i64 a0.ID]), ((Ty.slice ty59).fact a0.Fields [s923])]⟩ : St)) (x979 + 1) () hr ⟨⟨rfl, ⟨rfl, ⟨rfl, ⟨rfl, ⟨rfl, trivial⟩⟩⟩⟩⟩, ⟨[true, true], rfl⟩, ⟨[], rfl⟩, ⟨[0, 11, 12, 13, 14, 15, 16], rfl⟩⟩
       replace hr := ineg h989 hr
       refine at_off rfl rfl (decide_eq_false (by omega)) rfl ?_
       refine at_off rfl rfl (decide_eq_false (by omega)) rfl ?_
       refine at_off rfl rfl (decide_eq_false (by omega)) rfl ?_
       refine at_off rfl rfl (decide_eq_false (by omega)) rfl ?_
       refine at_off rfl rfl (decide_eq_false (by omega)) rfl ?_
       refine at_off rfl rfl (decide_eq_false (by omega)) rfl ?_
       refine at_off rfl rfl (decide_eq_false (by omega)) rfl ?_
       refine at_off rfl rfl (decide_eq_false (by omega)) rfl ?_
       refine at_lt (lt_pick false rfl (decide_eq_false (by omega)) rfl) rfl ?_
       refine s_mv rfl (at_on rfl rfl rfl (at_lt (lt_fieldAddr 3 rfl fld59_2 rfl) rfl (at_on rfl rfl rfl (at_lt (lt_load_box 0 rfl ti57 rfl rfl rfl rfl rfl) rfl (at_on rfl rfl rfl (s_mv rfl ?_))))))
       replace hr := obind hr
       obtain ⟨x1002, h1003, hr⟩ := hr
       have := (List.getElem?_eq_some_iff.1 h1003).1
       refine at_elem 7 rfl (nat_at' h1003) (fun p1004 ec pa1005 => ?_)
       refine at_open (A := Unit) 0 rfl _ _ (fun F w h => op67 h) ?_
       rintro _ rfl
       refine at_on rfl rfl rfl (at_lt (lt_idx rfl rfl pa1005 und57 ti67) rfl (at_on rfl rfl rfl (at_lt (lt_fieldAddr 1 rfl fld67_1 rfl) rfl (at_on rfl rfl rfl (at_lt (lt_load_peek 2 rfl ti9 rfl rfl rfl rfl rfl) rfl ?_)))))
       refine at_inv 0 rfl (fun l1006 => ?_)
       replace l1006 : x1002.Value.length ≤ 9223372036854775807 := l1006
       refine at_on rfl rfl rfl (at_lt (lt_slen rfl und9) rfl (at_on rfl rfl rfl (at_lt (lt_gtr rfl rfl) rfl (at_lt (lt_pick false rfl rfl rfl) rfl (s_nt ?_)))))
       by_cases h1007 : 402 < x1002.Value.length
       ·replace hr := ipos h1007 hr
        refine at_true rfl (decide_eq_true (by omega)) ?_
        refine s_sr (s_as rfl (s_nt (at_ret ?_)))
        have hq := oinj hr
        clear hr
        subst hq
        have hq := oinj hk982
        clear hk982
        subst hq
        have hq := oinj hk930
        clear hk930
        subst hq
        refine at_in_ret (at_then_ret (at_then_ret (at_in_ret (at_then_ret (at_in_ret (at_then_ret (at_then_ret (at_in_ret (at_then_ret ?_)))))))))
        refine at_then_ret ?_
        exact at_return (.bool false) [] hS Tryz.results12 (.cons (.tmp rfl) .nil) rfl rfl ⟨rfl, rfl⟩
       replace hr := ineg h1007 hr
       refine at_false rfl (decide_eq_false (by omega)) ?_
       refine at_skip (at_in (s_tr (s_mv rfl (at_lt (lt_add rfl rfl (by simp only [lo, hi]; omega)) rfl (s_as rfl (at_nil (at_int .i64 (x979 + 1 : Int) (by simp only [lo, hi]; omega) ?_)))))))
       exact at_again (σ := Nat) (V := Unit) (lp := fun n s => m12_l3 x934 n s) (S := fun s e => (⟨[(1, .int .i64 a1), (2, .pointer (some (Addr.add ⟨b926, 0, none⟩ 0))), (5, .int .i64 (x927 : Int)), (6, .pointer (some (Addr.add ⟨b939, 0, none⟩ 0))), (7, .int .i64 (s : Int))], [⟨b939, [str x934.Tag, .int .u8 (x934.Ind_0.toNat : Int), .int .u8 (x934.Ind_1.toNat : Int), s936], 59⟩, ⟨b926, [.int .i64 a0.ID, s923], 24⟩], [], [((Ty.int .i64).fact (s : Int) [.int .i64 (s : Int)]), ((Ty.int .i64).fact a1 [.int .i64 a1]), ((Ty.int .i64).fact (x927 : Int) [.int .i64 (x927 : Int)]), (Ty.str.fact x934.Tag [str x934.Tag]), ((Ty.slice ty67).fact x934.Subs [s936]), ((Ty.int .i64).fact a0.ID [.int .i64 a0.ID]), ((Ty.slice ty59).fact a0.Fields [s923])]⟩ : St)) (x979 + 1) () hr ⟨⟨rfl, ⟨rfl, ⟨rfl, ⟨rfl, ⟨rfl, trivial⟩⟩⟩⟩⟩, ⟨[true, true], rfl⟩, ⟨[], rfl⟩, ⟨[0, 8, 9, 10, 11, 12, 13], rfl⟩⟩
      replace hr := ineg h983 hr
      refine at_false rfl (decide_eq_false (by omega)) ?_
      refine at_exit (at_then_exit (at_then_exit (at_in_exit ?_)))
      have hq := oinj hr
      clear hr
      subst hq
      exact at_leafP ((), ()) rfl ⟨⟨rfl, ⟨rfl, ⟨rfl, trivial⟩⟩⟩, ⟨[false, true], rfl⟩, ⟨[], rfl⟩, ⟨[1, 2, 5, 6], rfl⟩⟩
     rintro ⟨_, _⟩ hp
     replace hr := hk982
     subst hp
     clear hl981
     change At _ _ (⟨[(1, .int .i64 a1), (2, .pointer (some (Addr.add ⟨b926, 0, none⟩ 0))), (5, .int .i64 (x927 : Int))], [⟨b926, [.int .i64 a0.ID, s923], 24⟩], [], [((Ty.int .i64).fact a1 [.int .i64 a1]), ((Ty.int .i64).fact (x927 : Int) [.int .i64 (x927 : Int)]), ((Ty.int .i64).fact a0.ID [.int .i64 a0.ID]), ((Ty.slice ty59).fact a0.Fields [s923])]⟩ : St) _
     refine at_in (s_tr (s_mv rfl (at_lt (lt_add rfl rfl (by simp only [lo, hi]; omega)) rfl (s_as rfl (at_nil (at_int .i64 (x927 + 1 : Int) (by simp only [lo, hi]; omega) ?_))))))
     exact at_again (σ := Nat) (V := Unit) (lp := fun n s => m12_l1 a0 n s) (S := fun s e => (⟨[(1, .int .i64 a1), (2, .pointer (some (Addr.add ⟨b926, 0, none⟩ 0))), (5, .int .i64 (s : Int))], [⟨b926, [.int .i64 a0.ID, s923], 24⟩], [], [((Ty.int .i64).fact (s : Int) [.int .i64 (s : Int)]), ((Ty.int .i64).fact a1 [.int .i64 a1]), ((Ty.int .i64).fact a0.ID [.int .i64 a0.ID]), ((Ty.slice ty59).fact a0.Fields [s923])]⟩ : St)) (x927 + 1) () hr ⟨⟨rfl, ⟨rfl, ⟨rfl, trivial⟩⟩⟩, ⟨[true], rfl⟩, ⟨[], rfl⟩, ⟨[0, 1, 3, 4], rfl⟩⟩
    replace hr := ineg h976 hr
    refine at_off rfl rfl (nf (decide_eq_false (by omega))) rfl ?_
    refine at_off rfl rfl (nf (decide_eq_false (by omega))) rfl ?_
    refine at_off rfl rfl (nf (decide_eq_false (by omega))) rfl ?_
    refine at_off rfl rfl (nf (decide_eq_false (by omega))) rfl ?_
    refine at_lt (lt_pick true rfl (nf (decide_eq_false (by omega))) rfl) rfl ?_
    refine s_nt (at_true rfl rfl (s_sr (s_as rfl (s_nt (at_ret ?_)))))
    have hq := oinj hr
    clear hr
    subst hq
    have hq := oinj hk930
    clear hk930
    subst hq
    refine at_then_ret (at_in_ret (at_then_ret (at_then_ret (at_in_ret (at_then_ret (at_then_ret ?_))))))
    exact at_return (.bool false) [] hS Tryz.results12 (.cons (.tmp rfl) .nil) rfl rfl ⟨rfl, rfl⟩
   replace hr := ineg h943 hr
   refine at_off rfl rfl (decide_eq_false (by omega)) rfl ?_
   refine at_off rfl rfl (decide_eq_false (by omega)) rfl ?_
   refine at_off rfl rfl (decide_eq_false (by omega)) rfl ?_
   refine at_off rfl rfl (decide_eq_false (by omega)) rfl ?_
   refine at_lt (lt_pick false rfl (decide_eq_false (by omega)) rfl) rfl ?_
   refine s_mv rfl (at_off rfl rfl rfl rfl (at_off rfl rfl rfl rfl (at_off rfl rfl rfl rfl (at_off rfl rfl rfl rfl (at_lt (lt_pick false rfl rfl rfl) rfl (s_mv rfl (at_on rfl rfl rfl (at_lt (lt_fieldAddr 0 rfl fld59_0 rfl) rfl (at_on rfl rfl rfl ?_)))))))))
   refine at_lt (lt_load_box 0 rfl ti9 rfl rfl rfl rfl rfl) rfl ?_
   refine at_inv 0 rfl (fun l1008 => ?_)
   replace l1008 : x934.Tag.length ≤ 9223372036854775807 := l1008
   refine at_on rfl rfl rfl (at_lt (lt_slen rfl und9) rfl (at_on rfl rfl rfl (at_lt (lt_gtr rfl rfl) rfl (at_lt (lt_pick false rfl rfl rfl) rfl (s_nt ?_)))))
   by_cases h1009 : 20 < x934.Tag.length
   ·replace hr := ipos h1009 hr
    refine at_true rfl (decide_eq_true (by omega)) ?_
    refine s_sr (s_as rfl (s_nt (at_ret ?_)))
    have hq := oinj hr
    clear hr
    subst hq
    have hq := oinj hk930
    clear hk930
    subst hq
    refine at_then_ret (at_in_ret (at_then_ret (at_then_ret (at_in_ret (at_then_ret (at_then_ret ?_))))))
    exact at_return (.bool false) [] hS Tryz.results12 (.cons (.tmp rfl) .nil) rfl rfl ⟨rfl, rfl⟩
   replace hr := ineg h1009 hr
   refine at_false rfl (decide_eq_false (by omega)) ?_
   refine at_skip (s_tsr (s_as rfl (s_nt (at_int .i64 0 (by simp only [lo, hi]; omega) ?_))))
   replace hr := obind hr
   obtain ⟨r1011, hl1012, hk1013⟩ := hr
   refine at_cutP (V := (Unit) × (Unit)) (fun v => r1011 = Fl.go v.1) (fun v => (⟨[(1, .int .i64 a1), (2, .pointer (some (Addr.add ⟨b926, 0, none⟩ 0))), (5, .int .i64 (x927 : Int))], [⟨b926, [.int .i64 a0.ID, s923], 24⟩], [], [((Ty.int .i64).fact a1 [.int .i64 a1]), ((Ty.int .i64).fact (x927 : Int) [.int .i64 (x927 : Int)]), ((Ty.int .i64).fact a0.ID [.int .i64 a0.ID]), ((Ty.slice ty59).fact a0.Fields [s923])]⟩ : St)) ?_ ?_
   ·refine at_block ?_
    refine at_loopW (σ := Nat) (V := Unit) (r := r1011) (fun n s => m12_l4 x934 n s) (fun s e => (⟨[(1, .int .i64 a1), (2, .pointer (some (Addr.add ⟨b926, 0, none⟩ 0))), (5, .int .i64 (x927 : Int)), (6, .pointer (some (Addr.add ⟨b939, 0, none⟩ 0))), (7, .int .i64 (s : Int))], [⟨b939, [str x934.Tag, .int .u8 (x934.Ind_0.toNat : Int), .int .u8 (x934.Ind_1.toNat : Int), s936], 59⟩, ⟨b926, [.int .i64 a0.ID, s923], 24⟩], [], [((Ty.int .i64).fact (s : Int) [.int .i64 (s : Int)]), ((Ty.int .i64).fact a1 [.int .i64 a1]), ((Ty.int .i64).fact (x927 : Int) [.int .i64 (x927 : Int)]), (Ty.str.fact x934.Tag [str x934.Tag]), ((Ty.slice ty67).fact x934.Subs [s936]), ((Ty.int .i64).fact a0.ID [.int .i64 a0.ID]), ((Ty.slice ty59).fact a0.Fields [s923])]⟩ : St)) (fun _ => rfl) _ 0 () hl1012 ⟨⟨rfl, ⟨rfl, ⟨rfl, ⟨rfl, ⟨rfl, trivial⟩⟩⟩⟩⟩, ⟨[true, true], rfl⟩, ⟨[], rfl⟩, ⟨[0, 6, 5, 1, 2, 7, 8], rfl⟩⟩ ?_
    clear hl1012
    intro n x1010 hr e
    skip
    skip
    change m12_l4 x934 (n + 1) x1010 = some r1011 at hr
    change At _ _ (⟨[(1, .int .i64 a1), (2, .pointer (some (Addr.add ⟨b926, 0, none⟩ 0))), (5, .int .i64 (x927 : Int)), (6, .pointer (some (Addr.add ⟨b939, 0, none⟩ 0))), (7, .int .i64 (x1010 : Int))], [⟨b939, [str x934.Tag, .int .u8 (x934.Ind_0.toNat : Int), .int .u8 (x934.Ind_1.toNat : Int), s936], 59⟩, ⟨b926, [.int .i64 a0.ID, s923], 24⟩], [], [((Ty.int .i64).fact (x1010 : Int) [.int .i64 (x1010 : Int)]), ((Ty.int .i64).fact a1 [.int .i64 a1]), ((Ty.int .i64).fact (x927 : Int) [.int .i64 (x927 : Int)]), (Ty.str.fact x934.Tag [str x934.Tag]), ((Ty.slice ty67).fact x934.Subs [s936]), ((Ty.int .i64).fact a0.ID [.int .i64 a0.ID]), ((Ty.slice ty59).fact a0.Fields [s923])]⟩ : St) _
    rw [m12_l4] at hr
    refine at_seq (s_sr (s_mv rfl (at_lt (lt_fieldAddr 3 rfl fld59_2 rfl) rfl (at_lt (lt_load_box 0 rfl ti57 rfl rfl rfl rfl rfl) rfl (at_lt (lt_flen 4 rfl rfl und57) rfl (at_lt (lt_lss rfl rfl) rfl (s_nt ?_)))))))
    by_cases h1014 : x1010 < x934.Subs.length
    ·replace hr := ipos h1014 hr
     refine at_true rfl (decide_eq_true (by omega)) ?_
     refine at_skip (at_then (at_seq (at_block (s_sr (at_lt (lt_fieldAddr 3 rfl fld59_2 rfl) rfl (at_lt (lt_load_box 0 rfl ti57 rfl rfl rfl rfl rfl) rfl (s_mv rfl ?_)))))))
     replace hr := obind hr
     obtain ⟨x1015, h1016, hr⟩ := hr
     have := (List.getElem?_eq_some_iff.1 h1016).1
     refine at_elem 4 rfl (nat_at' h1016) (fun p1017 ec pa1018 => ?_)
     refine at_open (A := Unit) 0 rfl _ _ (fun F w h => op67 h) ?_
     rintro _ rfl
     refine at_lt (lt_idx rfl rfl pa1018 und57 ti67) rfl (at_lt (lt_fieldAddr 1 rfl fld67_1 rfl) rfl (at_lt (lt_load_peek 2 rfl ti9 rfl rfl rfl rfl rfl) rfl ?_))
     refine at_inv 0 rfl (fun l1019 => ?_)
     replace l1019 : x1015.Value.length ≤ 9223372036854775807 := l1019
     refine at_lt (lt_slen rfl und9) rfl (at_lt (lt_gtr rfl rfl) rfl (s_mv rfl ?_))
     by_cases h1020 : 80 < x1015.Value.length
     ·replace hr := ipos h1020 hr
      refine at_on rfl rfl (decide_eq_true (by omega)) ?_
      refine at_lt (lt_fieldAddr 3 rfl fld59_2 rfl) rfl ?_
      refine at_on rfl rfl (decide_eq_true (by omega)) ?_
      refine at_lt (lt_load_box 0 rfl ti57 rfl rfl rfl rfl rfl) rfl ?_
      refine at_on rfl rfl (decide_eq_true (by omega)) ?_
      refine s_mv rfl ?_
      replace hr := obind hr
      obtain ⟨x1021, h1022, hr⟩ := hr
      have := (List.getElem?_eq_some_iff.1 h1022).1
      refine at_elem 7 rfl (nat_at' h1022) (fun p1023 ec pa1024 => ?_)
      refine at_open (A := Unit) 0 rfl _ _ (fun F w h => op67 h) ?_
      rintro _ rfl
      refine at_on rfl rfl (decide_eq_true (by omega)) ?_
      refine at_lt (lt_idx rfl rfl pa1024 und57 ti67) rfl ?_
      refine at_on rfl rfl (decide_eq_true (by omega)) ?_
      refine at_lt (lt_fieldAddr 1 rfl fld67_1 rfl) rfl ?_
      refine at_on rfl rfl (decide_eq_true (by omega)) ?_
      refine at_lt (lt_load_peek 2 rfl ti9 rfl rfl rfl rfl rfl) rfl ?_
      refine at_inv 0 rfl (fun l1025 => ?_)
      replace l1025 : x1021.Value.length ≤ 9223372036854775807 := l1025
      refine at_on rfl rfl (decide_eq_true (by omega)) ?_
      refine at_lt (lt_slen rfl und9) rfl ?_
      refine at_on rfl rfl (decide_eq_true (by omega)) ?_
      refine at_lt (lt_lss rfl rfl) rfl ?_
      refine at_lt (lt_pick true rfl (decide_eq_true (by omega)) rfl) rfl ?_
      refine s_mv rfl ?_
      by_cases h1026 : x1021.Value.length < 400
      ·replace hr := ipos h1026 hr
       refine at_off rfl rfl (decide_eq_true (by omega)) rfl ?_
       refine at_off rfl rfl (decide_eq_true (by omega)) rfl ?_
       refine at_off rfl rfl (decide_eq_true (by omega)) rfl ?_
       refine at_off rfl rfl (decide_eq_true (by omega)) rfl ?_
       refine at_off rfl rfl (decide_eq_true (by omega)) rfl ?_
       refine at_off rfl rfl (decide_eq_true (by omega)) rfl ?_
       refine at_off rfl rfl (decide_eq_true (by omega)) rfl ?_
       refine at_off rfl rfl (decide_eq_true (by omega)) rfl ?_
       refine at_lt (lt_pick true rfl (decide_eq_true (by omega)) rfl) rfl ?_
       refine s_nt (at_true rfl rfl (s_sr (s_as rfl (s_nt (at_ret ?_)))))
       have hq := oinj hr
       clear hr
       subst hq
       have hq := oinj hk1013
       clear hk1013
       subst hq
       have hq := oinj hk930
       clear hk930
       subst hq
       refine at_in_ret (at_then_ret (at_then_ret (at_in_ret (at_then_ret (at_in_ret (at_then_ret (at_then_ret (at_in_ret (at_then_ret ?_)))))))))
       refine at_then_ret ?_
       exact at_return (.bool false) [] hS Tryz.results12 (.cons (.tmp rfl) .nil) rfl rfl ⟨rfl, rfl⟩
      replace hr := ineg h1026 hr
      refine at_on rfl rfl (decide_eq_false (by omega)) ?_
      refine at_lt (lt_fieldAddr 3 rfl fld59_2 rfl) rfl ?_
      refine at_on rfl rfl (decide_eq_false (by omega)) ?_
      refine at_lt (lt_load_box 0 rfl ti57 rfl rfl rfl rfl rfl) rfl ?_
      refine at_on rfl rfl (decide_eq_false (by omega)) ?_
      refine s_mv rfl ?_
      replace hr := obind hr
      obtain ⟨x1027, h1028, hr⟩ := hr
      have := (List.getElem?_eq_some_iff.1 h1028).1
      refine at_elem 10 rfl (nat_at' h1028) (fun p1029 ec pa1030 => ?_)
      refine at_open (A := Unit) 0 rfl _ _ (fun F w h => op67 h) ?_
      rintro _ rfl
      refine at_on rfl rfl (decide_eq_false (by omega)) ?_
      refine at_lt (lt_idx rfl rfl pa1030 und57 ti67) rfl ?_
      refine at_on rfl rfl (decide_eq_false (by omega)) ?_
      refine at_lt (lt_fieldAddr 1 rfl fld67_1 rfl) rfl ?_
      refine at_on rfl rfl (decide_eq_false (by omega)) ?_
      refine at_lt (lt_load_peek 2 rfl ti9 rfl rfl rfl rfl rfl) rfl ?_
      refine at_inv 0 rfl (fun l1031 => ?_)
      replace l1031 : x1027.Value.length ≤ 9223372036854775807 := l1031
      refine at_on rfl rfl (decide_eq_false (by omega)) ?_
      refine at_lt (lt_slen rfl und9) rfl ?_
      refine at_on rfl rfl (decide_eq_false (by omega)) ?_
      refine at_lt (lt_gtr rfl rfl) rfl ?_
      refine at_lt (lt_pick false rfl (decide_eq_false (by omega)) rfl) rfl ?_
      refine s_nt ?_
      by_cases h1032 : 402 < x1027.Value.length
      ·replace hr := ipos h1032 hr
       refine at_true rfl (decide_eq_true (by omega)) ?_
       refine s_sr (s_as rfl (s_nt (at_ret ?_)))
       have hq := oinj hr
       clear hr
       subst hq
       have hq := oinj hk1013
       clear hk1013
       subst hq
       have hq := oinj hk930
       clear hk930
       subst hq
       refine at_in_ret (at_then_ret (at_then_ret (at_in_ret (at_then_ret (at_in_ret (at_then_ret (at_then_ret (at_in_ret (at_then_ret ?_)))))))))
       refine at_then_ret ?_
       exact at_return (.bool false) [] hS Tryz.results12 (.cons (.tmp rfl) .nil) rfl rfl ⟨rfl, rfl⟩
      replace hr := ineg h1032 hr
      refine at_false rfl (decide_eq_false (by omega)) ?_
      refine at_skip (at_in (s_tr (s_mv rfl (at_lt (lt_add rfl rfl (by simp only [lo, hi]; omega)) rfl (s_as rfl (at_nil (at_int .i64 (x1010 + 1 : Int) (by simp only [lo, hi]; omega) ?_)))))))
      exact at_again (σ := Nat) (V := Unit) (lp := fun n s => m12_l4 x934 n s) (S := fun s e => (⟨[(1, .int .i64 a1), (2, .pointer (some (Addr.add ⟨b926, 0, none⟩ 0))), (5, .int .i64 (x927 : Int)), (6, .pointer (some (Addr.add ⟨b939, 0, none⟩ 0))), (7, .int .i64 (s : Int))], [⟨b939, [str x934.Tag, .int .u8 (x934.Ind_0.toNat : Int), .int .u8 (x934.Ind_1.toNat : Int), s936], 59⟩, ⟨b926, [.int .i64 a0.ID, s923], 24⟩], [], [((Ty.int .i64).fact (s : Int) [.int .i64 (s : Int)]), ((Ty.int .i64).fact a1 [.int .i64 a1]), ((Ty.int .i64).fact (x927 : Int) [.int .i64 (x927 : Int)]), (Ty.str.fact x934.Tag [str x934.Tag]), ((Ty.slice ty67).fact x934.Subs [s936]), ((Ty.int .i64).fact a0.ID [.int .i64 a0.ID]), ((Ty.slice ty59).fact a0.Fields [s923])]⟩ : St)) (x1010 + 1) () hr ⟨⟨rfl, ⟨rfl, ⟨rfl, ⟨rfl, ⟨rfl, trivial⟩⟩⟩⟩⟩, ⟨[true, true], rfl⟩, ⟨[], rfl⟩, ⟨[0, 11, 12, 13, 14, 15, 16], rfl⟩⟩
     replace hr := ineg h1020 hr
     refine at_off rfl rfl (decide_eq_false (by omega)) rfl ?_
     refine at_off rfl rfl (decide_eq_false (by omega)) rfl ?_
     refine at_off rfl rfl (decide_eq_false (by omega)) rfl ?_
     refine at_off rfl rfl (decide_eq_false (by omega)) rfl ?_
     refine at_off rfl rfl (decide_eq_false (by omega)) rfl ?_
     refine at_off rfl rfl (decide_eq_false (by omega)) rfl ?_
     refine at_off rfl rfl (decide_eq_false (by omega)) rfl ?_
     refine at_off rfl rfl (decide_eq_false (by omega)) rfl ?_
     refine at_lt (lt_pick false rfl (decide_eq_false (by omega)) rfl) rfl ?_
     refine s_mv rfl (at_on rfl rfl rfl (at_lt (lt_fieldAddr 3 rfl fld59_2 rfl) rfl (at_on rfl rfl rfl (at_lt (lt_load_box 0 rfl ti57 rfl rfl rfl rfl rfl) rfl (at_on rfl rfl rfl (s_mv rfl ?_))))))
     replace hr := obind hr
     obtain ⟨x1033, h1034, hr⟩ := hr
     have := (List.getElem?_eq_some_iff.1 h1034).1
     refine at_elem 7 rfl (nat_at' h1034) (fun p1035 ec pa1036 => ?_)
     refine at_open (A := Unit) 0 rfl _ _ (fun F w h => op67 h) ?_
     rintro _ rfl
     refine at_on rfl rfl rfl (at_lt (lt_idx rfl rfl pa1036 und57 ti67) rfl (at_on rfl rfl rfl (at_lt (lt_fieldAddr 1 rfl fld67_1 rfl) rfl (at_on rfl rfl rfl (at_lt (lt_load_peek 2 rfl ti9 rfl rfl rfl rfl rfl) rfl ?_)))))
     refine at_inv 0 rfl (fun l1037 => ?_)
     replace l1037 : x1033.Value.length ≤ 9223372036854775807 := l1037
     refine at_on rfl rfl rfl (at_lt (lt_slen rfl und9) rfl (at_on rfl rfl rfl (at_lt (lt_gtr rfl rfl) rfl (at_lt (lt_pick false rfl rfl rfl) rfl (s_nt ?_)))))
     by_cases h1038 : 402 < x1033.Value.length
     ·replace hr := ipos h1038 hr
      refine at_true rfl (decide_eq_true (by omega)) ?_
      refine s_sr (s_as rfl (s_nt (at_ret ?_)))
      have hq := oinj hr
      clear hr
      subst hq
      have hq := oinj hk1013
      clear hk1013
      subst hq
      have hq := oinj hk930
      clear hk930
      subst hq
      refine at_in_ret (at_then_ret (at_then_ret (at_in_ret (at_then_ret (at_in_ret (at_then_ret (at_then_ret (at_in_ret (at_then_ret ?_)))))))))
      refine at_then_ret ?_
      exact at_return (.bool false) [] hS Tryz.results12 (.cons (.tmp rfl) .nil) rfl rfl ⟨rfl, rfl⟩
     replace hr := ineg h1038 hr
     refine at_false rfl (decide_eq_false (by omega)) ?_
     refine at_skip (at_in (s_tr (s_mv rfl (at_lt (lt_add rfl rfl (by simp only [lo, hi]; omega)) rfl (s_as rfl (at_nil (at_int .i64 (x1010 + 1 : Int) (by simp only [lo, hi]; omega) ?_)))))))
     exact at_again (σ := Nat) (V := Unit) (lp := fun n s => m12_l4 x934 n s) (S := fun s e => (⟨[(1, .int .i64 a1), (2, .pointer (some (Addr.add ⟨b926, 0, none⟩ 0))), (5, .int .i64 (x927 : Int)), (6, .pointer (some (Addr.add ⟨b939, 0, none⟩ 0))), (7, .int .i64 (s : Int))], [⟨b939, [str x934.Tag, .int .u8 (x934.Ind_0.toNat : Int), .int .u8 (x934.Ind_1.toNat : Int), s936], 59⟩, ⟨b926, [.int .i64 a0.ID, s923], 24⟩], [], [((Ty.int .i64).fact (s : Int) [.int .i64 (s : Int)]), ((Ty.int .i64).fact a1 [.int .i64 a1]), ((Ty.int .i64).fact (x927 : Int) [.int .i64 (x927 : Int)]), (Ty.str.fact x934.Tag [str x934.Tag]), ((Ty.slice ty67).fact x934.Subs [s936]), ((Ty.int .i64).fact a0.ID [.int .i64 a0.ID]), ((Ty.slice ty59).fact a0.Fields [s923])]⟩ : St)) (x1010 + 1) () hr ⟨⟨rfl, ⟨rfl, ⟨rfl, ⟨rfl, ⟨rfl, trivial⟩⟩⟩⟩⟩, ⟨[true, true], rfl⟩, ⟨[], rfl⟩, ⟨[0, 8, 9, 10, 11, 12, 13], rfl⟩⟩
    replace hr := ineg h1014 hr
    refine at_false rfl (decide_eq_false (by omega)) ?_
    refine at_exit (at_then_exit (at_then_exit (at_in_exit ?_)))
    have hq := oinj hr
    clear hr
    subst hq
    exact at_leafP ((), ()) rfl ⟨⟨rfl, ⟨rfl, ⟨rfl, trivial⟩⟩⟩, ⟨[false, true], rfl⟩, ⟨[], rfl⟩, ⟨[1, 2, 5, 6], rfl⟩⟩
   rintro ⟨_, _⟩ hp
   replace hr := hk1013
   subst hp
   clear hl1012
   change At _ _ (⟨[(1, .int .i64 a1), (2, .pointer (some (Addr.add ⟨b926, 0, none⟩ 0))), (5, .int .i64 (x927 : Int))], [⟨b926, [.int .i64 a0.ID, s923], 24⟩], [], [((Ty.int .i64).fact a1 [.int .i64 a1]), ((Ty.int .i64).fact (x927 : Int) [.int .i64 (x927 : Int)]), ((Ty.int .i64).fact a0.ID [.int .i64 a0.ID]), ((Ty.slice ty59).fact a0.Fields [s923])]⟩ : St) _
   refine at_in (s_tr (s_mv rfl (at_lt (lt_add rfl rfl (by simp only [lo, hi]; omega)) rfl (s_as rfl (at_nil (at_int .i64 (x927 + 1 : Int) (by simp only [lo, hi]; omega) ?_))))))
   exact at_again (σ := Nat) (V := Unit) (lp := fun n s => m12_l1 a0 n s) (S := fun s e => (⟨[(1, .int .i64 a1), (2, .pointer (some (Addr.add ⟨b926, 0, none⟩ 0))), (5, .int .i64 (s : Int))], [⟨b926, [.int .i64 a0.ID, s923], 24⟩], [], [((Ty.int .i64).fact (s : Int) [.int .i64 (s : Int)]), ((Ty.int .i64).fact a1 [.int .i64 a1]), ((Ty.int .i64).fact a0.ID [.int .i64 a0.ID]), ((Ty.slice ty59).fact a0.Fields [s923])]⟩ : St)) (x927 + 1) () hr ⟨⟨rfl, ⟨rfl, ⟨rfl, trivial⟩⟩⟩, ⟨[true], rfl⟩, ⟨[], rfl⟩, ⟨[0, 1, 3, 4], rfl⟩⟩
  replace hr := ineg h933 hr
  refine at_false rfl (decide_eq_false (by omega)) ?_
  refine at_exit (at_then_exit (at_then_exit (at_in_exit ?_)))
  have hq := oinj hr
  clear hr
  subst hq
  exact at_leafP ((), ()) rfl ⟨⟨rfl, ⟨rfl, trivial⟩⟩, ⟨[true], rfl⟩, ⟨[], rfl⟩, ⟨[1, 2, 3], rfl⟩⟩
 rintro ⟨_, _⟩ hp
 replace hr := hk930
 subst hp
 clear hl929
 change At _ _ (⟨[(1, .int .i64 a1), (2, .pointer (some (Addr.add ⟨b926, 0, none⟩ 0)))], [⟨b926, [.int .i64 a0.ID, s923], 24⟩], [], [((Ty.int .i64).fact a1 [.int .i64 a1]), ((Ty.int .i64).fact a0.ID [.int .i64 a0.ID]), ((Ty.slice ty59).fact a0.Fields [s923])]⟩ : St) _
 refine s_tsr (at_lt (lt_fieldAddr 1 rfl fld24_1 rfl) rfl (at_lt (lt_load_box 0 rfl ti22 rfl rfl rfl rfl rfl) rfl ?_))
 refine at_inv 2 rfl (fun i1039 => ?_)
 have l1040 := slice_len i1039
 refine at_lt (lt_flen 2 rfl rfl und22) rfl (s_mv rfl (at_lt (lt_leq rfl rfl) rfl (s_as rfl (s_nt (at_ret ?_)))))
 have hq := oinj hr
 clear hr
 subst hq
 exact at_return (.bool (decide ((a0.Fields.length : Int) ≤ a1))) [] hS Tryz.results12 (.cons (.tmp rfl) .nil) rfl rfl ⟨rfl, rfl⟩
def m46_l1 (a0 : D_api_Field) (a1 : D_api_Field) : Nat → Nat → Option (Fl Bool Unit)
  | 0, _ => none
  | k + 1, x1052 =>
    if x1052 < a0.Subs.length then
     (a0.Subs[x1052]?).bind fun x1057 =>
     (a1.Subs[x1052]?).bind fun x1061 =>
     if (decide (((x1057.Code.toNat : Int) : Int) = (x1061.Code.toNat : Int)) && decide (x1057.Value = x1061.Value)) = true then
      m46_l1 a0 a1 k (x1052 + 1)
     else
      some (Fl.ret false)
    else
     some (Fl.go ())
def m46 (a0 : D_api_Field) (a1 : D_api_Field) : Option Bool :=
  if a0.Tag = a1.Tag then
   if (decide (((a0.Ind_0.toNat : Int) : Int) = (a1.Ind_0.toNat : Int)) && decide (((a0.Ind_1.toNat : Int) : Int) = (a1.Ind_1.toNat : Int))) = true then
    if a0.Subs.length = a1.Subs.length then
     (m46_l1 a0 a1 (a0.Subs.length + 1) 0).bind fun r => match r with
     | .ret x => some x
     | .go _ =>
      some true
    else
     some false
   else
    some false
  else
   some false
def post46 (r : Bool) (v : Value) (fs : List Fact) : Prop := v = .bool r ∧ fs = []
theorem en46 : Enters Tryz.prog 46 := ⟨_, Tryz.func46, by kernel_rfl, rfl⟩
theorem f46_spec {a0 : D_api_Field} {a1 : D_api_Field} {s1041 : Value} {s1042 : Value} {r : Bool} (hr : m46 a0 a1 = some r) : Spec Tryz.prog 46 [.agg #[str a0.Tag, .int .u8 (a0.Ind_0.toNat : Int), .int .u8 (a0.Ind_1.toNat : Int), s1041], .agg #[str a1.Tag, .int .u8 (a1.Ind_0.toNat : Int), .int .u8 (a1.Ind_1.toNat : Int), s1042]] [(ty59.fact a0 [str a0.Tag, .int .u8 (a0.Ind_0.toNat : Int), .int .u8 (a0.Ind_1.toNat : Int), s1041]), (ty59.fact a1 [str a1.Tag, .int .u8 (a1.Ind_0.toNat : Int), .int .u8 (a1.Ind_1.toNat : Int), s1042])] (post46 r) := by
 refine spec_start (N := 45) Tryz.func46 (by kernel_rfl) rfl rfl rfl ?_
 intro g hS
 unfold m46 at hr
 refine at_open (A := Unit) 0 rfl (fun _ => True) (fun _ => [(Ty.str.fact a0.Tag [str a0.Tag]), ((Ty.slice ty67).fact a0.Subs [s1041])]) (fun F w h => ⟨(), trivial, ex59 h⟩) (fun _ _ => ?_)
 refine at_open (A := Unit) 3 rfl (fun _ => True) (fun _ => [(Ty.str.fact a1.Tag [str a1.Tag]), ((Ty.slice ty67).fact a1.Subs [s1042])]) (fun F w h => ⟨(), trivial, ex59 h⟩) (fun _ _ => ?_)
 refine s_sr (at_hv rfl ?_)
 refine hv_box (cs := [str a0.Tag, .int .u8 (a0.Ind_0.toNat : Int), .int .u8 (a0.Ind_1.toNat : Int), s1041]) rfl rfl rfl (fun b1043 => ?_)
 refine at_hv rfl ?_
 refine hv_box (cs := [str a1.Tag, .int .u8 (a1.Ind_0.toNat : Int), .int .u8 (a1.Ind_1.toNat : Int), s1042]) rfl rfl rfl (fun b1044 => ?_)
 refine s_as rfl (s_nt (at_seq (s_sr (at_lt (lt_fieldAddr 0 rfl fld59_0 rfl) rfl (at_lt (lt_load_box 1 rfl ti9 rfl rfl rfl rfl rfl) rfl (at_lt (lt_fieldAddr 0 rfl fld59_0 rfl) rfl (at_lt (lt_load_box 0 rfl ti9 rfl rfl rfl rfl rfl) rfl (at_lt (lt_sneq rfl rfl) rfl (s_mv rfl ?_)))))))))
 by_cases h1045 : a0.Tag = a1.Tag
 ·replace hr := ipos h1045 hr
  refine at_on rfl rfl (nt (decide_eq_true h1045)) (at_lt (lt_fieldAddr 1 rfl fld59_1 rfl) rfl (at_on rfl rfl (nt (decide_eq_true h1045)) (at_lt (lt_load_box 1 rfl ti56 rfl rfl rfl rfl rfl) rfl (at_on rfl rfl (nt (decide_eq_true h1045)) (at_lt (lt_fieldAddr 1 rfl fld59_1 rfl) rfl (at_on rfl rfl (nt (decide_eq_true h1045)) (at_lt (lt_load_box 0 rfl ti56 rfl rfl rfl rfl rfl) rfl (at_on rfl rfl (nt (decide_eq_true h1045)) (at_lt (lt_stne rfl rfl eg56 eqt56) rfl ?_)))))))))
  refine at_lt (lt_pick false rfl (nt (decide_eq_true h1045)) rfl) rfl (s_mv rfl ?_)
  by_cases h1046 : (decide (((a0.Ind_0.toNat : Int) : Int) = (a1.Ind_0.toNat : Int)) && decide (((a0.Ind_1.toNat : Int) : Int) = (a1.Ind_1.toNat : Int))) = true
  ·replace hr := ipos h1046 hr
   refine at_on rfl rfl (nt h1046) (at_lt (lt_fieldAddr 3 rfl fld59_2 rfl) rfl (at_on rfl rfl (nt h1046) (at_lt (lt_load_box 1 rfl ti57 rfl rfl rfl rfl rfl) rfl ?_)))
   refine at_inv 3 rfl (fun i1047 => ?_)
   have l1048 := slice_len i1047
   refine at_on rfl rfl (nt h1046) (at_lt (lt_flen 3 rfl rfl und57) rfl (at_on rfl rfl (nt h1046) (at_lt (lt_fieldAddr 3 rfl fld59_2 rfl) rfl (at_on rfl rfl (nt h1046) (at_lt (lt_load_box 0 rfl ti57 rfl rfl rfl rfl rfl) rfl ?_)))))
   refine at_inv 1 rfl (fun i1049 => ?_)
   have l1050 := slice_len i1049
   refine at_on rfl rfl (nt h1046) (at_lt (lt_flen 1 rfl rfl und57) rfl (at_on rfl rfl (nt h1046) (at_lt (lt_neq rfl rfl) rfl (at_lt (lt_pick false rfl (nt h1046) rfl) rfl (s_nt ?_)))))
   by_cases h1051 : a0.Subs.length = a1.Subs.length
   ·replace hr := ipos h1051 hr
    refine at_false rfl (nt (decide_eq_true (by omega))) ?_
    refine at_skip (at_then (at_seq (s_sr (s_as rfl (s_nt (at_int .i64 0 (by simp only [lo, hi]; omega) ?_))))))
    replace hr := obind hr
    obtain ⟨r1053, hl1054, hk1055⟩ := hr
    refine at_cutP (V := (Unit) × (Unit)) (fun v => r1053 = Fl.go v.1) (fun v => (⟨[], [], [], []⟩ : St)) ?_ ?_
    ·refine at_block ?_
     refine at_loopW (σ := Nat) (V := Unit) (r := r1053) (fun n s => m46_l1 a0 a1 n s) (fun s e => (⟨[(2, .pointer (some (Addr.add ⟨b1043, 0, none⟩ 0))), (3, .pointer (some (Addr.add ⟨b1044, 0, none⟩ 0))), (5, .int .i64 (s : Int))], [⟨b1044, [str a1.Tag, .int .u8 (a1.Ind_0.toNat : Int), .int .u8 (a1.Ind_1.toNat : Int), s1042], 59⟩, ⟨b1043, [str a0.Tag, .int .u8 (a0.Ind_0.toNat : Int), .int .u8 (a0.Ind_1.toNat : Int), s1041], 59⟩], [], [((Ty.int .i64).fact (s : Int) [.int .i64 (s : Int)]), (Ty.str.fact a0.Tag [str a0.Tag]), ((Ty.slice ty67).fact a0.Subs [s1041]), (Ty.str.fact a1.Tag [str a1.Tag]), ((Ty.slice ty67).fact a1.Subs [s1042])]⟩ : St)) (fun _ => rfl) _ 0 () hl1054 ⟨⟨rfl, ⟨rfl, ⟨rfl, trivial⟩⟩⟩, ⟨[true, true], rfl⟩, ⟨[], rfl⟩, ⟨[0, 3, 4, 1, 2], rfl⟩⟩ ?_
     clear hl1054
     intro n x1052 hr e
     skip
     skip
     change m46_l1 a0 a1 (n + 1) x1052 = some r1053 at hr
     change At _ _ (⟨[(2, .pointer (some (Addr.add ⟨b1043, 0, none⟩ 0))), (3, .pointer (some (Addr.add ⟨b1044, 0, none⟩ 0))), (5, .int .i64 (x1052 : Int))], [⟨b1044, [str a1.Tag, .int .u8 (a1.Ind_0.toNat : Int), .int .u8 (a1.Ind_1.toNat : Int), s1042], 59⟩, ⟨b1043, [str a0.Tag, .int .u8 (a0.Ind_0.toNat : Int), .int .u8 (a0.Ind_1.toNat : Int), s1041], 59⟩], [], [((Ty.int .i64).fact (x1052 : Int) [.int .i64 (x1052 : Int)]), (Ty.str.fact a0.Tag [str a0.Tag]), ((Ty.slice ty67).fact a0.Subs [s1041]), (Ty.str.fact a1.Tag [str a1.Tag]), ((Ty.slice ty67).fact a1.Subs [s1042])]⟩ : St) _
     rw [m46_l1] at hr
     refine at_seq (s_sr (s_mv rfl (at_lt (lt_fieldAddr 3 rfl fld59_2 rfl) rfl (at_lt (lt_load_box 1 rfl ti57 rfl rfl rfl rfl rfl) rfl (at_lt (lt_flen 2 rfl rfl und57) rfl (at_lt (lt_lss rfl rfl) rfl (s_nt ?_)))))))
     by_cases h1056 : x1052 < a0.Subs.length
     ·replace hr := ipos h1056 hr
      refine at_true rfl (decide_eq_true (by omega)) ?_
      refine at_skip (at_then (at_seq (at_block (at_seq ?_))))
      replace hr := obind hr
      obtain ⟨x1057, h1058, hr⟩ := hr
      have := (List.getElem?_eq_some_iff.1 h1058).1
      refine at_elem 2 rfl (nat_at' h1058) (fun p1059 ec pa1060 => ?_)
      refine at_open (A := Unit) 0 rfl _ _ (fun F w h => op67 h) ?_
      rintro _ rfl
      replace hr := obind hr
      obtain ⟨x1061, h1062, hr⟩ := hr
      have := (List.getElem?_eq_some_iff.1 h1062).1
      refine at_elem 7 rfl (nat_at' h1062) (fun p1063 ec pa1064 => ?_)
      refine at_open (A := Unit) 0 rfl _ _ (fun F w h => op67 h) ?_
      rintro _ rfl
      refine aa_start 11 (by kernel_rfl) ?_
      refine aa_p 0 rfl (lt_fieldAddr 3 rfl fld59_2 rfl) (aa_l 1 rfl (lt_load_box 1 rfl ti57 rfl rfl rfl rfl rfl) (aa_p 2 rfl (lt_move rfl) (aa_p 3 rfl (lt_idx rfl rfl pa1060 und57 ti67) (aa_l 4 rfl (lt_load_peek 5 rfl ti67 rfl rfl rfl rfl rfl) (aa_p 5 rfl (lt_fieldAddr 3 rfl fld59_2 rfl) (aa_l 6 rfl (lt_load_box 0 rfl ti57 rfl rfl rfl rfl rfl) (aa_p 7 rfl (lt_move rfl) (aa_p 8 rfl (lt_idx rfl rfl pa1064 und57 ti67) (aa_l 9 rfl (lt_load_peek 2 rfl ti67 rfl rfl rfl rfl rfl) ?_)))))))))
      refine aa_p 10 rfl (lt_stne rfl rfl eg67 eqt67) ?_
      refine aa_done (by kernel_rfl) (ts_in 0 0 rfl rfl) ?_
      refine at_then ?_
      by_cases h1065 : (decide (((x1057.Code.toNat : Int) : Int) = (x1061.Code.toNat : Int)) && decide (x1057.Value = x1061.Value)) = true
      ·replace hr := ipos h1065 hr
       refine at_false rfl (nt h1065) (at_skip (at_in (s_tr (s_mv rfl (at_lt (lt_add rfl rfl (by simp only [lo, hi]; omega)) rfl (s_as rfl (at_nil (at_int .i64 (x1052 + 1 : Int) (by simp only [lo, hi]; omega) ?_))))))))
       exact at_again (σ := Nat) (V := Unit) (lp := fun n s => m46_l1 a0 a1 n s) (S := fun s e => (⟨[(2, .pointer (some (Addr.add ⟨b1043, 0, none⟩ 0))), (3, .pointer (some (Addr.add ⟨b1044, 0, none⟩ 0))), (5, .int .i64 (s : Int))], [⟨b1044, [str a1.Tag, .int .u8 (a1.Ind_0.toNat : Int), .int .u8 (a1.Ind_1.toNat : Int), s1042], 59⟩, ⟨b1043, [str a0.Tag, .int .u8 (a0.Ind_0.toNat : Int), .int .u8 (a0.Ind_1.toNat : Int), s1041], 59⟩], [], [((Ty.int .i64).fact (s : Int) [.int .i64 (s : Int)]), (Ty.str.fact a0.Tag [str a0.Tag]), ((Ty.slice ty67).fact a0.Subs [s1041]), (Ty.str.fact a1.Tag [str a1.Tag]), ((Ty.slice ty67).fact a1.Subs [s1042])]⟩ : St)) (x1052 + 1) () hr ⟨⟨rfl, ⟨rfl, ⟨rfl, trivial⟩⟩⟩, ⟨[true, true], rfl⟩, ⟨[], rfl⟩, ⟨[0, 8, 9, 10, 11], rfl⟩⟩
      replace hr := ineg h1065 hr
      refine at_true rfl (nf (bf h1065)) (s_sr (s_as rfl (s_nt (at_ret ?_))))
      have hq := oinj hr
      clear hr
      subst hq
      have hq := oinj hk1055
      clear hk1055
      subst hq
      refine at_in_ret (at_then_ret (at_then_ret (at_in_ret (at_then_ret (at_then_ret ?_)))))
      exact at_return (.bool false) [] hS Tryz.results46 (.cons (.tmp rfl) .nil) rfl rfl ⟨rfl, rfl⟩
     replace hr := ineg h1056 hr
     refine at_false rfl (decide_eq_false (by omega)) ?_
     refine at_exit (at_then_exit (at_then_exit (at_in_exit ?_)))
     have hq := oinj hr
     clear hr
     subst hq
     exact at_leafP ((), ()) rfl ⟨trivial, ⟨[false, false], rfl⟩, ⟨[], rfl⟩, ⟨[], rfl⟩⟩
    rintro ⟨_, _⟩ hp
    replace hr := hk1055
    subst hp
    clear hl1054
    change At _ _ (⟨[], [], [], []⟩ : St) _
    refine s_tsr (s_as rfl (s_nt (at_ret ?_)))
    have hq := oinj hr
    clear hr
    subst hq
    exact at_return (.bool true) [] hS Tryz.results46 (.cons (.tmp rfl) .nil) rfl rfl ⟨rfl, rfl⟩
   replace hr := ineg h1051 hr
   refine at_true rfl (nf (decide_eq_false (by omega))) ?_
   refine s_sr (s_as rfl (s_nt (at_ret ?_)))
   have hq := oinj hr
   clear hr
   subst hq
   refine at_then_ret ?_
   exact at_return (.bool false) [] hS Tryz.results46 (.cons (.tmp rfl) .nil) rfl rfl ⟨rfl, rfl⟩
  replace hr := ineg h1046 hr
  refine at_off rfl rfl (nf (bf h1046)) rfl (at_off rfl rfl (nf (bf h1046)) rfl (at_off rfl rfl (nf (bf h1046)) rfl (at_off rfl rfl (nf (bf h1046)) rfl (at_off rfl rfl (nf (bf h1046)) rfl (at_off rfl rfl (nf (bf h1046)) rfl (at_off rfl rfl (nf (bf h1046)) rfl (at_lt (lt_pick true rfl (nf (bf h1046)) rfl) rfl (s_nt (at_true rfl rfl ?_)))))))))
  refine s_sr (s_as rfl (s_nt (at_ret ?_)))
  have hq := oinj hr
  clear hr
  subst hq
  refine at_then_ret ?_
  exact at_return (.bool false) [] hS Tryz.results46 (.cons (.tmp rfl) .nil) rfl rfl ⟨rfl, rfl⟩
 replace hr := ineg h1045 hr
 refine at_off rfl rfl (nf (decide_eq_false h1045)) rfl (at_off rfl rfl (nf (decide_eq_false h1045)) rfl (at_off rfl rfl (nf (decide_eq_false h1045)) rfl (at_off rfl rfl (nf (decide_eq_false h1045)) rfl (at_off rfl rfl (nf (decide_eq_false h1045)) rfl (at_lt (lt_pick true rfl (nf (decide_eq_false h1045)) rfl) rfl (s_mv rfl (at_off rfl rfl rfl rfl (at_off rfl rfl rfl rfl (at_off rfl rfl rfl rfl ?_)))))))))
 refine at_off rfl rfl rfl rfl (at_off rfl rfl rfl rfl (at_off rfl rfl rfl rfl (at_off rfl rfl rfl rfl (at_lt (lt_pick true rfl rfl rfl) rfl (s_nt (at_true rfl rfl (s_sr (s_as rfl (s_nt ?_)))))))))
 refine at_ret ?_
 have hq := oinj hr
 clear hr
 subst hq
 refine at_then_ret ?_
 exact at_return (.bool false) [] hS Tryz.results46 (.cons (.tmp rfl) .nil) rfl rfl ⟨rfl, rfl⟩
def m21_l1 (a0 : (List D_api_Field)) (a1 : (List D_api_Field)) : Nat → Nat → Option (Fl Bool Unit)
  | 0, _ => none
  | k + 1, x1073 =>
    if x1073 < a0.length then
     (a0[x1073]?).bind fun x1078 =>
     (a1[x1073]?).bind fun x1083 =>
     (m46 x1078 x1083).bind fun x1088 =>
     if x1088 = true then
      m21_l1 a0 a1 k (x1073 + 1)
     else
      some (Fl.ret false)
    else
     some (Fl.go ())
def m21 (a0 : (List D_api_Field)) (a1 : (List D_api_Field)) : Option Bool :=
  if a0.length = a1.length then
   (m21_l1 a0 a1 (a0.length + 1) 0).bind fun r => match r with
   | .ret x => some x
   | .go _ =>
    some true
  else
   some false
def post21 (r : Bool) (v : Value) (fs : List Fact) : Prop := v = .bool r ∧ fs = []
theorem en21 : Enters Tryz.prog 21 := ⟨_, Tryz.func21, by kernel_rfl, rfl⟩
theorem f21_spec {a0 : (List D_api_Field)} {a1 : (List D_api_Field)} {w1066 : Value} {w1067 : Value} {r : Bool} (hr : m21 a0 a1 = some r) : Spec Tryz.prog 21 [w1066, w1067] [((Ty.slice ty59).fact a0 [w1066]), ((Ty.slice ty59).fact a1 [w1067])] (post21 r) := by
 refine spec_start (N := 27) Tryz.func21 (by kernel_rfl) rfl rfl rfl ?_
 intro g hS
 unfold m21 at hr
 refine s_sr (s_as rfl (s_nt (at_seq (s_sr (s_mv rfl ?_)))))
 refine at_inv 0 rfl (fun i1068 => ?_)
 have l1069 := slice_len i1068
 refine at_lt (lt_flen 0 rfl rfl und22) rfl (s_mv rfl ?_)
 refine at_inv 1 rfl (fun i1070 => ?_)
 have l1071 := slice_len i1070
 refine at_lt (lt_flen 1 rfl rfl und22) rfl (at_lt (lt_neq rfl rfl) rfl (s_nt ?_))
 by_cases h1072 : a0.length = a1.length
 ·replace hr := ipos h1072 hr
  refine at_false rfl (nt (decide_eq_true (by omega))) ?_
  refine at_skip (at_then (at_seq (s_sr (s_as rfl (s_nt (at_int .i64 0 (by simp only [lo, hi]; omega) ?_))))))
  replace hr := obind hr
  obtain ⟨r1074, hl1075, hk1076⟩ := hr
  refine at_cutP (V := (Unit) × (Unit)) (fun v => r1074 = Fl.go v.1) (fun v => (⟨[], [], [], []⟩ : St)) ?_ ?_
  ·refine at_block ?_
   refine at_loopW (σ := Nat) (V := Unit) (r := r1074) (fun n s => m21_l1 a0 a1 n s) (fun s e => (⟨[(0, w1066), (1, w1067), (5, .int .i64 (s : Int))], [], [], [((Ty.int .i64).fact (s : Int) [.int .i64 (s : Int)]), ((Ty.slice ty59).fact a0 [w1066]), ((Ty.slice ty59).fact a1 [w1067])]⟩ : St)) (fun _ => rfl) _ 0 () hl1075 ⟨⟨rfl, ⟨rfl, ⟨rfl, trivial⟩⟩⟩, ⟨[], rfl⟩, ⟨[], rfl⟩, ⟨[0, 1, 2], rfl⟩⟩ ?_
   clear hl1075
   intro n x1073 hr e
   skip
   skip
   change m21_l1 a0 a1 (n + 1) x1073 = some r1074 at hr
   change At _ _ (⟨[(0, w1066), (1, w1067), (5, .int .i64 (x1073 : Int))], [], [], [((Ty.int .i64).fact (x1073 : Int) [.int .i64 (x1073 : Int)]), ((Ty.slice ty59).fact a0 [w1066]), ((Ty.slice ty59).fact a1 [w1067])]⟩ : St) _
   rw [m21_l1] at hr
   refine at_seq (s_sr (s_mv rfl (s_mv rfl (at_lt (lt_flen 1 rfl rfl und22) rfl (at_lt (lt_lss rfl rfl) rfl (s_nt ?_))))))
   by_cases h1077 : x1073 < a0.length
   ·replace hr := ipos h1077 hr
    refine at_true rfl (decide_eq_true (by omega)) ?_
    refine at_skip (at_then (at_seq (at_block (at_seq ?_))))
    replace hr := obind hr
    obtain ⟨x1078, h1079, hr⟩ := hr
    have := (List.getElem?_eq_some_iff.1 h1079).1
    refine at_elem 1 rfl (nat_at' h1079) (fun p1081 ec pa1082 => ?_)
    refine at_open (A := Value) 0 rfl _ _ (fun F w h => op59 h) ?_
    rintro s1080 rfl
    replace hr := obind hr
    obtain ⟨x1083, h1084, hr⟩ := hr
    have := (List.getElem?_eq_some_iff.1 h1084).1
    refine at_elem 6 rfl (nat_at' h1084) (fun p1086 ec pa1087 => ?_)
    refine at_open (A := Value) 0 rfl _ _ (fun F w h => op59 h) ?_
    rintro s1085 rfl
    replace hr := obind hr
    obtain ⟨x1088, h1089, hr⟩ := hr
    refine aa_start 10 (by kernel_rfl) ?_
    refine aa_p 0 rfl (lt_move rfl) (aa_p 1 rfl (lt_move rfl) (aa_p 2 rfl (lt_idx rfl rfl pa1082 und22 ti59) (aa_l 3 rfl (lt_load_peek 7 rfl ti59 rfl rfl rfl rfl rfl) (aa_p 4 rfl (lt_move rfl) (aa_p 5 rfl (lt_move rfl) (aa_p 6 rfl (lt_idx rfl rfl pa1087 und22 ti59) (aa_l 7 rfl (lt_load_peek 3 rfl ti59 rfl rfl rfl rfl rfl) (aa_one 8 (aa_op rfl rfl ?_)))))))))
    refine hv_call0 [6, 2] (f46_spec h1089) rfl rfl rfl rfl ?_
    rintro _ _ ⟨rfl, rfl⟩
    refine aa_p 9 rfl (lt_not rfl) ?_
    refine aa_done (by kernel_rfl) (ts_in 0 0 rfl rfl) ?_
    refine at_then ?_
    by_cases h1090 : x1088 = true
    ·replace hr := ipos h1090 hr
     refine at_false rfl (nt h1090) (at_skip (at_in (s_tr (s_mv rfl (at_lt (lt_add rfl rfl (by simp only [lo, hi]; omega)) rfl (s_as rfl (at_nil (at_int .i64 (x1073 + 1 : Int) (by simp only [lo, hi]; omega) ?_))))))))
     exact at_again (σ := Nat) (V := Unit) (lp := fun n s => m21_l1 a0 a1 n s) (S := fun s e => (⟨[(0, w1066), (1, w1067), (5, .int .i64 (s : Int))], [], [], [((Ty.int .i64).fact (s : Int) [.int .i64 (s : Int)]), ((Ty.slice ty59).fact a0 [w1066]), ((Ty.slice ty59).fact a1 [w1067])]⟩ : St)) (x1073 + 1) () hr ⟨⟨rfl, ⟨rfl, ⟨rfl, trivial⟩⟩⟩, ⟨[], rfl⟩, ⟨[], rfl⟩, ⟨[0, 10, 11], rfl⟩⟩
    replace hr := ineg h1090 hr
    refine at_true rfl (nf (bf h1090)) (s_sr (s_as rfl (s_nt (at_ret ?_))))
    have hq := oinj hr
    clear hr
    subst hq
    have hq := oinj hk1076
    clear hk1076
    subst hq
    refine at_in_ret (at_then_ret (at_then_ret (at_in_ret (at_then_ret (at_then_ret ?_)))))
    exact at_return (.bool false) [] hS Tryz.results21 (.cons (.tmp rfl) .nil) rfl rfl ⟨rfl, rfl⟩
   replace hr := ineg h1077 hr
   refine at_false rfl (decide_eq_false (by omega)) ?_
   refine at_exit (at_then_exit (at_then_exit (at_in_exit ?_)))
   have hq := oinj hr
   clear hr
   subst hq
   exact at_leafP ((), ()) rfl ⟨trivial, ⟨[], rfl⟩, ⟨[], rfl⟩, ⟨[], rfl⟩⟩
  rintro ⟨_, _⟩ hp
  replace hr := hk1076
  subst hp
  clear hl1075
  change At _ _ (⟨[], [], [], []⟩ : St) _
  refine s_tsr (s_as rfl (s_nt (at_ret ?_)))
  have hq := oinj hr
  clear hr
  subst hq
  exact at_return (.bool true) [] hS Tryz.results21 (.cons (.tmp rfl) .nil) rfl rfl ⟨rfl, rfl⟩
 replace hr := ineg h1072 hr
 refine at_true rfl (nf (decide_eq_false (by omega))) ?_
 refine s_sr (s_as rfl (s_nt (at_ret ?_)))
 have hq := oinj hr
 clear hr
 subst hq
 refine at_then_ret ?_
 exact at_return (.bool false) [] hS Tryz.results21 (.cons (.tmp rfl) .nil) rfl rfl ⟨rfl, rfl⟩
def m17 (a0 : D_api_Record) (a1 : D_api_Record) : Option Bool :=
  if a0.ID = a1.ID then
   (m21 a0.Fields a1.Fields).bind fun x1098 =>
   some x1098
  else
   some false
def post17 (r : Bool) (v : Value) (fs : List Fact) : Prop := v = .bool r ∧ fs = []
theorem en17 : Enters Tryz.prog 17 := ⟨_, Tryz.func17, by kernel_rfl, rfl⟩
theorem f17_spec {a0 : D_api_Record} {a1 : D_api_Record} {s1091 : Value} {s1092 : Value} {r : Bool} (hr : m17 a0 a1 = some r) : Spec Tryz.prog 17 [.agg #[.int .i64 a0.ID, s1091], .agg #[.int .i64 a1.ID, s1092]] [(ty24.fact a0 [.int .i64 a0.ID, s1091]), (ty24.fact a1 [.int .i64 a1.ID, s1092])] (post17 r) := by
 refine spec_start (N := 17) Tryz.func17 (by kernel_rfl) rfl rfl rfl ?_
 intro g hS
 unfold m17 at hr
 refine at_open (A := Unit) 0 rfl (fun _ => True) (fun _ => [((Ty.int .i64).fact a0.ID [.int .i64 a0.ID]), ((Ty.slice ty59).fact a0.Fields [s1091])]) (fun F w h => ⟨(), trivial, ex24 h⟩) (fun _ _ => ?_)
 refine at_inv 0 rfl (fun l1093 => ?_)
 replace l1093 : (-9223372036854775808) ≤ a0.ID ∧ a0.ID ≤ 9223372036854775807 := l1093
 refine at_open (A := Unit) 3 rfl (fun _ => True) (fun _ => [((Ty.int .i64).fact a1.ID [.int .i64 a1.ID]), ((Ty.slice ty59).fact a1.Fields [s1092])]) (fun F w h => ⟨(), trivial, ex24 h⟩) (fun _ _ => ?_)
 refine at_inv 0 rfl (fun l1094 => ?_)
 replace l1094 : (-9223372036854775808) ≤ a1.ID ∧ a1.ID ≤ 9223372036854775807 := l1094
 refine s_sr (at_hv rfl ?_)
 refine hv_box (cs := [.int .i64 a0.ID, s1091]) rfl rfl rfl (fun b1095 => ?_)
 refine at_hv rfl ?_
 refine hv_box (cs := [.int .i64 a1.ID, s1092]) rfl rfl rfl (fun b1096 => ?_)
 refine s_as rfl (s_ntsr (at_lt (lt_fieldAddr 0 rfl fld24_0 rfl) rfl (at_lt (lt_load_box 1 rfl ti3 rfl rfl rfl rfl rfl) rfl (at_lt (lt_fieldAddr 0 rfl fld24_0 rfl) rfl (at_lt (lt_load_box 0 rfl ti3 rfl rfl rfl rfl rfl) rfl (at_lt (lt_eql rfl rfl) rfl (s_mv rfl ?_)))))))
 by_cases h1097 : a0.ID = a1.ID
 ·replace hr := ipos h1097 hr
  refine at_on rfl rfl (decide_eq_true (by first | exact h1097 | omega)) ?_
  refine at_lt (lt_fieldAddr 1 rfl fld24_1 rfl) rfl ?_
  refine at_on rfl rfl (decide_eq_true (by first | exact h1097 | omega)) ?_
  refine at_lt (lt_load_box 1 rfl ti22 rfl rfl rfl rfl rfl) rfl ?_
  refine at_on rfl rfl (decide_eq_true (by first | exact h1097 | omega)) ?_
  refine at_lt (lt_fieldAddr 1 rfl fld24_1 rfl) rfl ?_
  refine at_on rfl rfl (decide_eq_true (by first | exact h1097 | omega)) ?_
  refine at_lt (lt_load_box 0 rfl ti22 rfl rfl rfl rfl rfl) rfl ?_
  replace hr := obind hr
  obtain ⟨x1098, h1099, hr⟩ := hr
  refine at_on rfl rfl (decide_eq_true (by first | exact h1097 | omega)) ?_
  refine at_hv rfl (hv_call0 [3, 1] (f21_spec h1099) rfl rfl rfl rfl ?_)
  rintro _ _ ⟨rfl, rfl⟩
  refine at_lt (lt_pick true rfl (decide_eq_true (by first | exact h1097 | omega)) rfl) rfl ?_
  refine s_as rfl (s_nt (at_ret ?_))
  have hq := oinj hr
  clear hr
  subst hq
  exact at_return (.bool x1098) [] hS Tryz.results17 (.cons (.tmp rfl) .nil) rfl rfl ⟨rfl, rfl⟩
 replace hr := ineg h1097 hr
 refine at_off rfl rfl (decide_eq_false (by first | exact h1097 | omega)) rfl ?_
 refine at_off rfl rfl (decide_eq_false (by first | exact h1097 | omega)) rfl ?_
 refine at_off rfl rfl (decide_eq_false (by first | exact h1097 | omega)) rfl ?_
 refine at_off rfl rfl (decide_eq_false (by first | exact h1097 | omega)) rfl ?_
 refine at_off rfl rfl (decide_eq_false (by first | exact h1097 | omega)) rfl ?_
 refine at_lt (lt_pick false rfl (decide_eq_false (by first | exact h1097 | omega)) rfl) rfl ?_
 refine s_as rfl (s_nt (at_ret ?_))
 have hq := oinj hr
 clear hr
 subst hq
 exact at_return (.bool false) [] hS Tryz.results17 (.cons (.tmp rfl) .nil) rfl rfl ⟨rfl, rfl⟩
def m84 (a0 : UInt8) : Option Bool :=
  if 48 ≤ a0.toNat then
   some (decide ((a0.toNat : Int) ≤ 57))
  else
   some false
def post84 (r : Bool) (v : Value) (fs : List Fact) : Prop := v = .bool r ∧ fs = []
theorem en84 : Enters Tryz.prog 84 := ⟨_, Tryz.func84, by kernel_rfl, rfl⟩
theorem f84_spec {a0 : UInt8} {r : Bool} (hr : m84 a0 = some r) : Spec Tryz.prog 84 [.int .u8 (a0.toNat : Int)] [] (post84 r) := by
 refine spec_start (N := 9) Tryz.func84 (by kernel_rfl) rfl rfl rfl ?_
 intro g hS
 unfold m84 at hr
 refine s_sr (s_as rfl (s_ntsr (s_mv rfl (at_lt (lt_geq rfl rfl) rfl (s_mv rfl ?_)))))
 by_cases h1100 : 48 ≤ a0.toNat
 ·replace hr := ipos h1100 hr
  refine at_on rfl rfl (decide_eq_true (by omega)) ?_
  refine s_mv rfl ?_
  refine at_on rfl rfl (decide_eq_true (by omega)) ?_
  refine at_lt (lt_leq rfl rfl) rfl ?_
  refine at_lt (lt_pick true rfl (decide_eq_true (by omega)) rfl) rfl ?_
  refine s_as rfl (s_nt (at_ret ?_))
  have hq := oinj hr
  clear hr
  subst hq
  exact at_return (.bool (decide ((a0.toNat : Int) ≤ 57))) [] hS Tryz.results84 (.cons (.tmp rfl) .nil) rfl rfl ⟨rfl, rfl⟩
 replace hr := ineg h1100 hr
 refine at_off rfl rfl (decide_eq_false (by omega)) rfl ?_
 refine at_off rfl rfl (decide_eq_false (by omega)) rfl ?_
 refine at_lt (lt_pick false rfl (decide_eq_false (by omega)) rfl) rfl ?_
 refine s_as rfl (s_nt (at_ret ?_))
 have hq := oinj hr
 clear hr
 subst hq
 exact at_return (.bool false) [] hS Tryz.results84 (.cons (.tmp rfl) .nil) rfl rfl ⟨rfl, rfl⟩
def m39 (a0 : Str) : Option Bool :=
  if a0.length = 3 then
   (a0[0]?).bind fun c1103 =>
   (m84 c1103).bind fun x1105 =>
   if x1105 = true then
    (a0[1]?).bind fun c1108 =>
    (m84 c1108).bind fun x1110 =>
    if x1110 = true then
     (a0[2]?).bind fun c1113 =>
     (m84 c1113).bind fun x1115 =>
     if x1115 = true then
      some (!decide (a0 = ([48, 48, 48] : Str)))
     else
      some false
    else
     some false
   else
    some false
  else
   some false
def post39 (r : Bool) (v : Value) (fs : List Fact) : Prop := v = .bool r ∧ fs = []
theorem en39 : Enters Tryz.prog 39 := ⟨_, Tryz.func39, by kernel_rfl, rfl⟩
theorem f39_spec {a0 : Str} {r : Bool} (hr : m39 a0 = some r) : Spec Tryz.prog 39 [str a0] [(Ty.str.fact a0 [str a0])] (post39 r) := by
 refine spec_start (N := 25) Tryz.func39 (by kernel_rfl) rfl rfl rfl ?_
 intro g hS
 unfold m39 at hr
 refine s_sr (s_as rfl (s_ntsr (s_mv rfl ?_)))
 refine at_inv 0 rfl (fun l1101 => ?_)
 replace l1101 : a0.length ≤ 9223372036854775807 := l1101
 refine at_lt (lt_slen rfl und9) rfl (at_lt (lt_eql rfl rfl) rfl (s_mv rfl ?_))
 by_cases h1102 : a0.length = 3
 ·replace hr := ipos h1102 hr
  refine at_on rfl rfl (decide_eq_true (by omega)) ?_
  refine s_mv rfl ?_
  replace hr := obind hr
  obtain ⟨c1103, h1104, hr⟩ := hr
  have := (List.getElem?_eq_some_iff.1 h1104).1
  have := c1103.toNat_lt
  refine at_on rfl rfl (decide_eq_true (by omega)) ?_
  refine at_lt (lt_sidx rfl rfl und9 (by omega) h1104) rfl ?_
  replace hr := obind hr
  obtain ⟨x1105, h1106, hr⟩ := hr
  refine at_on rfl rfl (decide_eq_true (by omega)) ?_
  refine at_hv rfl (hv_call0 [] (f84_spec h1106) rfl rfl rfl rfl ?_)
  rintro _ _ ⟨rfl, rfl⟩
  refine at_lt (lt_pick true rfl (decide_eq_true (by omega)) rfl) rfl ?_
  refine s_mv rfl ?_
  by_cases h1107 : x1105 = true
  ·replace hr := ipos h1107 hr
   refine at_on rfl rfl h1107 (s_mv rfl ?_)
   replace hr := obind hr
   obtain ⟨c1108, h1109, hr⟩ := hr
   have := (List.getElem?_eq_some_iff.1 h1109).1
   have := c1108.toNat_lt
   refine at_on rfl rfl h1107 ?_
   refine at_lt (lt_sidx rfl rfl und9 (by omega) h1109) rfl ?_
   replace hr := obind hr
   obtain ⟨x1110, h1111, hr⟩ := hr
   refine at_on rfl rfl h1107 (at_hv rfl (hv_call0 [] (f84_spec h1111) rfl rfl rfl rfl ?_))
   rintro _ _ ⟨rfl, rfl⟩
   refine at_lt (lt_pick true rfl h1107 rfl) rfl (s_mv rfl ?_)
   by_cases h1112 : x1110 = true
   ·replace hr := ipos h1112 hr
    refine at_on rfl rfl h1112 (s_mv rfl ?_)
    replace hr := obind hr
    obtain ⟨c1113, h1114, hr⟩ := hr
    have := (List.getElem?_eq_some_iff.1 h1114).1
    have := c1113.toNat_lt
    refine at_on rfl rfl h1112 ?_
    refine at_lt (lt_sidx rfl rfl und9 (by omega) h1114) rfl ?_
    replace hr := obind hr
    obtain ⟨x1115, h1116, hr⟩ := hr
    refine at_on rfl rfl h1112 (at_hv rfl (hv_call0 [] (f84_spec h1116) rfl rfl rfl rfl ?_))
    rintro _ _ ⟨rfl, rfl⟩
    refine at_lt (lt_pick true rfl h1112 rfl) rfl (s_mv rfl ?_)
    by_cases h1117 : x1115 = true
    ·replace hr := ipos h1117 hr
     refine at_on rfl rfl h1117 (s_mv rfl (at_on rfl rfl h1117 (at_lt (lt_sneq rfl rfl) rfl (at_lt (lt_pick true rfl h1117 rfl) rfl (s_as rfl (s_nt (at_ret ?_)))))))
     have hq := oinj hr
     clear hr
     subst hq
     exact at_return (.bool (!decide (a0 = ([48, 48, 48] : Str)))) [] hS Tryz.results39 (.cons (.tmp rfl) .nil) rfl rfl ⟨rfl, rfl⟩
    replace hr := ineg h1117 hr
    refine at_off rfl rfl (bf h1117) rfl (at_off rfl rfl (bf h1117) rfl (at_lt (lt_pick false rfl (bf h1117) rfl) rfl (s_as rfl (s_nt (at_ret ?_)))))
    have hq := oinj hr
    clear hr
    subst hq
    exact at_return (.bool false) [] hS Tryz.results39 (.cons (.tmp rfl) .nil) rfl rfl ⟨rfl, rfl⟩
   replace hr := ineg h1112 hr
   refine at_off rfl rfl (bf h1112) rfl (at_off rfl rfl (bf h1112) rfl (at_off rfl rfl (bf h1112) rfl (at_lt (lt_pick false rfl (bf h1112) rfl) rfl (s_mv rfl (at_off rfl rfl rfl rfl (at_off rfl rfl rfl rfl (at_lt (lt_pick false rfl rfl rfl) rfl (s_as rfl (s_nt ?_)))))))))
   refine at_ret ?_
   have hq := oinj hr
   clear hr
   subst hq
   exact at_return (.bool false) [] hS Tryz.results39 (.cons (.tmp rfl) .nil) rfl rfl ⟨rfl, rfl⟩
  replace hr := ineg h1107 hr
  refine at_off rfl rfl (bf h1107) rfl (at_off rfl rfl (bf h1107) rfl (at_off rfl rfl (bf h1107) rfl (at_lt (lt_pick false rfl (bf h1107) rfl) rfl (s_mv rfl (at_off rfl rfl rfl rfl (at_off rfl rfl rfl rfl (at_off rfl rfl rfl rfl (at_lt (lt_pick false rfl rfl rfl) rfl (s_mv rfl ?_)))))))))
  refine at_off rfl rfl rfl rfl (at_off rfl rfl rfl rfl (at_lt (lt_pick false rfl rfl rfl) rfl (s_as rfl (s_nt (at_ret ?_)))))
  have hq := oinj hr
  clear hr
  subst hq
  exact at_return (.bool false) [] hS Tryz.results39 (.cons (.tmp rfl) .nil) rfl rfl ⟨rfl, rfl⟩
 replace hr := ineg h1102 hr
 refine at_off rfl rfl (decide_eq_false (by omega)) rfl ?_
 refine at_off rfl rfl (decide_eq_false (by omega)) rfl ?_
 refine at_off rfl rfl (decide_eq_false (by omega)) rfl ?_
 refine at_lt (lt_pick false rfl (decide_eq_false (by omega)) rfl) rfl ?_
 refine s_mv rfl (at_off rfl rfl rfl rfl (at_off rfl rfl rfl rfl (at_off rfl rfl rfl rfl (at_lt (lt_pick false rfl rfl rfl) rfl (s_mv rfl (at_off rfl rfl rfl rfl (at_off rfl rfl rfl rfl (at_off rfl rfl rfl rfl (at_lt (lt_pick false rfl rfl rfl) rfl ?_)))))))))
 refine s_mv rfl (at_off rfl rfl rfl rfl (at_off rfl rfl rfl rfl (at_lt (lt_pick false rfl rfl rfl) rfl (s_as rfl (s_nt (at_ret ?_))))))
 have hq := oinj hr
 clear hr
 subst hq
 exact at_return (.bool false) [] hS Tryz.results39 (.cons (.tmp rfl) .nil) rfl rfl ⟨rfl, rfl⟩
def m79 (a0 : UInt8) : Option Bool :=
  (m84 a0).bind fun x1118 =>
  if x1118 = true then
   some true
  else
   if 97 ≤ a0.toNat then
    some (decide ((a0.toNat : Int) ≤ 122))
   else
    some false
def post79 (r : Bool) (v : Value) (fs : List Fact) : Prop := v = .bool r ∧ fs = []
theorem en79 : Enters Tryz.prog 79 := ⟨_, Tryz.func79, by kernel_rfl, rfl⟩
theorem f79_spec {a0 : UInt8} {r : Bool} (hr : m79 a0 = some r) : Spec Tryz.prog 79 [.int .u8 (a0.toNat : Int)] [] (post79 r) := by
 refine spec_start (N := 13) Tryz.func79 (by kernel_rfl) rfl rfl rfl ?_
 intro g hS
 unfold m79 at hr
 refine s_sr (s_as rfl (s_ntsr (s_mv rfl ?_)))
 replace hr := obind hr
 obtain ⟨x1118, h1119, hr⟩ := hr
 refine at_hv rfl (hv_call0 [] (f84_spec h1119) rfl rfl rfl rfl ?_)
 rintro _ _ ⟨rfl, rfl⟩
 refine s_mv rfl ?_
 by_cases h1120 : x1118 = true
 ·replace hr := ipos h1120 hr
  refine at_off rfl rfl h1120 rfl (at_off rfl rfl h1120 rfl (at_off rfl rfl h1120 rfl (at_offu rfl rfl rfl (at_offu rfl rfl rfl (at_off rfl rfl h1120 rfl (at_lt (lt_pick true rfl h1120 rfl) rfl (s_as rfl (s_nt (at_ret ?_)))))))))
  have hq := oinj hr
  clear hr
  subst hq
  exact at_return (.bool true) [] hS Tryz.results79 (.cons (.tmp rfl) .nil) rfl rfl ⟨rfl, rfl⟩
 replace hr := ineg h1120 hr
 refine at_on rfl rfl (bf h1120) (s_mv rfl (at_on rfl rfl (bf h1120) (at_lt (lt_geq rfl rfl) rfl (at_on rfl rfl (bf h1120) (s_mv rfl ?_)))))
 by_cases h1121 : 97 ≤ a0.toNat
 ·replace hr := ipos h1121 hr
  refine at_on rfl rfl (decide_eq_true (by omega)) ?_
  refine s_mv rfl ?_
  refine at_on rfl rfl (decide_eq_true (by omega)) ?_
  refine at_lt (lt_leq rfl rfl) rfl (at_on rfl rfl (bf h1120) ?_)
  refine at_lt (lt_pick true rfl (decide_eq_true (by omega)) rfl) rfl ?_
  refine at_lt (lt_pick false rfl (bf h1120) rfl) rfl (s_as rfl (s_nt (at_ret ?_)))
  have hq := oinj hr
  clear hr
  subst hq
  exact at_return (.bool (decide ((a0.toNat : Int) ≤ 122))) [] hS Tryz.results79 (.cons (.tmp rfl) .nil) rfl rfl ⟨rfl, rfl⟩
 replace hr := ineg h1121 hr
 refine at_off rfl rfl (decide_eq_false (by omega)) rfl ?_
 refine at_off rfl rfl (decide_eq_false (by omega)) rfl ?_
 refine at_on rfl rfl (bf h1120) ?_
 refine at_lt (lt_pick false rfl (decide_eq_false (by omega)) rfl) rfl ?_
 refine at_lt (lt_pick false rfl (bf h1120) rfl) rfl (s_as rfl (s_nt (at_ret ?_)))
 have hq := oinj hr
 clear hr
 subst hq
 exact at_return (.bool false) [] hS Tryz.results79 (.cons (.tmp rfl) .nil) rfl rfl ⟨rfl, rfl⟩
def m151 (a0 : Str) (a1 : Int) : Option (Int × Int) :=
  (at? a0 a1).bind fun c1123 =>
  if c1123.toNat < 128 then
   some ((c1123.toNat : Int), 1)
  else
   Option.bind (α := Bool) (
    if 194 ≤ c1123.toNat then
     if c1123.toNat < 224 then
      if IntKind.i64.wrap (a1 + 1) < (a0.length : Int) then
       (at? a0 (IntKind.i64.wrap (a1 + 1))).bind fun c1132 =>
       some (decide (Int.fdiv (c1132.toNat : Int) (2 ^ (min 6 8)) = 2))
      else
       some false
     else
      some false
    else
     some false
   ) fun x1126 =>
   if x1126 = true then
    (at? a0 (IntKind.i64.wrap (a1 + 1))).bind fun c1135 =>
    some (IntKind.i64.wrap ((IntKind.i64.wrap (((c1123.toNat : Int) - 192) * 64)) + ((w8 ((c1135.toNat : Int) - 128)).toNat : Int)), 2)
   else
    Option.bind (α := Bool) (
     if 224 ≤ c1123.toNat then
      if c1123.toNat < 240 then
       if IntKind.i64.wrap (a1 + 2) < (a0.length : Int) then
        (at? a0 (IntKind.i64.wrap (a1 + 1))).bind fun c1143 =>
        if Int.fdiv (c1143.toNat : Int) (2 ^ (min 6 8)) = 2 then
         (at? a0 (IntKind.i64.wrap (a1 + 2))).bind fun c1146 =>
         some (decide (Int.fdiv (c1146.toNat : Int) (2 ^ (min 6 8)) = 2))
        else
         some false
       else
        some false
      else
       some false
     else
      some false
    ) fun x1137 =>
    if x1137 = true then
     (at? a0 (IntKind.i64.wrap (a1 + 1))).bind fun c1149 =>
     if (w8 ((c1149.toNat : Int) - 128)).toNat * 64 ≤ 9223372036854775807 then
      (at? a0 (IntKind.i64.wrap (a1 + 2))).bind fun c1152 =>
      if (2048 : Int) ≤ IntKind.i64.wrap ((IntKind.i64.wrap ((IntKind.i64.wrap (((c1123.toNat : Int) - 224) * 4096)) + (((w8 ((c1149.toNat : Int) - 128)).toNat : Int) * 64))) + ((w8 ((c1152.toNat : Int) - 128)).toNat : Int)) then
       some (IntKind.i64.wrap ((IntKind.i64.wrap ((IntKind.i64.wrap (((c1123.toNat : Int) - 224) * 4096)) + (((w8 ((c1149.toNat : Int) - 128)).toNat : Int) * 64))) + ((w8 ((c1152.toNat : Int) - 128)).toNat : Int)), 3)
      else
       some (0, 0)
     else none
    else
     some (0, 0)
def post151 (r : (Int × Int)) (v : Value) (fs : List Fact) : Prop := v = .tuple #[.int .i64 r.1, .int .i64 r.2] ∧ fs = [((Ty.int .i64).fact r.1 [.int .i64 r.1]), ((Ty.int .i64).fact r.2 [.int .i64 r.2])]
theorem en151 : Enters Tryz.prog 151 := ⟨_, Tryz.func151, by kernel_rfl, rfl⟩
theorem f151_spec {a0 : Str} {a1 : Int} {r : (Int × Int)} (hr : m151 a0 a1 = some r) : Spec Tryz.prog 151 [str a0, .int .i64 a1] [(Ty.str.fact a0 [str a0]), ((Ty.int .i64).fact a1 [.int .i64 a1])] (post151 r) := by
 refine spec_start (N := 96) Tryz.func151 (by kernel_rfl) rfl rfl rfl ?_
 intro g hS
 unfold m151 at hr
 refine at_inv 1 rfl (fun l1122 => ?_)
 replace l1122 : (-9223372036854775808) ≤ a1 ∧ a1 ≤ 9223372036854775807 := l1122
 refine s_sr (s_as rfl (s_as rfl (s_ntsr (s_mv rfl (s_mv rfl ?_)))))
 replace hr := obind hr
 obtain ⟨c1123, h1124, hr⟩ := hr
 have := at?_lt h1124
 have := c1123.toNat_lt
 refine at_lt (lt_sidx rfl rfl und9 (at?_lt h1124).1 (at?_get h1124)) rfl ?_
 refine at_lt (lt_convint rfl (iso und5) und3 (u8_in_i64 c1123)) rfl (s_as rfl (s_nt (at_seq (s_sr (s_mv rfl (at_lt (lt_lss rfl rfl) rfl (s_nt ?_)))))))
 by_cases h1125 : c1123.toNat < 128
 ·replace hr := ipos h1125 hr
  refine at_true rfl (decide_eq_true (by omega)) ?_
  refine s_sr (s_mv rfl (s_as rfl (s_as rfl (s_nt (at_ret ?_)))))
  have hq := oinj hr
  clear hr
  subst hq
  refine at_then_ret (at_int .i64 (c1123.toNat : Int) (u8_in_i64 c1123) (at_int .i64 1 (by simp only [lo, hi]; omega) ?_))
  exact at_return (.tuple #[.int .i64 (c1123.toNat : Int), .int .i64 1]) [1, 0] hS Tryz.results151 (.cons (.tmp rfl) (.cons (.tmp rfl) .nil)) rfl rfl ⟨rfl, rfl⟩
 replace hr := ineg h1125 hr
 refine at_false rfl (decide_eq_false (by omega)) ?_
 refine at_skip (at_then (at_seq (at_seq ?_)))
 replace hr := obind hr
 obtain ⟨x1126, hc1127, hr⟩ := hr
 refine at_cut (V := Unit) (fun e => (⟨[(0, str a0), (1, .int .i64 a1), (6, .int .i64 (c1123.toNat : Int)), (35, .bool x1126)], [], [], [(Ty.str.fact a0 [str a0]), ((Ty.int .i64).fact a1 [.int .i64 a1])]⟩ : St)) ?_ ?_
 ·clear hr
  have hr := hc1127
  clear hc1127
  refine at_region (s_mv rfl (at_lt (lt_geq rfl rfl) rfl (s_mv rfl ?_)))
  by_cases h1128 : 194 ≤ c1123.toNat
  ·replace hr := ipos h1128 hr
   refine at_on rfl rfl (decide_eq_true (by omega)) ?_
   refine s_mv rfl ?_
   refine at_on rfl rfl (decide_eq_true (by omega)) ?_
   refine at_lt (lt_lss rfl rfl) rfl ?_
   refine at_lt (lt_pick true rfl (decide_eq_true (by omega)) rfl) rfl ?_
   refine s_mv rfl ?_
   by_cases h1129 : c1123.toNat < 224
   ·replace hr := ipos h1129 hr
    refine at_on rfl rfl (decide_eq_true (by omega)) ?_
    refine s_mv rfl ?_
    refine at_on rfl rfl (decide_eq_true (by omega)) ?_
    refine at_lt (lt_addw rfl rfl) rfl ?_
    refine at_on rfl rfl (decide_eq_true (by omega)) ?_
    refine s_mv rfl ?_
    refine at_inv 0 rfl (fun l1130 => ?_)
    replace l1130 : a0.length ≤ 9223372036854775807 := l1130
    refine at_on rfl rfl (decide_eq_true (by omega)) ?_
    refine at_lt (lt_slen rfl und9) rfl ?_
    refine at_on rfl rfl (decide_eq_true (by omega)) ?_
    refine at_lt (lt_lss rfl rfl) rfl ?_
    refine at_lt (lt_pick true rfl (decide_eq_true (by omega)) rfl) rfl ?_
    refine s_mv rfl ?_
    by_cases h1131 : IntKind.i64.wrap (a1 + 1) < (a0.length : Int)
    ·replace hr := ipos h1131 hr
     refine at_on rfl rfl (decide_eq_true (by first | exact h1131 | omega)) ?_
     refine s_mv rfl ?_
     refine at_on rfl rfl (decide_eq_true (by first | exact h1131 | omega)) ?_
     refine s_mv rfl ?_
     refine at_on rfl rfl (decide_eq_true (by first | exact h1131 | omega)) ?_
     refine at_lt (lt_addw rfl rfl) rfl ?_
     replace hr := obind hr
     obtain ⟨c1132, h1133, hr⟩ := hr
     have := at?_lt h1133
     have := c1132.toNat_lt
     refine at_on rfl rfl (decide_eq_true (by first | exact h1131 | omega)) ?_
     refine at_lt (lt_sidx rfl rfl und9 (at?_lt h1133).1 (at?_get h1133)) rfl ?_
     refine at_on rfl rfl (decide_eq_true (by first | exact h1131 | omega)) ?_
     refine at_lt (lt_shr rfl rfl (by decide)) rfl ?_
     refine at_on rfl rfl (decide_eq_true (by first | exact h1131 | omega)) ?_
     refine at_lt (lt_eql rfl rfl) rfl ?_
     refine at_lt (lt_pick true rfl (decide_eq_true (by first | exact h1131 | omega)) rfl) rfl ?_
     refine at_nil ?_
     have hq := oinj hr
     clear hr
     subst hq
     exact at_leaf () ⟨⟨rfl, ⟨rfl, ⟨rfl, ⟨rfl, trivial⟩⟩⟩⟩, ⟨[], rfl⟩, ⟨[], rfl⟩, ⟨[0, 1], rfl⟩⟩
    replace hr := ineg h1131 hr
    refine at_off rfl rfl (decide_eq_false (by first | exact h1131 | omega)) rfl ?_
    refine at_off rfl rfl (decide_eq_false (by first | exact h1131 | omega)) rfl ?_
    refine at_off rfl rfl (decide_eq_false (by first | exact h1131 | omega)) rfl ?_
    refine at_off rfl rfl (decide_eq_false (by first | exact h1131 | omega)) rfl ?_
    refine at_off rfl rfl (decide_eq_false (by first | exact h1131 | omega)) rfl ?_
    refine at_off rfl rfl (decide_eq_false (by first | exact h1131 | omega)) rfl ?_
    refine at_lt (lt_pick false rfl (decide_eq_false (by first | exact h1131 | omega)) rfl) rfl ?_
    refine at_nil ?_
    have hq := oinj hr
    clear hr
    subst hq
    exact at_leaf () ⟨⟨rfl, ⟨rfl, ⟨rfl, ⟨rfl, trivial⟩⟩⟩⟩, ⟨[], rfl⟩, ⟨[], rfl⟩, ⟨[0, 1], rfl⟩⟩
   replace hr := ineg h1129 hr
   refine at_off rfl rfl (decide_eq_false (by omega)) rfl ?_
   refine at_off rfl rfl (decide_eq_false (by omega)) rfl ?_
   refine at_off rfl rfl (decide_eq_false (by omega)) rfl ?_
   refine at_off rfl rfl (decide_eq_false (by omega)) rfl ?_
   refine at_off rfl rfl (decide_eq_false (by omega)) rfl ?_
   refine at_lt (lt_pick false rfl (decide_eq_false (by omega)) rfl) rfl ?_
   refine s_mv rfl (at_off rfl rfl rfl rfl (at_off rfl rfl rfl rfl (at_off rfl rfl rfl rfl (at_off rfl rfl rfl rfl (at_off rfl rfl rfl rfl (at_off rfl rfl rfl rfl (at_lt (lt_pick false rfl rfl rfl) rfl (at_nil ?_))))))))
   have hq := oinj hr
   clear hr
   subst hq
   exact at_leaf () ⟨⟨rfl, ⟨rfl, ⟨rfl, ⟨rfl, trivial⟩⟩⟩⟩, ⟨[], rfl⟩, ⟨[], rfl⟩, ⟨[0, 1], rfl⟩⟩
  replace hr := ineg h1128 hr
  refine at_off rfl rfl (decide_eq_false (by omega)) rfl ?_
  refine at_off rfl rfl (decide_eq_false (by omega)) rfl ?_
  refine at_lt (lt_pick false rfl (decide_eq_false (by omega)) rfl) rfl ?_
  refine s_mv rfl (at_off rfl rfl rfl rfl (at_off rfl rfl rfl rfl (at_off rfl rfl rfl rfl (at_off rfl rfl rfl rfl (at_off rfl rfl rfl rfl (at_lt (lt_pick false rfl rfl rfl) rfl (s_mv rfl (at_off rfl rfl rfl rfl (at_off rfl rfl rfl rfl ?_)))))))))
  refine at_off rfl rfl rfl rfl (at_off rfl rfl rfl rfl (at_off rfl rfl rfl rfl (at_off rfl rfl rfl rfl (at_lt (lt_pick false rfl rfl rfl) rfl (at_nil ?_)))))
  have hq := oinj hr
  clear hr
  subst hq
  exact at_leaf () ⟨⟨rfl, ⟨rfl, ⟨rfl, ⟨rfl, trivial⟩⟩⟩⟩, ⟨[], rfl⟩, ⟨[], rfl⟩, ⟨[0, 1], rfl⟩⟩
 clear hc1127
 intro _
 change At _ _ (⟨[(0, str a0), (1, .int .i64 a1), (6, .int .i64 (c1123.toNat : Int)), (35, .bool x1126)], [], [], [(Ty.str.fact a0 [str a0]), ((Ty.int .i64).fact a1 [.int .i64 a1])]⟩ : St) _
 refine at_then ?_
 by_cases h1134 : x1126 = true
 ·replace hr := ipos h1134 hr
  refine at_true rfl h1134 (s_sr (s_mv rfl (at_lt (lt_sub rfl rfl (by simp only [lo, hi]; omega)) rfl (at_lt (lt_mulw rfl rfl) rfl (s_mv rfl (s_mv rfl (at_lt (lt_addw rfl rfl) rfl ?_)))))))
  replace hr := obind hr
  obtain ⟨c1135, h1136, hr⟩ := hr
  have := at?_lt h1136
  have := c1135.toNat_lt
  refine at_lt (lt_sidx rfl rfl und9 (at?_lt h1136).1 (at?_get h1136)) rfl ?_
  refine at_lt (lt_u8 (lt_subw rfl rfl)) rfl (at_lt (lt_convint rfl (iso und5) und3 (u8_in_i64 (w8 ((c1135.toNat : Int) - 128)))) rfl (at_lt (lt_addw rfl rfl) rfl (s_as rfl (s_as rfl (s_nt (at_ret ?_))))))
  have hq := oinj hr
  clear hr
  subst hq
  refine at_then_ret (at_int .i64 (IntKind.i64.wrap ((IntKind.i64.wrap (((c1123.toNat : Int) - 192) * 64)) + ((w8 ((c1135.toNat : Int) - 128)).toNat : Int))) (wrap_bd .i64 _) (at_int .i64 2 (by simp only [lo, hi]; omega) ?_))
  exact at_return (.tuple #[.int .i64 (IntKind.i64.wrap ((IntKind.i64.wrap (((c1123.toNat : Int) - 192) * 64)) + ((w8 ((c1135.toNat : Int) - 128)).toNat : Int))), .int .i64 2]) [1, 0] hS Tryz.results151 (.cons (.tmp rfl) (.cons (.tmp rfl) .nil)) rfl rfl ⟨rfl, rfl⟩
 replace hr := ineg h1134 hr
 refine at_false rfl (bf h1134) (at_skip (at_then (at_seq (at_seq ?_))))
 replace hr := obind hr
 obtain ⟨x1137, hc1138, hr⟩ := hr
 refine at_cut (V := Unit) (fun e => (⟨[(0, str a0), (1, .int .i64 a1), (6, .int .i64 (c1123.toNat : Int)), (74, .bool x1137)], [], [], [(Ty.str.fact a0 [str a0]), ((Ty.int .i64).fact a1 [.int .i64 a1])]⟩ : St)) ?_ ?_
 ·clear hr
  have hr := hc1138
  clear hc1138
  refine at_region (s_mv rfl (at_lt (lt_geq rfl rfl) rfl (s_mv rfl ?_)))
  by_cases h1139 : 224 ≤ c1123.toNat
  ·replace hr := ipos h1139 hr
   refine at_on rfl rfl (decide_eq_true (by omega)) ?_
   refine s_mv rfl ?_
   refine at_on rfl rfl (decide_eq_true (by omega)) ?_
   refine at_lt (lt_lss rfl rfl) rfl ?_
   refine at_lt (lt_pick true rfl (decide_eq_true (by omega)) rfl) rfl ?_
   refine s_mv rfl ?_
   by_cases h1140 : c1123.toNat < 240
   ·replace hr := ipos h1140 hr
    refine at_on rfl rfl (decide_eq_true (by omega)) ?_
    refine s_mv rfl ?_
    refine at_on rfl rfl (decide_eq_true (by omega)) ?_
    refine at_lt (lt_addw rfl rfl) rfl ?_
    refine at_on rfl rfl (decide_eq_true (by omega)) ?_
    refine s_mv rfl ?_
    refine at_inv 0 rfl (fun l1141 => ?_)
    replace l1141 : a0.length ≤ 9223372036854775807 := l1141
    refine at_on rfl rfl (decide_eq_true (by omega)) ?_
    refine at_lt (lt_slen rfl und9) rfl ?_
    refine at_on rfl rfl (decide_eq_true (by omega)) ?_
    refine at_lt (lt_lss rfl rfl) rfl ?_
    refine at_lt (lt_pick true rfl (decide_eq_true (by omega)) rfl) rfl ?_
    refine s_mv rfl ?_
    by_cases h1142 : IntKind.i64.wrap (a1 + 2) < (a0.length : Int)
    ·replace hr := ipos h1142 hr
     refine at_on rfl rfl (decide_eq_true (by first | exact h1142 | omega)) ?_
     refine s_mv rfl ?_
     refine at_on rfl rfl (decide_eq_true (by first | exact h1142 | omega)) ?_
     refine s_mv rfl ?_
     refine at_on rfl rfl (decide_eq_true (by first | exact h1142 | omega)) ?_
     refine at_lt (lt_addw rfl rfl) rfl ?_
     replace hr := obind hr
     obtain ⟨c1143, h1144, hr⟩ := hr
     have := at?_lt h1144
     have := c1143.toNat_lt
     refine at_on rfl rfl (decide_eq_true (by first | exact h1142 | omega)) ?_
     refine at_lt (lt_sidx rfl rfl und9 (at?_lt h1144).1 (at?_get h1144)) rfl ?_
     refine at_on rfl rfl (decide_eq_true (by first | exact h1142 | omega)) ?_
     refine at_lt (lt_shr rfl rfl (by decide)) rfl ?_
     refine at_on rfl rfl (decide_eq_true (by first | exact h1142 | omega)) ?_
     refine at_lt (lt_eql rfl rfl) rfl ?_
     refine at_lt (lt_pick true rfl (decide_eq_true (by first | exact h1142 | omega)) rfl) rfl ?_
     refine s_mv rfl ?_
     by_cases h1145 : Int.fdiv (c1143.toNat : Int) (2 ^ (min 6 8)) = 2
     ·replace hr := ipos h1145 hr
      refine at_on rfl rfl (decide_eq_true (by first | exact h1145 | omega)) ?_
      refine s_mv rfl ?_
      refine at_on rfl rfl (decide_eq_true (by first | exact h1145 | omega)) ?_
      refine s_mv rfl ?_
      refine at_on rfl rfl (decide_eq_true (by first | exact h1145 | omega)) ?_
      refine at_lt (lt_addw rfl rfl) rfl ?_
      replace hr := obind hr
      obtain ⟨c1146, h1147, hr⟩ := hr
      have := at?_lt h1147
      have := c1146.toNat_lt
      refine at_on rfl rfl (decide_eq_true (by first | exact h1145 | omega)) ?_
      refine at_lt (lt_sidx rfl rfl und9 (at?_lt h1147).1 (at?_get h1147)) rfl ?_
      refine at_on rfl rfl (decide_eq_true (by first | exact h1145 | omega)) ?_
      refine at_lt (lt_shr rfl rfl (by decide)) rfl ?_
      refine at_on rfl rfl (decide_eq_true (by first | exact h1145 | omega)) ?_
      refine at_lt (lt_eql rfl rfl) rfl ?_
      refine at_lt (lt_pick true rfl (decide_eq_true (by first | exact h1145 | omega)) rfl) rfl ?_
      refine at_nil ?_
      have hq := oinj hr
      clear hr
      subst hq
      exact at_leaf () ⟨⟨rfl, ⟨rfl, ⟨rfl, ⟨rfl, trivial⟩⟩⟩⟩, ⟨[], rfl⟩, ⟨[], rfl⟩, ⟨[0, 1], rfl⟩⟩
     replace hr := ineg h1145 hr
     refine at_off rfl rfl (decide_eq_false (by first | exact h1145 | omega)) rfl ?_
     refine at_off rfl rfl (decide_eq_false (by first | exact h1145 | omega)) rfl ?_
     refine at_off rfl rfl (decide_eq_false (by first | exact h1145 | omega)) rfl ?_
     refine at_off rfl rfl (decide_eq_false (by first | exact h1145 | omega)) rfl ?_
     refine at_off rfl rfl (decide_eq_false (by first | exact h1145 | omega)) rfl ?_
     refine at_off rfl rfl (decide_eq_false (by first | exact h1145 | omega)) rfl ?_
     refine at_lt (lt_pick false rfl (decide_eq_false (by first | exact h1145 | omega)) rfl) rfl ?_
     refine at_nil ?_
     have hq := oinj hr
     clear hr
     subst hq
     exact at_leaf () ⟨⟨rfl, ⟨rfl, ⟨rfl, ⟨rfl, trivial⟩⟩⟩⟩, ⟨[], rfl⟩, ⟨[], rfl⟩, ⟨[0, 1], rfl⟩⟩
    replace hr := ineg h1142 hr
    refine at_off rfl rfl (decide_eq_false (by first | exact h1142 | omega)) rfl ?_
    refine at_off rfl rfl (decide_eq_false (by first | exact h1142 | omega)) rfl ?_
    refine at_off rfl rfl (decide_eq_false (by first | exact h1142 | omega)) rfl ?_
    refine at_off rfl rfl (decide_eq_false (by first | exact h1142 | omega)) rfl ?_
    refine at_off rfl rfl (decide_eq_false (by first | exact h1142 | omega)) rfl ?_
    refine at_off rfl rfl (decide_eq_false (by first | exact h1142 | omega)) rfl ?_
    refine at_lt (lt_pick false rfl (decide_eq_false (by first | exact h1142 | omega)) rfl) rfl ?_
    refine s_mv rfl (at_off rfl rfl rfl rfl (at_off rfl rfl rfl rfl (at_off rfl rfl rfl rfl (at_off rfl rfl rfl rfl (at_off rfl rfl rfl rfl (at_off rfl rfl rfl rfl (at_lt (lt_pick false rfl rfl rfl) rfl (at_nil ?_))))))))
    have hq := oinj hr
    clear hr
    subst hq
    exact at_leaf () ⟨⟨rfl, ⟨rfl, ⟨rfl, ⟨rfl, trivial⟩⟩⟩⟩, ⟨[], rfl⟩, ⟨[], rfl⟩, ⟨[0, 1], rfl⟩⟩
   replace hr := ineg h1140 hr
   refine at_off rfl rfl (decide_eq_false (by omega)) rfl ?_
   refine at_off rfl rfl (decide_eq_false (by omega)) rfl ?_
   refine at_off rfl rfl (decide_eq_false (by omega)) rfl ?_
   refine at_off rfl rfl (decide_eq_false (by omega)) rfl ?_
   refine at_off rfl rfl (decide_eq_false (by omega)) rfl ?_
   refine at_lt (lt_pick false rfl (decide_eq_false (by omega)) rfl) rfl ?_
   refine s_mv rfl (at_off rfl rfl rfl rfl (at_off rfl rfl rfl rfl (at_off rfl rfl rfl rfl (at_off rfl rfl rfl rfl (at_off rfl rfl rfl rfl (at_off rfl rfl rfl rfl (at_lt (lt_pick false rfl rfl rfl) rfl (s_mv rfl (at_off rfl rfl rfl rfl ?_)))))))))
   refine at_off rfl rfl rfl rfl (at_off rfl rfl rfl rfl (at_off rfl rfl rfl rfl (at_off rfl rfl rfl rfl (at_off rfl rfl rfl rfl (at_lt (lt_pick false rfl rfl rfl) rfl (at_nil ?_))))))
   have hq := oinj hr
   clear hr
   subst hq
   exact at_leaf () ⟨⟨rfl, ⟨rfl, ⟨rfl, ⟨rfl, trivial⟩⟩⟩⟩, ⟨[], rfl⟩, ⟨[], rfl⟩, ⟨[0, 1], rfl⟩⟩
  replace hr := ineg h1139 hr
  refine at_off rfl rfl (decide_eq_false (by omega)) rfl ?_
  refine at_off rfl rfl (decide_eq_false (by omega)) rfl ?_
  refine at_lt (lt_pick false rfl (decide_eq_false (by omega)) rfl) rfl ?_
  refine s_mv rfl (at_off rfl rfl rfl rfl (at_off rfl rfl rfl rfl (at_off rfl rfl rfl rfl (at_off rfl rfl rfl rfl (at_off rfl rfl rfl rfl (at_lt (lt_pick false rfl rfl rfl) rfl (s_mv rfl (at_off rfl rfl rfl rfl (at_off rfl rfl rfl rfl ?_)))))))))
  refine at_off rfl rfl rfl rfl (at_off rfl rfl rfl rfl (at_off rfl rfl rfl rfl (at_off rfl rfl rfl rfl (at_lt (lt_pick false rfl rfl rfl) rfl (s_mv rfl (at_off rfl rfl rfl rfl (at_off rfl rfl rfl rfl (at_off rfl rfl rfl rfl (at_off rfl rfl rfl rfl ?_)))))))))
  refine at_off rfl rfl rfl rfl (at_off rfl rfl rfl rfl (at_lt (lt_pick false rfl rfl rfl) rfl (at_nil ?_)))
  have hq := oinj hr
  clear hr
  subst hq
  exact at_leaf () ⟨⟨rfl, ⟨rfl, ⟨rfl, ⟨rfl, trivial⟩⟩⟩⟩, ⟨[], rfl⟩, ⟨[], rfl⟩, ⟨[0, 1], rfl⟩⟩
 clear hc1138
 intro _
 change At _ _ (⟨[(0, str a0), (1, .int .i64 a1), (6, .int .i64 (c1123.toNat : Int)), (74, .bool x1137)], [], [], [(Ty.str.fact a0 [str a0]), ((Ty.int .i64).fact a1 [.int .i64 a1])]⟩ : St) _
 refine at_then ?_
 by_cases h1148 : x1137 = true
 ·replace hr := ipos h1148 hr
  refine at_true rfl h1148 (at_seq ?_)
  replace hr := obind hr
  obtain ⟨c1149, h1150, hr⟩ := hr
  have := at?_lt h1150
  have := c1149.toNat_lt
  replace hr := imust hr
  obtain ⟨h1151, hr⟩ := hr
  replace hr := obind hr
  obtain ⟨c1152, h1153, hr⟩ := hr
  have := at?_lt h1153
  have := c1152.toNat_lt
  refine aa_start 19 (by kernel_rfl) ?_
  refine aa_p 0 rfl (lt_move rfl) (aa_p 1 rfl (lt_sub rfl rfl (by simp only [lo, hi]; omega)) (aa_p 2 rfl (lt_mulw rfl rfl) (aa_p 3 rfl (lt_move rfl) (aa_p 4 rfl (lt_move rfl) (aa_p 5 rfl (lt_addw rfl rfl) ?_)))))
  refine aa_p 6 rfl (lt_sidx rfl rfl und9 (at?_lt h1150).1 (at?_get h1150)) ?_
  refine aa_p 7 rfl (lt_u8 (lt_subw rfl rfl)) (aa_p 8 rfl (lt_convint rfl (iso und5) und3 (u8_in_i64 (w8 ((c1149.toNat : Int) - 128)))) (aa_p 9 rfl (lt_mul rfl rfl (by simp only [lo, hi]; omega)) (aa_p 10 rfl (lt_addw rfl rfl) (aa_p 11 rfl (lt_move rfl) (aa_p 12 rfl (lt_move rfl) (aa_p 13 rfl (lt_addw rfl rfl) ?_))))))
  refine aa_p 14 rfl (lt_sidx rfl rfl und9 (at?_lt h1153).1 (at?_get h1153)) ?_
  refine aa_p 15 rfl (lt_u8 (lt_subw rfl rfl)) (aa_p 16 rfl (lt_convint rfl (iso und5) und3 (u8_in_i64 (w8 ((c1152.toNat : Int) - 128)))) (aa_p 17 rfl (lt_addw rfl rfl) (aa_p 18 rfl (lt_assign rfl) ?_)))
  refine aa_done (by kernel_rfl) (ts_in 0 0 rfl rfl) ?_
  refine s_tsr (s_mv rfl (at_lt (lt_geq rfl rfl) rfl (s_nt ?_)))
  by_cases h1154 : (2048 : Int) ≤ IntKind.i64.wrap ((IntKind.i64.wrap ((IntKind.i64.wrap (((c1123.toNat : Int) - 224) * 4096)) + (((w8 ((c1149.toNat : Int) - 128)).toNat : Int) * 64))) + ((w8 ((c1152.toNat : Int) - 128)).toNat : Int))
  ·replace hr := ipos h1154 hr
   refine at_true rfl (decide_eq_true (by first | exact h1154 | omega)) ?_
   refine s_sr (s_mv rfl (s_as rfl (s_as rfl (s_nt (at_ret ?_)))))
   have hq := oinj hr
   clear hr
   subst hq
   refine at_then_ret (at_int .i64 (IntKind.i64.wrap ((IntKind.i64.wrap ((IntKind.i64.wrap (((c1123.toNat : Int) - 224) * 4096)) + (((w8 ((c1149.toNat : Int) - 128)).toNat : Int) * 64))) + ((w8 ((c1152.toNat : Int) - 128)).toNat : Int))) (wrap_bd .i64 _) (at_int .i64 3 (by simp only [lo, hi]; omega) ?_))
   exact at_return (.tuple #[.int .i64 (IntKind.i64.wrap ((IntKind.i64.wrap ((IntKind.i64.wrap (((c1123.toNat : Int) - 224) * 4096)) + (((w8 ((c1149.toNat : Int) - 128)).toNat : Int) * 64))) + ((w8 ((c1152.toNat : Int) - 128)).toNat : Int))), .int .i64 3]) [1, 0] hS Tryz.results151 (.cons (.tmp rfl) (.cons (.tmp rfl) .nil)) rfl rfl ⟨rfl, rfl⟩
  replace hr := ineg h1154 hr
  refine at_false rfl (decide_eq_false (by first | exact h1154 | omega)) ?_
  refine at_skip (s_tsr (s_as rfl (s_as rfl (s_nt (at_ret ?_)))))
  have hq := oinj hr
  clear hr
  subst hq
  refine at_int .i64 0 (by simp only [lo, hi]; omega) ?_
  exact at_return (.tuple #[.int .i64 0, .int .i64 0]) [0, 0] hS Tryz.results151 (.cons (.tmp rfl) (.cons (.tmp rfl) .nil)) rfl rfl ⟨rfl, rfl⟩
 replace hr := ineg h1148 hr
 refine at_false rfl (bf h1148) (at_skip (s_tsr (s_as rfl (s_as rfl (s_nt (at_ret ?_))))))
 have hq := oinj hr
 clear hr
 subst hq
 refine at_int .i64 0 (by simp only [lo, hi]; omega) ?_
 exact at_return (.tuple #[.int .i64 0, .int .i64 0]) [0, 0] hS Tryz.results151 (.cons (.tmp rfl) (.cons (.tmp rfl) .nil)) rfl rfl ⟨rfl, rfl⟩
def m196 (a0 : Int) (a1 : Int) (a2 : Int) : Option Bool :=
  if a1 ≤ a0 then
   some (decide (a0 ≤ a2))
  else
   some false
def post196 (r : Bool) (v : Value) (fs : List Fact) : Prop := v = .bool r ∧ fs = []
theorem en196 : Enters Tryz.prog 196 := ⟨_, Tryz.func196, by kernel_rfl, rfl⟩
theorem f196_spec {a0 : Int} {a1 : Int} {a2 : Int} {r : Bool} (hr : m196 a0 a1 a2 = some r) : Spec Tryz.prog 196 [.int .i64 a0, .int .i64 a1, .int .i64 a2] [((Ty.int .i64).fact a0 [.int .i64 a0]), ((Ty.int .i64).fact a1 [.int .i64 a1]), ((Ty.int .i64).fact a2 [.int .i64 a2])] (post196 r) := by
 refine spec_start (N := 15) Tryz.func196 (by kernel_rfl) rfl rfl rfl ?_
 intro g hS
 unfold m196 at hr
 refine at_inv 0 rfl (fun l1155 => ?_)
 replace l1155 : (-9223372036854775808) ≤ a0 ∧ a0 ≤ 9223372036854775807 := l1155
 refine at_inv 1 rfl (fun l1156 => ?_)
 replace l1156 : (-9223372036854775808) ≤ a1 ∧ a1 ≤ 9223372036854775807 := l1156
 refine at_inv 2 rfl (fun l1157 => ?_)
 replace l1157 : (-9223372036854775808) ≤ a2 ∧ a2 ≤ 9223372036854775807 := l1157
 refine s_sr (s_as rfl (s_ntsr (s_mv rfl (s_mv rfl (at_lt (lt_geq rfl rfl) rfl (s_mv rfl ?_))))))
 by_cases h1158 : a1 ≤ a0
 ·replace hr := ipos h1158 hr
  refine at_on rfl rfl (decide_eq_true (by first | exact h1158 | omega)) ?_
  refine s_mv rfl ?_
  refine at_on rfl rfl (decide_eq_true (by first | exact h1158 | omega)) ?_
  refine s_mv rfl ?_
  refine at_on rfl rfl (decide_eq_true (by first | exact h1158 | omega)) ?_
  refine at_lt (lt_leq rfl rfl) rfl ?_
  refine at_lt (lt_pick true rfl (decide_eq_true (by first | exact h1158 | omega)) rfl) rfl ?_
  refine s_as rfl (s_nt (at_ret ?_))
  have hq := oinj hr
  clear hr
  subst hq
  exact at_return (.bool (decide (a0 ≤ a2))) [] hS Tryz.results196 (.cons (.tmp rfl) .nil) rfl rfl ⟨rfl, rfl⟩
 replace hr := ineg h1158 hr
 refine at_off rfl rfl (decide_eq_false (by first | exact h1158 | omega)) rfl ?_
 refine at_off rfl rfl (decide_eq_false (by first | exact h1158 | omega)) rfl ?_
 refine at_off rfl rfl (decide_eq_false (by first | exact h1158 | omega)) rfl ?_
 refine at_lt (lt_pick false rfl (decide_eq_false (by first | exact h1158 | omega)) rfl) rfl ?_
 refine s_as rfl (s_nt (at_ret ?_))
 have hq := oinj hr
 clear hr
 subst hq
 exact at_return (.bool false) [] hS Tryz.results196 (.cons (.tmp rfl) .nil) rfl rfl ⟨rfl, rfl⟩
def m197_l1 (a0 : Str) (a1 : Int) : Nat → Int → Option (Fl Bool Unit)
  | 0, _ => none
  | k + 1, x1160 =>
    if x1160 < (a0.length : Int) then
     (m151 a0 x1160).bind fun x1167 =>
     if x1167.1 = a1 then
      some (Fl.ret true)
     else
      m197_l1 a0 a1 k (IntKind.i64.wrap (x1160 + x1167.2))
    else
     some (Fl.go ())
def m197 (a0 : Str) (a1 : Int) : Option Bool :=
  (m197_l1 a0 a1 (a0.length + 1) 0).bind fun r => match r with
  | .ret x => some x
  | .go _ =>
   some false
def post197 (r : Bool) (v : Value) (fs : List Fact) : Prop := v = .bool r ∧ fs = []
theorem en197 : Enters Tryz.prog 197 := ⟨_, Tryz.func197, by kernel_rfl, rfl⟩
theorem f197_spec {a0 : Str} {a1 : Int} {r : Bool} (hr : m197 a0 a1 = some r) : Spec Tryz.prog 197 [str a0, .int .i64 a1] [(Ty.str.fact a0 [str a0]), ((Ty.int .i64).fact a1 [.int .i64 a1])] (post197 r) := by
 refine spec_start (N := 24) Tryz.func197 (by kernel_rfl) rfl rfl rfl ?_
 intro g hS
 unfold m197 at hr
 refine at_inv 1 rfl (fun l1159 => ?_)
 replace l1159 : (-9223372036854775808) ≤ a1 ∧ a1 ≤ 9223372036854775807 := l1159
 refine s_sr (s_as rfl (s_nt (at_seq (s_sr (s_as rfl (s_nt (at_int .i64 0 (by simp only [lo, hi]; omega) ?_)))))))
 replace hr := obind hr
 obtain ⟨r1161, hl1162, hk1163⟩ := hr
 refine at_cutP (V := (Unit) × (Unit)) (fun v => r1161 = Fl.go v.1) (fun v => (⟨[], [], [], []⟩ : St)) ?_ ?_
 ·refine at_block ?_
  refine at_loopW (σ := Int) (V := Unit) (r := r1161) (fun n s => m197_l1 a0 a1 n s) (fun s e => (⟨[(0, str a0), (1, .int .i64 a1), (5, .int .i64 s)], [], [], [((Ty.int .i64).fact s [.int .i64 s]), (Ty.str.fact a0 [str a0]), ((Ty.int .i64).fact a1 [.int .i64 a1])]⟩ : St)) (fun _ => rfl) _ 0 () hl1162 ⟨⟨rfl, ⟨rfl, ⟨rfl, trivial⟩⟩⟩, ⟨[], rfl⟩, ⟨[], rfl⟩, ⟨[0, 1, 2], rfl⟩⟩ ?_
  clear hl1162
  intro n x1160 hr e
  skip
  skip
  change m197_l1 a0 a1 (n + 1) x1160 = some r1161 at hr
  change At _ _ (⟨[(0, str a0), (1, .int .i64 a1), (5, .int .i64 x1160)], [], [], [((Ty.int .i64).fact x1160 [.int .i64 x1160]), (Ty.str.fact a0 [str a0]), ((Ty.int .i64).fact a1 [.int .i64 a1])]⟩ : St) _
  rw [m197_l1] at hr
  refine at_inv 0 rfl (fun l1164 => ?_)
  replace l1164 : (-9223372036854775808) ≤ x1160 ∧ x1160 ≤ 9223372036854775807 := l1164
  refine at_seq (s_sr (s_mv rfl (s_mv rfl ?_)))
  refine at_inv 1 rfl (fun l1165 => ?_)
  replace l1165 : a0.length ≤ 9223372036854775807 := l1165
  refine at_lt (lt_slen rfl und9) rfl (at_lt (lt_lss rfl rfl) rfl (s_nt ?_))
  by_cases h1166 : x1160 < (a0.length : Int)
  ·replace hr := ipos h1166 hr
   refine at_true rfl (decide_eq_true (by first | exact h1166 | omega)) ?_
   refine at_skip (at_then (at_block (s_sr (s_mv rfl (s_mv rfl ?_)))))
   replace hr := obind hr
   obtain ⟨x1167, h1168, hr⟩ := hr
   refine at_hv rfl (hv_call0 [1, 0] (f151_spec h1168) rfl rfl rfl rfl ?_)
   rintro _ _ ⟨rfl, rfl⟩
   refine at_inv 0 rfl (fun l1169 => ?_)
   replace l1169 : (-9223372036854775808) ≤ x1167.1 ∧ x1167.1 ≤ 9223372036854775807 := l1169
   refine at_inv 1 rfl (fun l1170 => ?_)
   replace l1170 : (-9223372036854775808) ≤ x1167.2 ∧ x1167.2 ≤ 9223372036854775807 := l1170
   refine s_mv rfl (at_lt (lt_extract rfl rfl) rfl (at_lt (lt_extract rfl rfl) rfl (s_as rfl (s_as rfl (s_nt (at_seq (s_sr (s_mv rfl (s_mv rfl ?_)))))))))
   refine at_lt (lt_eql rfl rfl) rfl (s_nt ?_)
   by_cases h1171 : x1167.1 = a1
   ·replace hr := ipos h1171 hr
    refine at_true rfl (decide_eq_true (by first | exact h1171 | omega)) ?_
    refine s_sr (s_as rfl (s_nt (at_ret ?_)))
    have hq := oinj hr
    clear hr
    subst hq
    have hq := oinj hk1163
    clear hk1163
    subst hq
    refine at_then_ret (at_in_ret (at_then_ret (at_in_ret (at_then_ret (at_then_ret ?_)))))
    exact at_return (.bool true) [] hS Tryz.results197 (.cons (.tmp rfl) .nil) rfl rfl ⟨rfl, rfl⟩
   replace hr := ineg h1171 hr
   refine at_false rfl (decide_eq_false (by first | exact h1171 | omega)) ?_
   refine at_skip (s_tr (s_mv rfl (s_mv rfl (at_lt (lt_addw rfl rfl) rfl (s_as rfl (at_nil (at_in (at_int .i64 (IntKind.i64.wrap (x1160 + x1167.2)) (wrap_bd .i64 _) ?_))))))))
   exact at_again (σ := Int) (V := Unit) (lp := fun n s => m197_l1 a0 a1 n s) (S := fun s e => (⟨[(0, str a0), (1, .int .i64 a1), (5, .int .i64 s)], [], [], [((Ty.int .i64).fact s [.int .i64 s]), (Ty.str.fact a0 [str a0]), ((Ty.int .i64).fact a1 [.int .i64 a1])]⟩ : St)) (IntKind.i64.wrap (x1160 + x1167.2)) () hr ⟨⟨rfl, ⟨rfl, ⟨rfl, trivial⟩⟩⟩, ⟨[], rfl⟩, ⟨[], rfl⟩, ⟨[0, 4, 5], rfl⟩⟩
  replace hr := ineg h1166 hr
  refine at_false rfl (decide_eq_false (by first | exact h1166 | omega)) ?_
  refine at_exit (at_then_exit (at_then_exit (at_in_exit ?_)))
  have hq := oinj hr
  clear hr
  subst hq
  exact at_leafP ((), ()) rfl ⟨trivial, ⟨[], rfl⟩, ⟨[], rfl⟩, ⟨[], rfl⟩⟩
 rintro ⟨_, _⟩ hp
 replace hr := hk1163
 subst hp
 clear hl1162
 change At _ _ (⟨[], [], [], []⟩ : St) _
 refine s_tsr (s_as rfl (s_nt (at_ret ?_)))
 have hq := oinj hr
 clear hr
 subst hq
 exact at_return (.bool false) [] hS Tryz.results197 (.cons (.tmp rfl) .nil) rfl rfl ⟨rfl, rfl⟩
def m177 (a0 : Int) : Option (Int × Int) :=
  (m196 a0 65281 65374).bind fun x1173 =>
  Option.bind (α := Int) (
   if x1173 = true then
    some (IntKind.i64.wrap (a0 - 65248))
   else
    some a0
  ) fun x1175 =>
  if x1175 = 32 then
   some (0, 4)
  else
   if x1175 = 160 then
    some (0, 4)
   else
    (m196 x1175 48 57).bind fun x1181 =>
    if x1181 = true then
     some (0, 3)
    else
     if x1175 = 178 then
      some (0, 3)
     else
      if x1175 = 179 then
       some (0, 3)
      else
       if x1175 = 185 then
        some (0, 3)
       else
        (m196 x1175 65 90).bind fun x1187 =>
        if x1187 = true then
         some (1, 1)
        else
         (m196 x1175 97 122).bind fun x1190 =>
         if x1190 = true then
          some (1, 1)
         else
          if x1175 = 383 then
           some (1, 1)
          else
           if x1175 = 64257 then
            some (1, 1)
           else
            if x1175 = 64258 then
             some (1, 1)
            else
             (m197 ([195, 128, 195, 136, 195, 140, 195, 146, 195, 153, 195, 160, 195, 168, 195, 172, 195, 178, 195, 185, 195, 129, 195, 137, 195, 141, 195, 147, 195, 154, 195, 157, 195, 161, 195, 169, 195, 173, 195, 179, 195, 186, 195, 189, 196, 134, 196, 135, 196, 185, 196, 186, 197, 131, 197, 132, 197, 148, 197, 149, 197, 154, 197, 155, 197, 185, 197, 186, 195, 130, 195, 138, 195, 142, 195, 148, 195, 155, 195, 162, 195, 170, 195, 174, 195, 180, 195, 187, 196, 136, 196, 137, 196, 156, 196, 157, 196, 164, 196, 165, 196, 180, 196, 181, 197, 156, 197, 157, 197, 180, 197, 181, 197, 182, 197, 183, 195, 131, 195, 145, 195, 149, 195, 163, 195, 177, 195, 181, 196, 168, 196, 169, 197, 168, 197, 169, 196, 128, 196, 129, 196, 146, 196, 147, 196, 170, 196, 171, 197, 140, 197, 141, 197, 170, 197, 171, 196, 130, 196, 131, 196, 148, 196, 149, 196, 158, 196, 159, 196, 172, 196, 173, 197, 142, 197, 143, 197, 172, 197, 173, 196, 138, 196, 139, 196, 150, 196, 151, 196, 160, 196, 161, 196, 176, 197, 187, 197, 188, 195, 132, 195, 139, 195, 143, 195, 150, 195, 156, 195, 164, 195, 171, 195, 175, 195, 182, 195, 188, 195, 191, 197, 184, 195, 133, 195, 165, 197, 174, 197, 175, 197, 144, 197, 145, 197, 176, 197, 177, 196, 140, 196, 141, 196, 142, 196, 143, 196, 154, 196, 155, 197, 135, 197, 136, 197, 152, 197, 153, 197, 160, 197, 161, 197, 164, 197, 165, 197, 189, 197, 190, 196, 189, 196, 190, 195, 135, 195, 167, 196, 162, 196, 163, 196, 182, 196, 183, 196, 187, 196, 188, 197, 133, 197, 134, 197, 150, 197, 151, 197, 158, 197, 159, 197, 162, 197, 163, 196, 132, 196, 133, 196, 152, 196, 153, 196, 174, 196, 175, 197, 178, 197, 179, 195, 134, 195, 166, 195, 152, 195, 184, 195, 144, 195, 176, 195, 158, 195, 190, 195, 159, 196, 144, 196, 145, 196, 166, 196, 167, 196, 177, 197, 129, 197, 130, 197, 146, 197, 147, 197, 138, 197, 139, 197, 166, 197, 167] : Str) x1175).bind fun x1196 =>
             if x1196 = true then
              some (1, 1)
             else
              (m196 x1175 768 772).bind fun x1199 =>
              if x1199 = true then
               some (0, 2)
              else
               (m196 x1175 774 776).bind fun x1202 =>
               if x1202 = true then
                some (0, 2)
               else
                (m196 x1175 778 780).bind fun x1205 =>
                if x1205 = true then
                 some (0, 2)
                else
                 if x1175 = 803 then
                  some (0, 2)
                 else
                  if x1175 = 807 then
                   some (0, 2)
                  else
                   if x1175 = 808 then
                    some (0, 2)
                   else
                    (m196 x1175 913 929).bind fun x1211 =>
                    if x1211 = true then
                     some (2, 1)
                    else
                     (m196 x1175 931 937).bind fun x1214 =>
                     if x1214 = true then
                      some (2, 1)
                     else
                      (m196 x1175 945 969).bind fun x1217 =>
                      if x1217 = true then
                       some (2, 1)
                      else
                       (m197 ([206, 134, 206, 136, 206, 137, 206, 138, 206, 140, 206, 142, 206, 143, 206, 172, 206, 173, 206, 174, 206, 175, 207, 140, 207, 141, 207, 142, 206, 170, 206, 171, 207, 138, 207, 139] : Str) x1175).bind fun x1220 =>
                       if x1220 = true then
                        some (2, 1)
                       else
                        (m196 x1175 1040 1103).bind fun x1223 =>
                        if x1223 = true then
                         some (3, 1)
                        else
                         (m197 ([208, 129, 209, 145, 208, 135, 209, 151, 208, 132, 209, 148, 210, 144, 210, 145, 208, 142, 209, 158, 208, 134, 209, 150] : Str) x1175).bind fun x1226 =>
                         if x1226 = true then
                          some (3, 1)
                         else
                          (m196 x1175 33 126).bind fun x1229 =>
                          if x1229 = true then
                           some (0, 5)
                          else
                           some (0, 0)
def post177 (r : (Int × Int)) (v : Value) (fs : List Fact) : Prop := v = .tuple #[.int .i64 r.1, .int .i64 r.2] ∧ fs = [((Ty.int .i64).fact r.1 [.int .i64 r.1]), ((Ty.int .i64).fact r.2 [.int .i64 r.2])]
theorem en177 : Enters Tryz.prog 177 := ⟨_, Tryz.func177, by kernel_rfl, rfl⟩
theorem f177_spec {a0 : Int} {r : (Int × Int)} (hr : m177 a0 = some r) : Spec Tryz.prog 177 [.int .i64 a0] [((Ty.int .i64).fact a0 [.int .i64 a0])] (post177 r) := by
 refine spec_start (N := 101) Tryz.func177 (by kernel_rfl) rfl rfl rfl ?_
 intro g hS
 unfold m177 at hr
 refine at_inv 0 rfl (fun l1172 => ?_)
 replace l1172 : (-9223372036854775808) ≤ a0 ∧ a0 ≤ 9223372036854775807 := l1172
 refine s_sr (s_as rfl (s_as rfl (s_nt (at_seq (s_sr (s_mv rfl ?_))))))
 replace hr := obind hr
 obtain ⟨x1173, h1174, hr⟩ := hr
 refine at_int .i64 65281 (by simp only [lo, hi]; omega) (at_int .i64 65374 (by simp only [lo, hi]; omega) (at_hv rfl (hv_call0 [2, 1, 0] (f196_spec h1174) rfl rfl rfl rfl ?_)))
 rintro _ _ ⟨rfl, rfl⟩
 refine s_nt ?_
 replace hr := obind hr
 obtain ⟨x1175, hc1176, hr⟩ := hr
 refine at_cut (V := Unit) (fun e => (⟨[(0, .int .i64 x1175)], [], [], [((Ty.int .i64).fact x1175 [.int .i64 x1175])]⟩ : St)) ?_ ?_
 ·clear hr
  have hr := hc1176
  clear hc1176
  by_cases h1177 : x1173 = true
  ·replace hr := ipos h1177 hr
   refine at_true rfl h1177 (at_region (s_mv rfl (at_lt (lt_subw rfl rfl) rfl (s_as rfl (at_nil ?_)))))
   have hq := oinj hr
   clear hr
   subst hq
   refine at_int .i64 (IntKind.i64.wrap (a0 - 65248)) (wrap_bd .i64 _) ?_
   exact at_leaf () ⟨⟨rfl, trivial⟩, ⟨[], rfl⟩, ⟨[], rfl⟩, ⟨[0], rfl⟩⟩
  replace hr := ineg h1177 hr
  refine at_false rfl (bf h1177) (at_skip ?_)
  have hq := oinj hr
  clear hr
  subst hq
  exact at_leaf () ⟨⟨rfl, trivial⟩, ⟨[], rfl⟩, ⟨[], rfl⟩, ⟨[2], rfl⟩⟩
 clear hc1176
 intro _
 change At _ _ (⟨[(0, .int .i64 x1175)], [], [], [((Ty.int .i64).fact x1175 [.int .i64 x1175])]⟩ : St) _
 refine at_inv 0 rfl (fun l1178 => ?_)
 replace l1178 : (-9223372036854775808) ≤ x1175 ∧ x1175 ≤ 9223372036854775807 := l1178
 refine at_then (at_seq (at_block (s_sr (s_mv rfl (at_lt (lt_eql rfl rfl) rfl (s_mv rfl ?_))))))
 by_cases h1179 : x1175 = 32
 ·replace hr := ipos h1179 hr
  refine at_off rfl rfl (decide_eq_true (by first | exact h1179 | omega)) rfl ?_
  refine at_off rfl rfl (decide_eq_true (by first | exact h1179 | omega)) rfl ?_
  refine at_lt (lt_pick true rfl (decide_eq_true (by first | exact h1179 | omega)) rfl) rfl ?_
  refine s_as rfl (s_nt (at_true rfl rfl (s_sr (s_as rfl (s_as rfl (s_nt (at_ret ?_)))))))
  have hq := oinj hr
  clear hr
  subst hq
  refine at_in_ret (at_then_ret (at_int .i64 0 (by simp only [lo, hi]; omega) (at_int .i64 4 (by simp only [lo, hi]; omega) ?_)))
  exact at_return (.tuple #[.int .i64 0, .int .i64 4]) [1, 0] hS Tryz.results177 (.cons (.tmp rfl) (.cons (.tmp rfl) .nil)) rfl rfl ⟨rfl, rfl⟩
 replace hr := ineg h1179 hr
 refine at_on rfl rfl (decide_eq_false (by first | exact h1179 | omega)) ?_
 refine s_mv rfl ?_
 refine at_on rfl rfl (decide_eq_false (by first | exact h1179 | omega)) ?_
 refine at_lt (lt_eql rfl rfl) rfl ?_
 refine at_lt (lt_pick false rfl (decide_eq_false (by first | exact h1179 | omega)) rfl) rfl ?_
 refine s_as rfl (s_nt ?_)
 by_cases h1180 : x1175 = 160
 ·replace hr := ipos h1180 hr
  refine at_true rfl (decide_eq_true (by first | exact h1180 | omega)) ?_
  refine s_sr (s_as rfl (s_as rfl (s_nt (at_ret ?_))))
  have hq := oinj hr
  clear hr
  subst hq
  refine at_in_ret (at_then_ret (at_int .i64 0 (by simp only [lo, hi]; omega) (at_int .i64 4 (by simp only [lo, hi]; omega) ?_)))
  exact at_return (.tuple #[.int .i64 0, .int .i64 4]) [1, 0] hS Tryz.results177 (.cons (.tmp rfl) (.cons (.tmp rfl) .nil)) rfl rfl ⟨rfl, rfl⟩
 replace hr := ineg h1180 hr
 refine at_false rfl (decide_eq_false (by first | exact h1180 | omega)) ?_
 refine s_sr (s_mv rfl ?_)
 replace hr := obind hr
 obtain ⟨x1181, h1182, hr⟩ := hr
 refine at_int .i64 48 (by simp only [lo, hi]; omega) (at_int .i64 57 (by simp only [lo, hi]; omega) (at_hv rfl (hv_call0 [2, 1, 0] (f196_spec h1182) rfl rfl rfl rfl ?_)))
 rintro _ _ ⟨rfl, rfl⟩
 refine s_mv rfl ?_
 by_cases h1183 : x1181 = true
 ·replace hr := ipos h1183 hr
  refine at_off rfl rfl h1183 rfl (at_off rfl rfl h1183 rfl (at_lt (lt_pick true rfl h1183 rfl) rfl (s_mv rfl (at_off rfl rfl rfl rfl (at_off rfl rfl rfl rfl (at_lt (lt_pick true rfl rfl rfl) rfl (s_mv rfl (at_off rfl rfl rfl rfl (at_off rfl rfl rfl rfl ?_)))))))))
  refine at_lt (lt_pick true rfl rfl rfl) rfl (s_as rfl (s_nt (at_true rfl rfl (s_sr (s_as rfl (s_as rfl (s_nt (at_ret ?_))))))))
  have hq := oinj hr
  clear hr
  subst hq
  refine at_in_ret (at_then_ret (at_int .i64 0 (by simp only [lo, hi]; omega) (at_int .i64 3 (by simp only [lo, hi]; omega) ?_)))
  exact at_return (.tuple #[.int .i64 0, .int .i64 3]) [1, 0] hS Tryz.results177 (.cons (.tmp rfl) (.cons (.tmp rfl) .nil)) rfl rfl ⟨rfl, rfl⟩
 replace hr := ineg h1183 hr
 refine at_on rfl rfl (bf h1183) (s_mv rfl (at_on rfl rfl (bf h1183) (at_lt (lt_eql rfl rfl) rfl (at_lt (lt_pick false rfl (bf h1183) rfl) rfl (s_mv rfl ?_)))))
 by_cases h1184 : x1175 = 178
 ·replace hr := ipos h1184 hr
  refine at_off rfl rfl (decide_eq_true (by first | exact h1184 | omega)) rfl ?_
  refine at_off rfl rfl (decide_eq_true (by first | exact h1184 | omega)) rfl ?_
  refine at_lt (lt_pick true rfl (decide_eq_true (by first | exact h1184 | omega)) rfl) rfl ?_
  refine s_mv rfl (at_off rfl rfl rfl rfl (at_off rfl rfl rfl rfl (at_lt (lt_pick true rfl rfl rfl) rfl (s_as rfl (s_nt (at_true rfl rfl (s_sr (s_as rfl (s_as rfl ?_)))))))))
  refine s_nt (at_ret ?_)
  have hq := oinj hr
  clear hr
  subst hq
  refine at_in_ret (at_then_ret (at_int .i64 0 (by simp only [lo, hi]; omega) (at_int .i64 3 (by simp only [lo, hi]; omega) ?_)))
  exact at_return (.tuple #[.int .i64 0, .int .i64 3]) [1, 0] hS Tryz.results177 (.cons (.tmp rfl) (.cons (.tmp rfl) .nil)) rfl rfl ⟨rfl, rfl⟩
 replace hr := ineg h1184 hr
 refine at_on rfl rfl (decide_eq_false (by first | exact h1184 | omega)) ?_
 refine s_mv rfl ?_
 refine at_on rfl rfl (decide_eq_false (by first | exact h1184 | omega)) ?_
 refine at_lt (lt_eql rfl rfl) rfl ?_
 refine at_lt (lt_pick false rfl (decide_eq_false (by first | exact h1184 | omega)) rfl) rfl ?_
 refine s_mv rfl ?_
 by_cases h1185 : x1175 = 179
 ·replace hr := ipos h1185 hr
  refine at_off rfl rfl (decide_eq_true (by first | exact h1185 | omega)) rfl ?_
  refine at_off rfl rfl (decide_eq_true (by first | exact h1185 | omega)) rfl ?_
  refine at_lt (lt_pick true rfl (decide_eq_true (by first | exact h1185 | omega)) rfl) rfl ?_
  refine s_as rfl (s_nt (at_true rfl rfl (s_sr (s_as rfl (s_as rfl (s_nt (at_ret ?_)))))))
  have hq := oinj hr
  clear hr
  subst hq
  refine at_in_ret (at_then_ret (at_int .i64 0 (by simp only [lo, hi]; omega) (at_int .i64 3 (by simp only [lo, hi]; omega) ?_)))
  exact at_return (.tuple #[.int .i64 0, .int .i64 3]) [1, 0] hS Tryz.results177 (.cons (.tmp rfl) (.cons (.tmp rfl) .nil)) rfl rfl ⟨rfl, rfl⟩
 replace hr := ineg h1185 hr
 refine at_on rfl rfl (decide_eq_false (by first | exact h1185 | omega)) ?_
 refine s_mv rfl ?_
 refine at_on rfl rfl (decide_eq_false (by first | exact h1185 | omega)) ?_
 refine at_lt (lt_eql rfl rfl) rfl ?_
 refine at_lt (lt_pick false rfl (decide_eq_false (by first | exact h1185 | omega)) rfl) rfl ?_
 refine s_as rfl (s_nt ?_)
 by_cases h1186 : x1175 = 185
 ·replace hr := ipos h1186 hr
  refine at_true rfl (decide_eq_true (by first | exact h1186 | omega)) ?_
  refine s_sr (s_as rfl (s_as rfl (s_nt (at_ret ?_))))
  have hq := oinj hr
  clear hr
  subst hq
  refine at_in_ret (at_then_ret (at_int .i64 0 (by simp only [lo, hi]; omega) (at_int .i64 3 (by simp only [lo, hi]; omega) ?_)))
  exact at_return (.tuple #[.int .i64 0, .int .i64 3]) [1, 0] hS Tryz.results177 (.cons (.tmp rfl) (.cons (.tmp rfl) .nil)) rfl rfl ⟨rfl, rfl⟩
 replace hr := ineg h1186 hr
 refine at_false rfl (decide_eq_false (by first | exact h1186 | omega)) ?_
 refine s_sr (s_mv rfl ?_)
 replace hr := obind hr
 obtain ⟨x1187, h1188, hr⟩ := hr
 refine at_int .i64 65 (by simp only [lo, hi]; omega) (at_int .i64 90 (by simp only [lo, hi]; omega) (at_hv rfl (hv_call0 [4, 1, 0] (f196_spec h1188) rfl rfl rfl rfl ?_)))
 rintro _ _ ⟨rfl, rfl⟩
 refine s_mv rfl ?_
 by_cases h1189 : x1187 = true
 ·replace hr := ipos h1189 hr
  refine at_off rfl rfl h1189 rfl (at_off rfl rfl h1189 rfl (at_lt (lt_pick true rfl h1189 rfl) rfl (s_mv rfl (at_off rfl rfl rfl rfl (at_off rfl rfl rfl rfl (at_lt (lt_pick true rfl rfl rfl) rfl (s_mv rfl (at_off rfl rfl rfl rfl (at_off rfl rfl rfl rfl ?_)))))))))
  refine at_lt (lt_pick true rfl rfl rfl) rfl (s_mv rfl (at_off rfl rfl rfl rfl (at_off rfl rfl rfl rfl (at_lt (lt_pick true rfl rfl rfl) rfl (s_mv rfl (at_off rfl rfl rfl rfl (at_off rfl rfl rfl rfl (at_lt (lt_pick true rfl rfl rfl) rfl (s_as rfl ?_)))))))))
  refine s_nt (at_true rfl rfl (s_sr (s_as rfl (s_as rfl (s_nt (at_ret ?_))))))
  have hq := oinj hr
  clear hr
  subst hq
  refine at_in_ret (at_then_ret (at_int .i64 1 (by simp only [lo, hi]; omega) ?_))
  exact at_return (.tuple #[.int .i64 1, .int .i64 1]) [0, 0] hS Tryz.results177 (.cons (.tmp rfl) (.cons (.tmp rfl) .nil)) rfl rfl ⟨rfl, rfl⟩
 replace hr := ineg h1189 hr
 refine at_on rfl rfl (bf h1189) (s_mv rfl ?_)
 replace hr := obind hr
 obtain ⟨x1190, h1191, hr⟩ := hr
 refine at_int .i64 97 (by simp only [lo, hi]; omega) (at_int .i64 122 (by simp only [lo, hi]; omega) (at_on rfl rfl (bf h1189) (at_hv rfl (hv_call0 [6, 1, 0] (f196_spec h1191) rfl rfl rfl rfl ?_))))
 rintro _ _ ⟨rfl, rfl⟩
 refine at_lt (lt_pick false rfl (bf h1189) rfl) rfl (s_mv rfl ?_)
 by_cases h1192 : x1190 = true
 ·replace hr := ipos h1192 hr
  refine at_off rfl rfl h1192 rfl (at_off rfl rfl h1192 rfl (at_lt (lt_pick true rfl h1192 rfl) rfl (s_mv rfl (at_off rfl rfl rfl rfl (at_off rfl rfl rfl rfl (at_lt (lt_pick true rfl rfl rfl) rfl (s_mv rfl (at_off rfl rfl rfl rfl (at_off rfl rfl rfl rfl ?_)))))))))
  refine at_lt (lt_pick true rfl rfl rfl) rfl (s_mv rfl (at_off rfl rfl rfl rfl (at_off rfl rfl rfl rfl (at_lt (lt_pick true rfl rfl rfl) rfl (s_as rfl (s_nt (at_true rfl rfl (s_sr (s_as rfl ?_)))))))))
  refine s_as rfl (s_nt (at_ret ?_))
  have hq := oinj hr
  clear hr
  subst hq
  refine at_in_ret (at_then_ret (at_int .i64 1 (by simp only [lo, hi]; omega) ?_))
  exact at_return (.tuple #[.int .i64 1, .int .i64 1]) [0, 0] hS Tryz.results177 (.cons (.tmp rfl) (.cons (.tmp rfl) .nil)) rfl rfl ⟨rfl, rfl⟩
 replace hr := ineg h1192 hr
 refine at_on rfl rfl (bf h1192) (s_mv rfl (at_on rfl rfl (bf h1192) (at_lt (lt_eql rfl rfl) rfl (at_lt (lt_pick false rfl (bf h1192) rfl) rfl (s_mv rfl ?_)))))
 by_cases h1193 : x1175 = 383
 ·replace hr := ipos h1193 hr
  refine at_off rfl rfl (decide_eq_true (by first | exact h1193 | omega)) rfl ?_
  refine at_off rfl rfl (decide_eq_true (by first | exact h1193 | omega)) rfl ?_
  refine at_lt (lt_pick true rfl (decide_eq_true (by first | exact h1193 | omega)) rfl) rfl ?_
  refine s_mv rfl (at_off rfl rfl rfl rfl (at_off rfl rfl rfl rfl (at_lt (lt_pick true rfl rfl rfl) rfl (s_mv rfl (at_off rfl rfl rfl rfl (at_off rfl rfl rfl rfl (at_lt (lt_pick true rfl rfl rfl) rfl (s_as rfl (s_nt ?_)))))))))
  refine at_true rfl rfl (s_sr (s_as rfl (s_as rfl (s_nt (at_ret ?_)))))
  have hq := oinj hr
  clear hr
  subst hq
  refine at_in_ret (at_then_ret (at_int .i64 1 (by simp only [lo, hi]; omega) ?_))
  exact at_return (.tuple #[.int .i64 1, .int .i64 1]) [0, 0] hS Tryz.results177 (.cons (.tmp rfl) (.cons (.tmp rfl) .nil)) rfl rfl ⟨rfl, rfl⟩
 replace hr := ineg h1193 hr
 refine at_on rfl rfl (decide_eq_false (by first | exact h1193 | omega)) ?_
 refine s_mv rfl ?_
 refine at_on rfl rfl (decide_eq_false (by first | exact h1193 | omega)) ?_
 refine at_lt (lt_eql rfl rfl) rfl ?_
 refine at_lt (lt_pick false rfl (decide_eq_false (by first | exact h1193 | omega)) rfl) rfl ?_
 refine s_mv rfl ?_
 by_cases h1194 : x1175 = 64257
 ·replace hr := ipos h1194 hr
  refine at_off rfl rfl (decide_eq_true (by first | exact h1194 | omega)) rfl ?_
  refine at_off rfl rfl (decide_eq_true (by first | exact h1194 | omega)) rfl ?_
  refine at_lt (lt_pick true rfl (decide_eq_true (by first | exact h1194 | omega)) rfl) rfl ?_
  refine s_mv rfl (at_off rfl rfl rfl rfl (at_off rfl rfl rfl rfl (at_lt (lt_pick true rfl rfl rfl) rfl (s_as rfl (s_nt (at_true rfl rfl (s_sr (s_as rfl (s_as rfl ?_)))))))))
  refine s_nt (at_ret ?_)
  have hq := oinj hr
  clear hr
  subst hq
  refine at_in_ret (at_then_ret (at_int .i64 1 (by simp only [lo, hi]; omega) ?_))
  exact at_return (.tuple #[.int .i64 1, .int .i64 1]) [0, 0] hS Tryz.results177 (.cons (.tmp rfl) (.cons (.tmp rfl) .nil)) rfl rfl ⟨rfl, rfl⟩
 replace hr := ineg h1194 hr
 refine at_on rfl rfl (decide_eq_false (by first | exact h1194 | omega)) ?_
 refine s_mv rfl ?_
 refine at_on rfl rfl (decide_eq_false (by first | exact h1194 | omega)) ?_
 refine at_lt (lt_eql rfl rfl) rfl ?_
 refine at_lt (lt_pick false rfl (decide_eq_false (by first | exact h1194 | omega)) rfl) rfl ?_
 refine s_mv rfl ?_
 by_cases h1195 : x1175 = 64258
 ·replace hr := ipos h1195 hr
  refine at_off rfl rfl (decide_eq_true (by first | exact h1195 | omega)) rfl ?_
  refine at_off rfl rfl (decide_eq_true (by first | exact h1195 | omega)) rfl ?_
  refine at_lt (lt_pick true rfl (decide_eq_true (by first | exact h1195 | omega)) rfl) rfl ?_
  refine s_as rfl (s_nt (at_true rfl rfl (s_sr (s_as rfl (s_as rfl (s_nt (at_ret ?_)))))))
  have hq := oinj hr
  clear hr
  subst hq
  refine at_in_ret (at_then_ret (at_int .i64 1 (by simp only [lo, hi]; omega) ?_))
  exact at_return (.tuple #[.int .i64 1, .int .i64 1]) [0, 0] hS Tryz.results177 (.cons (.tmp rfl) (.cons (.tmp rfl) .nil)) rfl rfl ⟨rfl, rfl⟩
 replace hr := ineg h1195 hr
 refine at_on rfl rfl (decide_eq_false (by first | exact h1195 | omega)) ?_
 refine s_mv rfl ?_
 replace hr := obind hr
 obtain ⟨x1196, h1197, hr⟩ := hr
 refine at_str ([195, 128, 195, 136, 195, 140, 195, 146, 195, 153, 195, 160, 195, 168, 195, 172, 195, 178, 195, 185, 195, 129, 195, 137, 195, 141, 195, 147, 195, 154, 195, 157, 195, 161, 195, 169, 195, 173, 195, 179, 195, 186, 195, 189, 196, 134, 196, 135, 196, 185, 196, 186, 197, 131, 197, 132, 197, 148, 197, 149, 197, 154, 197, 155, 197, 185, 197, 186, 195, 130, 195, 138, 195, 142, 195, 148, 195, 155, 195, 162, 195, 170, 195, 174, 195, 180, 195, 187, 196, 136, 196, 137, 196, 156, 196, 157, 196, 164, 196, 165, 196, 180, 196, 181, 197, 156, 197, 157, 197, 180, 197, 181, 197, 182, 197, 183, 195, 131, 195, 145, 195, 149, 195, 163, 195, 177, 195, 181, 196, 168, 196, 169, 197, 168, 197, 169, 196, 128, 196, 129, 196, 146, 196, 147, 196, 170, 196, 171, 197, 140, 197, 141, 197, 170, 197, 171, 196, 130, 196, 131, 196, 148, 196, 149, 196, 158, 196, 159, 196, 172, 196, 173, 197, 142, 197, 143, 197, 172, 197, 173, 196, 138, 196, 139, 196, 150, 196, 151, 196, 160, 196, 161, 196, 176, 197, 187, 197, 188, 195, 132, 195, 139, 195, 143, 195, 150, 195, 156, 195, 164, 195, 171, 195, 175, 195, 182, 195, 188, 195, 191, 197, 184, 195, 133, 195, 165, 197, 174, 197, 175, 197, 144, 197, 145, 197, 176, 197, 177, 196, 140, 196, 141, 196, 142, 196, 143, 196, 154, 196, 155, 197, 135, 197, 136, 197, 152, 197, 153, 197, 160, 197, 161, 197, 164, 197, 165, 197, 189, 197, 190, 196, 189, 196, 190, 195, 135, 195, 167, 196, 162, 196, 163, 196, 182, 196, 183, 196, 187, 196, 188, 197, 133, 197, 134, 197, 150, 197, 151, 197, 158, 197, 159, 197, 162, 197, 163, 196, 132, 196, 133, 196, 152, 196, 153, 196, 174, 196, 175, 197, 178, 197, 179, 195, 134, 195, 166, 195, 152, 195, 184, 195, 144, 195, 176, 195, 158, 195, 190, 195, 159, 196, 144, 196, 145, 196, 166, 196, 167, 196, 177, 197, 129, 197, 130, 197, 146, 197, 147, 197, 138, 197, 139, 197, 166, 197, 167] : Str) (by decide) ?_
 refine at_on rfl rfl (decide_eq_false (by first | exact h1195 | omega)) ?_
 refine at_hv rfl (hv_call0 [0, 7] (f197_spec h1197) rfl rfl rfl rfl ?_)
 rintro _ _ ⟨rfl, rfl⟩
 refine at_lt (lt_pick false rfl (decide_eq_false (by first | exact h1195 | omega)) rfl) rfl ?_
 refine s_as rfl (s_nt ?_)
 by_cases h1198 : x1196 = true
 ·replace hr := ipos h1198 hr
  refine at_true rfl h1198 (s_sr (s_as rfl (s_as rfl (s_nt (at_ret ?_)))))
  have hq := oinj hr
  clear hr
  subst hq
  refine at_in_ret (at_then_ret (at_int .i64 1 (by simp only [lo, hi]; omega) ?_))
  exact at_return (.tuple #[.int .i64 1, .int .i64 1]) [0, 0] hS Tryz.results177 (.cons (.tmp rfl) (.cons (.tmp rfl) .nil)) rfl rfl ⟨rfl, rfl⟩
 replace hr := ineg h1198 hr
 refine at_false rfl (bf h1198) (s_sr (s_mv rfl ?_))
 replace hr := obind hr
 obtain ⟨x1199, h1200, hr⟩ := hr
 refine at_int .i64 768 (by simp only [lo, hi]; omega) (at_int .i64 772 (by simp only [lo, hi]; omega) (at_hv rfl (hv_call0 [9, 1, 0] (f196_spec h1200) rfl rfl rfl rfl ?_)))
 rintro _ _ ⟨rfl, rfl⟩
 refine s_mv rfl ?_
 by_cases h1201 : x1199 = true
 ·replace hr := ipos h1201 hr
  refine at_off rfl rfl h1201 rfl (at_off rfl rfl h1201 rfl (at_lt (lt_pick true rfl h1201 rfl) rfl (s_mv rfl (at_off rfl rfl rfl rfl (at_off rfl rfl rfl rfl (at_lt (lt_pick true rfl rfl rfl) rfl (s_mv rfl (at_off rfl rfl rfl rfl (at_off rfl rfl rfl rfl ?_)))))))))
  refine at_lt (lt_pick true rfl rfl rfl) rfl (s_mv rfl (at_off rfl rfl rfl rfl (at_off rfl rfl rfl rfl (at_lt (lt_pick true rfl rfl rfl) rfl (s_mv rfl (at_off rfl rfl rfl rfl (at_off rfl rfl rfl rfl (at_lt (lt_pick true rfl rfl rfl) rfl (s_as rfl ?_)))))))))
  refine s_nt (at_true rfl rfl (s_sr (s_as rfl (s_as rfl (s_nt (at_ret ?_))))))
  have hq := oinj hr
  clear hr
  subst hq
  refine at_in_ret (at_then_ret (at_int .i64 0 (by simp only [lo, hi]; omega) (at_int .i64 2 (by simp only [lo, hi]; omega) ?_)))
  exact at_return (.tuple #[.int .i64 0, .int .i64 2]) [1, 0] hS Tryz.results177 (.cons (.tmp rfl) (.cons (.tmp rfl) .nil)) rfl rfl ⟨rfl, rfl⟩
 replace hr := ineg h1201 hr
 refine at_on rfl rfl (bf h1201) (s_mv rfl ?_)
 replace hr := obind hr
 obtain ⟨x1202, h1203, hr⟩ := hr
 refine at_int .i64 774 (by simp only [lo, hi]; omega) (at_int .i64 776 (by simp only [lo, hi]; omega) (at_on rfl rfl (bf h1201) (at_hv rfl (hv_call0 [11, 1, 0] (f196_spec h1203) rfl rfl rfl rfl ?_))))
 rintro _ _ ⟨rfl, rfl⟩
 refine at_lt (lt_pick false rfl (bf h1201) rfl) rfl (s_mv rfl ?_)
 by_cases h1204 : x1202 = true
 ·replace hr := ipos h1204 hr
  refine at_off rfl rfl h1204 rfl (at_off rfl rfl h1204 rfl (at_lt (lt_pick true rfl h1204 rfl) rfl (s_mv rfl (at_off rfl rfl rfl rfl (at_off rfl rfl rfl rfl (at_lt (lt_pick true rfl rfl rfl) rfl (s_mv rfl (at_off rfl rfl rfl rfl (at_off rfl rfl rfl rfl ?_)))))))))
  refine at_lt (lt_pick true rfl rfl rfl) rfl (s_mv rfl (at_off rfl rfl rfl rfl (at_off rfl rfl rfl rfl (at_lt (lt_pick true rfl rfl rfl) rfl (s_as rfl (s_nt (at_true rfl rfl (s_sr (s_as rfl ?_)))))))))
  refine s_as rfl (s_nt (at_ret ?_))
  have hq := oinj hr
  clear hr
  subst hq
  refine at_in_ret (at_then_ret (at_int .i64 0 (by simp only [lo, hi]; omega) (at_int .i64 2 (by simp only [lo, hi]; omega) ?_)))
  exact at_return (.tuple #[.int .i64 0, .int .i64 2]) [1, 0] hS Tryz.results177 (.cons (.tmp rfl) (.cons (.tmp rfl) .nil)) rfl rfl ⟨rfl, rfl⟩
 replace hr := ineg h1204 hr
 refine at_on rfl rfl (bf h1204) (s_mv rfl ?_)
 replace hr := obind hr
 obtain ⟨x1205, h1206, hr⟩ := hr
 refine at_int .i64 778 (by simp only [lo, hi]; omega) (at_int .i64 780 (by simp only [lo, hi]; omega) (at_on rfl rfl (bf h1204) (at_hv rfl (hv_call0 [13, 1, 0] (f196_spec h1206) rfl rfl rfl rfl ?_))))
 rintro _ _ ⟨rfl, rfl⟩
 refine at_lt (lt_pick false rfl (bf h1204) rfl) rfl (s_mv rfl ?_)
 by_cases h1207 : x1205 = true
 ·replace hr := ipos h1207 hr
  refine at_off rfl rfl h1207 rfl (at_off rfl rfl h1207 rfl (at_lt (lt_pick true rfl h1207 rfl) rfl (s_mv rfl (at_off rfl rfl rfl rfl (at_off rfl rfl rfl rfl (at_lt (lt_pick true rfl rfl rfl) rfl (s_mv rfl (at_off rfl rfl rfl rfl (at_off rfl rfl rfl rfl ?_)))))))))
  refine at_lt (lt_pick true rfl rfl rfl) rfl (s_as rfl (s_nt (at_true rfl rfl (s_sr (s_as rfl (s_as rfl (s_nt (at_ret ?_))))))))
  have hq := oinj hr
  clear hr
  subst hq
  refine at_in_ret (at_then_ret (at_int .i64 0 (by simp only [lo, hi]; omega) (at_int .i64 2 (by simp only [lo, hi]; omega) ?_)))
  exact at_return (.tuple #[.int .i64 0, .int .i64 2]) [1, 0] hS Tryz.results177 (.cons (.tmp rfl) (.cons (.tmp rfl) .nil)) rfl rfl ⟨rfl, rfl⟩
 replace hr := ineg h1207 hr
 refine at_on rfl rfl (bf h1207) (s_mv rfl (at_on rfl rfl (bf h1207) (at_lt (lt_eql rfl rfl) rfl (at_lt (lt_pick false rfl (bf h1207) rfl) rfl (s_mv rfl ?_)))))
 by_cases h1208 : x1175 = 803
 ·replace hr := ipos h1208 hr
  refine at_off rfl rfl (decide_eq_true (by first | exact h1208 | omega)) rfl ?_
  refine at_off rfl rfl (decide_eq_true (by first | exact h1208 | omega)) rfl ?_
  refine at_lt (lt_pick true rfl (decide_eq_true (by first | exact h1208 | omega)) rfl) rfl ?_
  refine s_mv rfl (at_off rfl rfl rfl rfl (at_off rfl rfl rfl rfl (at_lt (lt_pick true rfl rfl rfl) rfl (s_as rfl (s_nt (at_true rfl rfl (s_sr (s_as rfl (s_as rfl ?_)))))))))
  refine s_nt (at_ret ?_)
  have hq := oinj hr
  clear hr
  subst hq
  refine at_in_ret (at_then_ret (at_int .i64 0 (by simp only [lo, hi]; omega) (at_int .i64 2 (by simp only [lo, hi]; omega) ?_)))
  exact at_return (.tuple #[.int .i64 0, .int .i64 2]) [1, 0] hS Tryz.results177 (.cons (.tmp rfl) (.cons (.tmp rfl) .nil)) rfl rfl ⟨rfl, rfl⟩
 replace hr := ineg h1208 hr
 refine at_on rfl rfl (decide_eq_false (by first | exact h1208 | omega)) ?_
 refine s_mv rfl ?_
 refine at_on rfl rfl (decide_eq_false (by first | exact h1208 | omega)) ?_
 refine at_lt (lt_eql rfl rfl) rfl ?_
 refine at_lt (lt_pick false rfl (decide_eq_false (by first | exact h1208 | omega)) rfl) rfl ?_
 refine s_mv rfl ?_
 by_cases h1209 : x1175 = 807
 ·replace hr := ipos h1209 hr
  refine at_off rfl rfl (decide_eq_true (by first | exact h1209 | omega)) rfl ?_
  refine at_off rfl rfl (decide_eq_true (by first | exact h1209 | omega)) rfl ?_
  refine at_lt (lt_pick true rfl (decide_eq_true (by first | exact h1209 | omega)) rfl) rfl ?_
  refine s_as rfl (s_nt (at_true rfl rfl (s_sr (s_as rfl (s_as rfl (s_nt (at_ret ?_)))))))
  have hq := oinj hr
  clear hr
  subst hq
  refine at_in_ret (at_then_ret (at_int .i64 0 (by simp only [lo, hi]; omega) (at_int .i64 2 (by simp only [lo, hi]; omega) ?_)))
  exact at_return (.tuple #[.int .i64 0, .int .i64 2]) [1, 0] hS Tryz.results177 (.cons (.tmp rfl) (.cons (.tmp rfl) .nil)) rfl rfl ⟨rfl, rfl⟩
 replace hr := ineg h1209 hr
 refine at_on rfl rfl (decide_eq_false (by first | exact h1209 | omega)) ?_
 refine s_mv rfl ?_
 refine at_on rfl rfl (decide_eq_false (by first | exact h1209 | omega)) ?_
 refine at_lt (lt_eql rfl rfl) rfl ?_
 refine at_lt (lt_pick false rfl (decide_eq_false (by first | exact h1209 | omega)) rfl) rfl ?_
 refine s_as rfl (s_nt ?_)
 by_cases h1210 : x1175 = 808
 ·replace hr := ipos h1210 hr
  refine at_true rfl (decide_eq_true (by first | exact h1210 | omega)) ?_
  refine s_sr (s_as rfl (s_as rfl (s_nt (at_ret ?_))))
  have hq := oinj hr
  clear hr
  subst hq
  refine at_in_ret (at_then_ret (at_int .i64 0 (by simp only [lo, hi]; omega) (at_int .i64 2 (by simp only [lo, hi]; omega) ?_)))
  exact at_return (.tuple #[.int .i64 0, .int .i64 2]) [1, 0] hS Tryz.results177 (.cons (.tmp rfl) (.cons (.tmp rfl) .nil)) rfl rfl ⟨rfl, rfl⟩
 replace hr := ineg h1210 hr
 refine at_false rfl (decide_eq_false (by first | exact h1210 | omega)) ?_
 refine s_sr (s_mv rfl ?_)
 replace hr := obind hr
 obtain ⟨x1211, h1212, hr⟩ := hr
 refine at_int .i64 913 (by simp only [lo, hi]; omega) (at_int .i64 929 (by simp only [lo, hi]; omega) (at_hv rfl (hv_call0 [15, 1, 0] (f196_spec h1212) rfl rfl rfl rfl ?_)))
 rintro _ _ ⟨rfl, rfl⟩
 refine s_mv rfl ?_
 by_cases h1213 : x1211 = true
 ·replace hr := ipos h1213 hr
  refine at_off rfl rfl h1213 rfl (at_off rfl rfl h1213 rfl (at_lt (lt_pick true rfl h1213 rfl) rfl (s_mv rfl (at_off rfl rfl rfl rfl (at_off rfl rfl rfl rfl (at_lt (lt_pick true rfl rfl rfl) rfl (s_mv rfl (at_off rfl rfl rfl rfl (at_off rfl rfl rfl rfl ?_)))))))))
  refine at_lt (lt_pick true rfl rfl rfl) rfl (s_as rfl (s_nt (at_true rfl rfl (s_sr (s_as rfl (s_as rfl (s_nt (at_ret ?_))))))))
  have hq := oinj hr
  clear hr
  subst hq
  refine at_in_ret (at_then_ret (at_int .i64 2 (by simp only [lo, hi]; omega) (at_int .i64 1 (by simp only [lo, hi]; omega) ?_)))
  exact at_return (.tuple #[.int .i64 2, .int .i64 1]) [1, 0] hS Tryz.results177 (.cons (.tmp rfl) (.cons (.tmp rfl) .nil)) rfl rfl ⟨rfl, rfl⟩
 replace hr := ineg h1213 hr
 refine at_on rfl rfl (bf h1213) (s_mv rfl ?_)
 replace hr := obind hr
 obtain ⟨x1214, h1215, hr⟩ := hr
 refine at_int .i64 931 (by simp only [lo, hi]; omega) (at_int .i64 937 (by simp only [lo, hi]; omega) (at_on rfl rfl (bf h1213) (at_hv rfl (hv_call0 [17, 1, 0] (f196_spec h1215) rfl rfl rfl rfl ?_))))
 rintro _ _ ⟨rfl, rfl⟩
 refine at_lt (lt_pick false rfl (bf h1213) rfl) rfl (s_mv rfl ?_)
 by_cases h1216 : x1214 = true
 ·replace hr := ipos h1216 hr
  refine at_off rfl rfl h1216 rfl (at_off rfl rfl h1216 rfl (at_lt (lt_pick true rfl h1216 rfl) rfl (s_mv rfl (at_off rfl rfl rfl rfl (at_off rfl rfl rfl rfl (at_lt (lt_pick true rfl rfl rfl) rfl (s_as rfl (s_nt (at_true rfl rfl ?_)))))))))
  refine s_sr (s_as rfl (s_as rfl (s_nt (at_ret ?_))))
  have hq := oinj hr
  clear hr
  subst hq
  refine at_in_ret (at_then_ret (at_int .i64 2 (by simp only [lo, hi]; omega) (at_int .i64 1 (by simp only [lo, hi]; omega) ?_)))
  exact at_return (.tuple #[.int .i64 2, .int .i64 1]) [1, 0] hS Tryz.results177 (.cons (.tmp rfl) (.cons (.tmp rfl) .nil)) rfl rfl ⟨rfl, rfl⟩
 replace hr := ineg h1216 hr
 refine at_on rfl rfl (bf h1216) (s_mv rfl ?_)
 replace hr := obind hr
 obtain ⟨x1217, h1218, hr⟩ := hr
 refine at_int .i64 945 (by simp only [lo, hi]; omega) (at_int .i64 969 (by simp only [lo, hi]; omega) (at_on rfl rfl (bf h1216) (at_hv rfl (hv_call0 [19, 1, 0] (f196_spec h1218) rfl rfl rfl rfl ?_))))
 rintro _ _ ⟨rfl, rfl⟩
 refine at_lt (lt_pick false rfl (bf h1216) rfl) rfl (s_mv rfl ?_)
 by_cases h1219 : x1217 = true
 ·replace hr := ipos h1219 hr
  refine at_off rfl rfl h1219 rfl (at_off rfl rfl h1219 rfl (at_lt (lt_pick true rfl h1219 rfl) rfl (s_as rfl (s_nt (at_true rfl rfl (s_sr (s_as rfl (s_as rfl (s_nt ?_)))))))))
  refine at_ret ?_
  have hq := oinj hr
  clear hr
  subst hq
  refine at_in_ret (at_then_ret (at_int .i64 2 (by simp only [lo, hi]; omega) (at_int .i64 1 (by simp only [lo, hi]; omega) ?_)))
  exact at_return (.tuple #[.int .i64 2, .int .i64 1]) [1, 0] hS Tryz.results177 (.cons (.tmp rfl) (.cons (.tmp rfl) .nil)) rfl rfl ⟨rfl, rfl⟩
 replace hr := ineg h1219 hr
 refine at_on rfl rfl (bf h1219) (s_mv rfl ?_)
 replace hr := obind hr
 obtain ⟨x1220, h1221, hr⟩ := hr
 refine at_str ([206, 134, 206, 136, 206, 137, 206, 138, 206, 140, 206, 142, 206, 143, 206, 172, 206, 173, 206, 174, 206, 175, 207, 140, 207, 141, 207, 142, 206, 170, 206, 171, 207, 138, 207, 139] : Str) (by decide) ?_
 refine at_on rfl rfl (bf h1219) (at_hv rfl (hv_call0 [0, 20] (f197_spec h1221) rfl rfl rfl rfl ?_))
 rintro _ _ ⟨rfl, rfl⟩
 refine at_lt (lt_pick false rfl (bf h1219) rfl) rfl (s_as rfl (s_nt ?_))
 by_cases h1222 : x1220 = true
 ·replace hr := ipos h1222 hr
  refine at_true rfl h1222 (s_sr (s_as rfl (s_as rfl (s_nt (at_ret ?_)))))
  have hq := oinj hr
  clear hr
  subst hq
  refine at_in_ret (at_then_ret (at_int .i64 2 (by simp only [lo, hi]; omega) (at_int .i64 1 (by simp only [lo, hi]; omega) ?_)))
  exact at_return (.tuple #[.int .i64 2, .int .i64 1]) [1, 0] hS Tryz.results177 (.cons (.tmp rfl) (.cons (.tmp rfl) .nil)) rfl rfl ⟨rfl, rfl⟩
 replace hr := ineg h1222 hr
 refine at_false rfl (bf h1222) (s_sr (s_mv rfl ?_))
 replace hr := obind hr
 obtain ⟨x1223, h1224, hr⟩ := hr
 refine at_int .i64 1040 (by simp only [lo, hi]; omega) (at_int .i64 1103 (by simp only [lo, hi]; omega) (at_hv rfl (hv_call0 [22, 1, 0] (f196_spec h1224) rfl rfl rfl rfl ?_)))
 rintro _ _ ⟨rfl, rfl⟩
 refine s_mv rfl ?_
 by_cases h1225 : x1223 = true
 ·replace hr := ipos h1225 hr
  refine at_off rfl rfl h1225 rfl (at_off rfl rfl h1225 rfl (at_lt (lt_pick true rfl h1225 rfl) rfl (s_as rfl (s_nt (at_true rfl rfl (s_sr (s_as rfl (s_as rfl (s_nt ?_)))))))))
  refine at_ret ?_
  have hq := oinj hr
  clear hr
  subst hq
  refine at_in_ret (at_then_ret (at_int .i64 3 (by simp only [lo, hi]; omega) (at_int .i64 1 (by simp only [lo, hi]; omega) ?_)))
  exact at_return (.tuple #[.int .i64 3, .int .i64 1]) [1, 0] hS Tryz.results177 (.cons (.tmp rfl) (.cons (.tmp rfl) .nil)) rfl rfl ⟨rfl, rfl⟩
 replace hr := ineg h1225 hr
 refine at_on rfl rfl (bf h1225) (s_mv rfl ?_)
 replace hr := obind hr
 obtain ⟨x1226, h1227, hr⟩ := hr
 refine at_str ([208, 129, 209, 145, 208, 135, 209, 151, 208, 132, 209, 148, 210, 144, 210, 145, 208, 142, 209, 158, 208, 134, 209, 150] : Str) (by decide) ?_
 refine at_on rfl rfl (bf h1225) (at_hv rfl (hv_call0 [0, 23] (f197_spec h1227) rfl rfl rfl rfl ?_))
 rintro _ _ ⟨rfl, rfl⟩
 refine at_lt (lt_pick false rfl (bf h1225) rfl) rfl (s_as rfl (s_nt ?_))
 by_cases h1228 : x1226 = true
 ·replace hr := ipos h1228 hr
  refine at_true rfl h1228 (s_sr (s_as rfl (s_as rfl (s_nt (at_ret ?_)))))
  have hq := oinj hr
  clear hr
  subst hq
  refine at_in_ret (at_then_ret (at_int .i64 3 (by simp only [lo, hi]; omega) (at_int .i64 1 (by simp only [lo, hi]; omega) ?_)))
  exact at_return (.tuple #[.int .i64 3, .int .i64 1]) [1, 0] hS Tryz.results177 (.cons (.tmp rfl) (.cons (.tmp rfl) .nil)) rfl rfl ⟨rfl, rfl⟩
 replace hr := ineg h1228 hr
 refine at_false rfl (bf h1228) (s_sr (s_mv rfl ?_))
 replace hr := obind hr
 obtain ⟨x1229, h1230, hr⟩ := hr
 refine at_int .i64 33 (by simp only [lo, hi]; omega) (at_int .i64 126 (by simp only [lo, hi]; omega) (at_hv rfl (hv_call0 [25, 1, 0] (f196_spec h1230) rfl rfl rfl rfl ?_)))
 rintro _ _ ⟨rfl, rfl⟩
 refine s_as rfl (s_nt ?_)
 by_cases h1231 : x1229 = true
 ·replace hr := ipos h1231 hr
  refine at_true rfl h1231 (s_sr (s_as rfl (s_as rfl (s_nt (at_ret ?_)))))
  have hq := oinj hr
  clear hr
  subst hq
  refine at_in_ret (at_then_ret (at_int .i64 0 (by simp only [lo, hi]; omega) (at_int .i64 5 (by simp only [lo, hi]; omega) ?_)))
  exact at_return (.tuple #[.int .i64 0, .int .i64 5]) [1, 0] hS Tryz.results177 (.cons (.tmp rfl) (.cons (.tmp rfl) .nil)) rfl rfl ⟨rfl, rfl⟩
 replace hr := ineg h1231 hr
 refine at_false rfl (bf h1231) (at_skip (at_in (s_tsr (s_as rfl (s_as rfl (s_nt (at_ret ?_)))))))
 have hq := oinj hr
 clear hr
 subst hq
 refine at_int .i64 0 (by simp only [lo, hi]; omega) ?_
 exact at_return (.tuple #[.int .i64 0, .int .i64 0]) [0, 0] hS Tryz.results177 (.cons (.tmp rfl) (.cons (.tmp rfl) .nil)) rfl rfl ⟨rfl, rfl⟩
def m152 (a0 : Int) : Option Bool :=
  (m177 a0).bind fun x1233 =>
  some (!decide (x1233.2 = 0))
def post152 (r : Bool) (v : Value) (fs : List Fact) : Prop := v = .bool r ∧ fs = []
theorem en152 : Enters Tryz.prog 152 := ⟨_, Tryz.func152, by kernel_rfl, rfl⟩
theorem f152_spec {a0 : Int} {r : Bool} (hr : m152 a0 = some r) : Spec Tryz.prog 152 [.int .i64 a0] [((Ty.int .i64).fact a0 [.int .i64 a0])] (post152 r) := by
 refine spec_start (N := 12) Tryz.func152 (by kernel_rfl) rfl rfl rfl ?_
 intro g hS
 unfold m152 at hr
 refine at_inv 0 rfl (fun l1232 => ?_)
 replace l1232 : (-9223372036854775808) ≤ a0 ∧ a0 ≤ 9223372036854775807 := l1232
 refine s_sr (s_as rfl (s_ntsr (s_mv rfl ?_)))
 replace hr := obind hr
 obtain ⟨x1233, h1234, hr⟩ := hr
 refine at_hv rfl (hv_call0 [0] (f177_spec h1234) rfl rfl rfl rfl ?_)
 rintro _ _ ⟨rfl, rfl⟩
 refine at_inv 0 rfl (fun l1235 => ?_)
 replace l1235 : (-9223372036854775808) ≤ x1233.1 ∧ x1233.1 ≤ 9223372036854775807 := l1235
 refine at_inv 1 rfl (fun l1236 => ?_)
 replace l1236 : (-9223372036854775808) ≤ x1233.2 ∧ x1233.2 ≤ 9223372036854775807 := l1236
 refine s_mv rfl (at_lt (lt_extract rfl rfl) rfl (at_lt (lt_extract rfl rfl) rfl (s_as rfl (s_as rfl (s_ntsr (s_mv rfl (at_lt (lt_neq rfl rfl) rfl (s_as rfl (s_nt ?_)))))))))
 refine at_ret ?_
 have hq := oinj hr
 clear hr
 subst hq
 exact at_return (.bool (!decide (x1233.2 = 0))) [] hS Tryz.results152 (.cons (.tmp rfl) .nil) rfl rfl ⟨rfl, rfl⟩
def m127_l1 (a0 : Str) : Nat → (List Int) → Int → Option (Fl ((List Int) × Bool) (List Int))
  | 0, _, _ => none
  | k + 1, x1237, x1238 =>
    if x1238 < (a0.length : Int) then
     (m151 a0 x1238).bind fun x1252 =>
     if x1252.2 = 0 then
      some (Fl.ret (([] : (List Int)), false))
     else
      (m152 x1252.1).bind fun x1257 =>
      if x1257 = true then
       if x1237.length + 1 ≤ 17592186044416 then
        m127_l1 a0 k (x1237 ++ [x1252.1]) (IntKind.i64.wrap (x1238 + x1252.2))
       else none
      else
       some (Fl.ret (([] : (List Int)), false))
    else
     some (Fl.go x1237)
def m127 (a0 : Str) : Option ((List Int) × Bool) :=
  (m127_l1 a0 (a0.length + 1) ([] : (List Int)) 0).bind fun r => match r with
  | .ret x => some x
  | .go x1242 =>
   some (x1242, true)
def post127 (r : ((List Int) × Bool)) (v : Value) (fs : List Fact) : Prop := ∃ s1265 : Value, v = .tuple #[s1265, .bool r.2] ∧ fs = [((Ty.slice (Ty.int .i64)).fact r.1 [s1265])]
theorem en127 : Enters Tryz.prog 127 := ⟨_, Tryz.func127, by kernel_rfl, rfl⟩
theorem f127_spec {a0 : Str} {r : ((List Int) × Bool)} (hr : m127 a0 = some r) : Spec Tryz.prog 127 [str a0] [(Ty.str.fact a0 [str a0])] (post127 r) := by
 refine spec_start (N := 33) Tryz.func127 (by kernel_rfl) rfl rfl rfl ?_
 intro g hS
 unfold m127 at hr
 refine s_sr (s_as rfl (s_as rfl (s_ntsr (s_as rfl (s_nt (at_seq (s_sr (s_as rfl (s_nt ?_)))))))))
 refine at_rownew none 3 1 (at_rownil (Ty.int .i64) ?_)
 refine at_mkpure (q := (([] : (List Int)).length * (Ty.int .i64).bytes ≤ 140737488355328)) (by simp only [List.nil_append, List.cons_append, List.length_cons, List.length_nil, Ty.int_bytes, Ty.u8_bytes, Ty.str_bytes, Ty.slice_bytes, Ty.bool_bytes, nb] <;> omega) ?_
 refine at_int .i64 0 (by simp only [lo, hi]; omega) ?_
 replace hr := obind hr
 obtain ⟨r1246, hl1247, hk1248⟩ := hr
 refine at_cutP (V := ((List Int)) × (Value × Nat × (List Value))) (fun v => r1246 = Fl.go v.1) (fun v => (⟨[(4, v.2.1)], [], [⟨v.2.1, 3, 1, v.2.2.1, v.2.2.2⟩], [((Ty.int .i64).row v.1 v.2.2.2), (pureF (v.1.length * (Ty.int .i64).bytes ≤ 140737488355328))]⟩ : St)) ?_ ?_
 ·refine at_block ?_
  refine at_loopW (σ := ((List Int) × Int)) (V := Value × Nat × (List Value)) (r := r1246) (fun n s => m127_l1 a0 n s.1 s.2) (fun s e => (⟨[(0, str a0), (4, e.1), (5, .int .i64 s.2)], [], [⟨e.1, 3, 1, e.2.1, e.2.2⟩], [((Ty.int .i64).row s.1 e.2.2), (pureF (s.1.length * (Ty.int .i64).bytes ≤ 140737488355328)), ((Ty.int .i64).fact s.2 [.int .i64 s.2]), (Ty.str.fact a0 [str a0])]⟩ : St)) (fun _ => rfl) _ (([] : (List Int)), 0) ((.slice none 0 0), 0, []) hl1247 ⟨⟨rfl, ⟨rfl, ⟨rfl, trivial⟩⟩⟩, ⟨[], rfl⟩, ⟨[true], rfl⟩, ⟨[2, 1, 0, 3], rfl⟩⟩ ?_
  clear hl1247
  intro n s hr e
  obtain ⟨x1237, x1238⟩ := s
  obtain ⟨v1239, n1240, i1241⟩ := e
  change m127_l1 a0 (n + 1) x1237 x1238 = some r1246 at hr
  change At _ _ (⟨[(0, str a0), (4, v1239), (5, .int .i64 x1238)], [], [⟨v1239, 3, 1, n1240, i1241⟩], [((Ty.int .i64).row x1237 i1241), (pureF (x1237.length * (Ty.int .i64).bytes ≤ 140737488355328)), ((Ty.int .i64).fact x1238 [.int .i64 x1238]), (Ty.str.fact a0 [str a0])]⟩ : St) _
  rw [m127_l1] at hr
  refine at_inv 2 rfl (fun l1249 => ?_)
  replace l1249 : (-9223372036854775808) ≤ x1238 ∧ x1238 ≤ 9223372036854775807 := l1249
  refine at_seq (s_sr (s_mv rfl (s_mv rfl ?_)))
  refine at_inv 3 rfl (fun l1250 => ?_)
  replace l1250 : a0.length ≤ 9223372036854775807 := l1250
  refine at_lt (lt_slen rfl und9) rfl (at_lt (lt_lss rfl rfl) rfl (s_nt ?_))
  by_cases h1251 : x1238 < (a0.length : Int)
  ·replace hr := ipos h1251 hr
   refine at_true rfl (decide_eq_true (by first | exact h1251 | omega)) ?_
   refine at_skip (at_then (at_block (s_sr (s_mv rfl (s_mv rfl ?_)))))
   replace hr := obind hr
   obtain ⟨x1252, h1253, hr⟩ := hr
   refine at_hv rfl (hv_call0 [3, 2] (f151_spec h1253) rfl rfl rfl rfl ?_)
   rintro _ _ ⟨rfl, rfl⟩
   refine at_inv 0 rfl (fun l1254 => ?_)
   replace l1254 : (-9223372036854775808) ≤ x1252.1 ∧ x1252.1 ≤ 9223372036854775807 := l1254
   refine at_inv 1 rfl (fun l1255 => ?_)
   replace l1255 : (-9223372036854775808) ≤ x1252.2 ∧ x1252.2 ≤ 9223372036854775807 := l1255
   refine s_mv rfl (at_lt (lt_extract rfl rfl) rfl (at_lt (lt_extract rfl rfl) rfl (s_as rfl (s_as rfl (s_nt (at_seq (s_sr (s_mv rfl (at_lt (lt_eql rfl rfl) rfl ?_)))))))))
   refine s_mv rfl ?_
   by_cases h1256 : x1252.2 = 0
   ·replace hr := ipos h1256 hr
    refine at_off rfl rfl (decide_eq_true (by first | exact h1256 | omega)) rfl ?_
    refine at_off rfl rfl (decide_eq_true (by first | exact h1256 | omega)) rfl ?_
    refine at_off rfl rfl (decide_eq_true (by first | exact h1256 | omega)) rfl ?_
    refine at_lt (lt_pick true rfl (decide_eq_true (by first | exact h1256 | omega)) rfl) rfl ?_
    refine s_nt (at_true rfl rfl (s_sr (s_as rfl (s_as rfl (s_nt (at_ret ?_))))))
    have hq := oinj hr
    clear hr
    subst hq
    have hq := oinj hk1248
    clear hk1248
    subst hq
    refine at_then_ret (at_in_ret (at_then_ret (at_in_ret (at_then_ret (at_then_ret (at_fnil (Ty.int .i64) none ?_))))))
    exact at_return (.tuple #[(.slice none 0 0), .bool false]) [0] hS Tryz.results127 (.cons (.tmp rfl) (.cons (.tmp rfl) .nil)) rfl rfl ⟨((.slice none 0 0)), rfl, rfl⟩
   replace hr := ineg h1256 hr
   refine at_on rfl rfl (decide_eq_false (by first | exact h1256 | omega)) ?_
   refine s_mv rfl ?_
   replace hr := obind hr
   obtain ⟨x1257, h1258, hr⟩ := hr
   refine at_on rfl rfl (decide_eq_false (by first | exact h1256 | omega)) ?_
   refine at_hv rfl (hv_call0 [0] (f152_spec h1258) rfl rfl rfl rfl ?_)
   rintro _ _ ⟨rfl, rfl⟩
   refine at_on rfl rfl (decide_eq_false (by first | exact h1256 | omega)) ?_
   refine at_lt (lt_not rfl) rfl ?_
   refine at_lt (lt_pick false rfl (decide_eq_false (by first | exact h1256 | omega)) rfl) rfl ?_
   refine s_nt ?_
   by_cases h1259 : x1257 = true
   ·replace hr := ipos h1259 hr
    refine at_false rfl (nt h1259) (at_skip (s_tsr (s_mv rfl (s_mv rfl (at_hv rfl ?_)))))
    refine hv_bslice (cs := [.int .i64 x1252.1]) rfl und140 ti3 rfl rfl rfl rfl rfl (fun s1260 => ?_)
    replace hr := imust hr
    obtain ⟨h1261, hr⟩ := hr
    refine at_rown 1 2 rfl rfl rfl (fun hn1263 => ?_)
    refine at_hv rfl ?_
    refine hv_append 1 0 rfl rfl rfl rfl und140 ti3 rfl rfl rfl (by omega) (by omega) rfl (fun s1262 => ?_)
    refine at_rowsnoc 2 0 rfl rfl (s_as rfl (at_nil (s_tr (s_mv rfl (s_mv rfl (at_lt (lt_addw rfl rfl) rfl (s_as rfl (at_nil (at_in ?_)))))))))
    refine at_mkpure (q := ((x1237 ++ [x1252.1]).length * (Ty.int .i64).bytes ≤ 140737488355328)) (by simp only [List.length_append, List.length_cons, List.length_nil, Ty.int_bytes, Ty.u8_bytes, Ty.str_bytes, Ty.slice_bytes, Ty.bool_bytes, nb] <;> omega) ?_
    refine at_int .i64 (IntKind.i64.wrap (x1238 + x1252.2)) (wrap_bd .i64 _) ?_
    exact at_again (σ := ((List Int) × Int)) (V := Value × Nat × (List Value)) (lp := fun n s => m127_l1 a0 n s.1 s.2) (S := fun s e => (⟨[(0, str a0), (4, e.1), (5, .int .i64 s.2)], [], [⟨e.1, 3, 1, e.2.1, e.2.2⟩], [((Ty.int .i64).row s.1 e.2.2), (pureF (s.1.length * (Ty.int .i64).bytes ≤ 140737488355328)), ((Ty.int .i64).fact s.2 [.int .i64 s.2]), (Ty.str.fact a0 [str a0])]⟩ : St)) (x1237 ++ [x1252.1], IntKind.i64.wrap (x1238 + x1252.2)) (s1262, n1240 + 1, i1241 ++ [.int .i64 x1252.1]) hr ⟨⟨rfl, ⟨rfl, ⟨rfl, trivial⟩⟩⟩, ⟨[], rfl⟩, ⟨[false, true], rfl⟩, ⟨[2, 1, 0, 8], rfl⟩⟩
   replace hr := ineg h1259 hr
   refine at_true rfl (nf (bf h1259)) (s_sr (s_as rfl (s_as rfl (s_nt (at_ret ?_)))))
   have hq := oinj hr
   clear hr
   subst hq
   have hq := oinj hk1248
   clear hk1248
   subst hq
   refine at_then_ret (at_in_ret (at_then_ret (at_in_ret (at_then_ret (at_then_ret (at_fnil (Ty.int .i64) none ?_))))))
   exact at_return (.tuple #[(.slice none 0 0), .bool false]) [0] hS Tryz.results127 (.cons (.tmp rfl) (.cons (.tmp rfl) .nil)) rfl rfl ⟨((.slice none 0 0)), rfl, rfl⟩
  replace hr := ineg h1251 hr
  refine at_false rfl (decide_eq_false (by first | exact h1251 | omega)) ?_
  refine at_exit (at_then_exit (at_then_exit (at_in_exit ?_)))
  have hq := oinj hr
  clear hr
  subst hq
  exact at_leafP (x1237, (v1239, n1240, i1241)) rfl ⟨⟨rfl, trivial⟩, ⟨[], rfl⟩, ⟨[true], rfl⟩, ⟨[0, 1], rfl⟩⟩
 rintro ⟨x1242, ⟨v1243, n1244, i1245⟩⟩ hp
 replace hr := hk1248
 subst hp
 clear hl1247
 change At _ _ (⟨[(4, v1243)], [], [⟨v1243, 3, 1, n1244, i1245⟩], [((Ty.int .i64).row x1242 i1245), (pureF (x1242.length * (Ty.int .i64).bytes ≤ 140737488355328))]⟩ : St) _
 refine s_tsr (s_mv rfl (s_as rfl (s_as rfl (s_nt (at_ret ?_)))))
 have hq := oinj hr
 clear hr
 subst hq
 refine at_pure 1 rfl (fun hb1264 => ?_)
 refine at_release 0 0 rfl rfl rfl hb1264 ?_
 exact at_return (.tuple #[v1243, .bool true]) [0] hS Tryz.results127 (.cons (.tmp rfl) (.cons (.tmp rfl) .nil)) rfl rfl ⟨v1243, rfl, rfl⟩
def m80 (a0 : Str) : Option Bool :=
  if a0.length < 1 then
   some false
  else
   if 400 < a0.length then
    some false
   else
    (a0[0]?).bind fun c1269 =>
    if c1269.toNat = 32 then
     some false
    else
     (at? a0 ((a0.length : Int) - 1)).bind fun c1272 =>
     if c1272.toNat = 32 then
      some false
     else
      (m127 a0).bind fun x1275 =>
      some x1275.2
def post80 (r : Bool) (v : Value) (fs : List Fact) : Prop := v = .bool r ∧ fs = []
theorem en80 : Enters Tryz.prog 80 := ⟨_, Tryz.func80, by kernel_rfl, rfl⟩
theorem f80_spec {a0 : Str} {r : Bool} (hr : m80 a0 = some r) : Spec Tryz.prog 80 [str a0] [(Ty.str.fact a0 [str a0])] (post80 r) := by
 refine spec_start (N := 32) Tryz.func80 (by kernel_rfl) rfl rfl rfl ?_
 intro g hS
 unfold m80 at hr
 refine s_sr (s_as rfl (s_nt (at_seq (s_sr (s_mv rfl ?_)))))
 refine at_inv 0 rfl (fun l1266 => ?_)
 replace l1266 : a0.length ≤ 9223372036854775807 := l1266
 refine at_lt (lt_slen rfl und9) rfl (at_lt (lt_lss rfl rfl) rfl (s_mv rfl ?_))
 by_cases h1267 : a0.length < 1
 ·replace hr := ipos h1267 hr
  refine at_off rfl rfl (decide_eq_true (by omega)) rfl ?_
  refine at_off rfl rfl (decide_eq_true (by omega)) rfl ?_
  refine at_off rfl rfl (decide_eq_true (by omega)) rfl ?_
  refine at_lt (lt_pick true rfl (decide_eq_true (by omega)) rfl) rfl ?_
  refine s_mv rfl (at_off rfl rfl rfl rfl (at_off rfl rfl rfl rfl (at_off rfl rfl rfl rfl (at_lt (lt_pick true rfl rfl rfl) rfl (s_mv rfl (at_off rfl rfl rfl rfl (at_off rfl rfl rfl rfl (at_off rfl rfl rfl rfl (at_off rfl rfl rfl rfl ?_)))))))))
  refine at_off rfl rfl rfl rfl (at_off rfl rfl rfl rfl (at_lt (lt_pick true rfl rfl rfl) rfl (s_nt (at_true rfl rfl (s_sr (s_as rfl (s_nt (at_ret ?_))))))))
  have hq := oinj hr
  clear hr
  subst hq
  refine at_then_ret ?_
  exact at_return (.bool false) [] hS Tryz.results80 (.cons (.tmp rfl) .nil) rfl rfl ⟨rfl, rfl⟩
 replace hr := ineg h1267 hr
 refine at_on rfl rfl (decide_eq_false (by omega)) ?_
 refine s_mv rfl ?_
 refine at_on rfl rfl (decide_eq_false (by omega)) ?_
 refine at_lt (lt_slen rfl und9) rfl ?_
 refine at_on rfl rfl (decide_eq_false (by omega)) ?_
 refine at_lt (lt_gtr rfl rfl) rfl ?_
 refine at_lt (lt_pick false rfl (decide_eq_false (by omega)) rfl) rfl ?_
 refine s_mv rfl ?_
 by_cases h1268 : 400 < a0.length
 ·replace hr := ipos h1268 hr
  refine at_off rfl rfl (decide_eq_true (by omega)) rfl ?_
  refine at_off rfl rfl (decide_eq_true (by omega)) rfl ?_
  refine at_off rfl rfl (decide_eq_true (by omega)) rfl ?_
  refine at_lt (lt_pick true rfl (decide_eq_true (by omega)) rfl) rfl ?_
  refine s_mv rfl (at_off rfl rfl rfl rfl (at_off rfl rfl rfl rfl (at_off rfl rfl rfl rfl (at_off rfl rfl rfl rfl (at_off rfl rfl rfl rfl (at_off rfl rfl rfl rfl (at_lt (lt_pick true rfl rfl rfl) rfl (s_nt (at_true rfl rfl ?_)))))))))
  refine s_sr (s_as rfl (s_nt (at_ret ?_)))
  have hq := oinj hr
  clear hr
  subst hq
  refine at_then_ret ?_
  exact at_return (.bool false) [] hS Tryz.results80 (.cons (.tmp rfl) .nil) rfl rfl ⟨rfl, rfl⟩
 replace hr := ineg h1268 hr
 refine at_on rfl rfl (decide_eq_false (by omega)) ?_
 refine s_mv rfl ?_
 replace hr := obind hr
 obtain ⟨c1269, h1270, hr⟩ := hr
 have := (List.getElem?_eq_some_iff.1 h1270).1
 have := c1269.toNat_lt
 refine at_on rfl rfl (decide_eq_false (by omega)) ?_
 refine at_lt (lt_sidx rfl rfl und9 (by omega) h1270) rfl ?_
 refine at_on rfl rfl (decide_eq_false (by omega)) ?_
 refine at_lt (lt_eql rfl rfl) rfl ?_
 refine at_lt (lt_pick false rfl (decide_eq_false (by omega)) rfl) rfl ?_
 refine s_mv rfl ?_
 by_cases h1271 : c1269.toNat = 32
 ·replace hr := ipos h1271 hr
  refine at_off rfl rfl (decide_eq_true (by omega)) rfl ?_
  refine at_off rfl rfl (decide_eq_true (by omega)) rfl ?_
  refine at_off rfl rfl (decide_eq_true (by omega)) rfl ?_
  refine at_off rfl rfl (decide_eq_true (by omega)) rfl ?_
  refine at_off rfl rfl (decide_eq_true (by omega)) rfl ?_
  refine at_off rfl rfl (decide_eq_true (by omega)) rfl ?_
  refine at_lt (lt_pick true rfl (decide_eq_true (by omega)) rfl) rfl ?_
  refine s_nt (at_true rfl rfl (s_sr (s_as rfl (s_nt (at_ret ?_)))))
  have hq := oinj hr
  clear hr
  subst hq
  refine at_then_ret ?_
  exact at_return (.bool false) [] hS Tryz.results80 (.cons (.tmp rfl) .nil) rfl rfl ⟨rfl, rfl⟩
 replace hr := ineg h1271 hr
 refine at_on rfl rfl (decide_eq_false (by omega)) ?_
 refine s_mv rfl ?_
 refine at_on rfl rfl (decide_eq_false (by omega)) ?_
 refine s_mv rfl ?_
 refine at_on rfl rfl (decide_eq_false (by omega)) ?_
 refine at_lt (lt_slen rfl und9) rfl ?_
 refine at_on rfl rfl (decide_eq_false (by omega)) ?_
 refine at_lt (lt_sub rfl rfl (by simp only [lo, hi]; omega)) rfl ?_
 replace hr := obind hr
 obtain ⟨c1272, h1273, hr⟩ := hr
 have := at?_lt h1273
 have := c1272.toNat_lt
 refine at_on rfl rfl (decide_eq_false (by omega)) ?_
 refine at_lt (lt_sidx rfl rfl und9 (at?_lt h1273).1 (at?_get h1273)) rfl ?_
 refine at_on rfl rfl (decide_eq_false (by omega)) ?_
 refine at_lt (lt_eql rfl rfl) rfl ?_
 refine at_lt (lt_pick false rfl (decide_eq_false (by omega)) rfl) rfl ?_
 refine s_nt ?_
 by_cases h1274 : c1272.toNat = 32
 ·replace hr := ipos h1274 hr
  refine at_true rfl (decide_eq_true (by omega)) ?_
  refine s_sr (s_as rfl (s_nt (at_ret ?_)))
  have hq := oinj hr
  clear hr
  subst hq
  refine at_then_ret ?_
  exact at_return (.bool false) [] hS Tryz.results80 (.cons (.tmp rfl) .nil) rfl rfl ⟨rfl, rfl⟩
 replace hr := ineg h1274 hr
 refine at_false rfl (decide_eq_false (by omega)) ?_
 refine at_skip (s_tsr (s_mv rfl ?_))
 replace hr := obind hr
 obtain ⟨x1275, h1276, hr⟩ := hr
 refine at_hv rfl (hv_call0 [0] (f127_spec h1276) rfl rfl rfl rfl ?_)
 rintro _ _ ⟨s1277, rfl, rfl⟩
 refine s_mv rfl (at_lt (lt_extract rfl rfl) rfl (at_lt (lt_extract rfl rfl) rfl (s_as rfl (s_as rfl (s_ntsr (s_mv rfl (s_as rfl (s_nt (at_ret ?_)))))))))
 have hq := oinj hr
 clear hr
 subst hq
 exact at_return (.bool x1275.2) [] hS Tryz.results80 (.cons (.tmp rfl) .nil) rfl rfl ⟨rfl, rfl⟩
def m36_l1 (a0 : D_api_Field) : Nat → Nat → Option (Fl Bool Unit)
  | 0, _ => none
  | k + 1, x1287 =>
    if x1287 < 2 then
     Option.bind (α := Bool) (
      if x1287 = 0 then
       if a0.Ind_0.toNat = 32 then
        some false
       else
        (m79 a0.Ind_0).bind fun x1296 =>
        some (!x1296)
      else
       if x1287 = 1 then
        if a0.Ind_1.toNat = 32 then
         some false
        else
         (m79 a0.Ind_1).bind fun x1300 =>
         some (!x1300)
       else
        none
     ) fun x1292 =>
     if x1292 = true then
      some (Fl.ret false)
     else
      if x1287 + 1 ≤ 9223372036854775807 then
       m36_l1 a0 k (x1287 + 1)
      else none
    else
     some (Fl.go ())
def m36_l2 (a0 : D_api_Field) : Nat → Nat → Option (Fl Bool Unit)
  | 0, _ => none
  | k + 1, x1304 =>
    if x1304 < a0.Subs.length then
     (a0.Subs[x1304]?).bind fun x1309 =>
     (m79 x1309.Code).bind fun x1313 =>
     if x1313 = true then
      (a0.Subs[x1304]?).bind fun x1316 =>
      (m80 x1316.Value).bind fun x1320 =>
      if x1320 = true then
       m36_l2 a0 k (x1304 + 1)
      else
       some (Fl.ret false)
     else
      some (Fl.ret false)
    else
     some (Fl.go ())
def m36 (a0 : D_api_Field) : Option Bool :=
  (m39 a0.Tag).bind fun x1280 =>
  if x1280 = true then
   if a0.Subs.length < 1 then
    some false
   else
    if 20 < a0.Subs.length then
     some false
    else
     (m36_l1 a0 (2 + 1) 0).bind fun r => match r with
     | .ret x => some x
     | .go _ =>
      (m36_l2 a0 (a0.Subs.length + 1) 0).bind fun r => match r with
      | .ret x => some x
      | .go _ =>
       some true
  else
   some false
def post36 (r : Bool) (v : Value) (fs : List Fact) : Prop := v = .bool r ∧ fs = []
theorem en36 : Enters Tryz.prog 36 := ⟨_, Tryz.func36, by kernel_rfl, rfl⟩
theorem f36_spec {a0 : D_api_Field} {s1278 : Value} {r : Bool} (hr : m36 a0 = some r) : Spec Tryz.prog 36 [.agg #[str a0.Tag, .int .u8 (a0.Ind_0.toNat : Int), .int .u8 (a0.Ind_1.toNat : Int), s1278]] [(ty59.fact a0 [str a0.Tag, .int .u8 (a0.Ind_0.toNat : Int), .int .u8 (a0.Ind_1.toNat : Int), s1278])] (post36 r) := by
 refine spec_start (N := 63) Tryz.func36 (by kernel_rfl) rfl rfl rfl ?_
 intro g hS
 unfold m36 at hr
 refine at_open (A := Unit) 0 rfl (fun _ => True) (fun _ => [(Ty.str.fact a0.Tag [str a0.Tag]), ((Ty.slice ty67).fact a0.Subs [s1278])]) (fun F w h => ⟨(), trivial, ex59 h⟩) (fun _ _ => ?_)
 refine s_sr (at_hv rfl ?_)
 refine hv_box (cs := [str a0.Tag, .int .u8 (a0.Ind_0.toNat : Int), .int .u8 (a0.Ind_1.toNat : Int), s1278]) rfl rfl rfl (fun b1279 => ?_)
 refine s_as rfl (s_nt (at_seq (s_sr (at_lt (lt_fieldAddr 0 rfl fld59_0 rfl) rfl (at_lt (lt_load_box 0 rfl ti9 rfl rfl rfl rfl rfl) rfl ?_)))))
 replace hr := obind hr
 obtain ⟨x1280, h1281, hr⟩ := hr
 refine at_hv rfl (hv_call0 [0] (f39_spec h1281) rfl rfl rfl rfl ?_)
 rintro _ _ ⟨rfl, rfl⟩
 refine at_lt (lt_not rfl) rfl (s_mv rfl ?_)
 by_cases h1282 : x1280 = true
 ·replace hr := ipos h1282 hr
  refine at_on rfl rfl (nt h1282) (at_lt (lt_fieldAddr 3 rfl fld59_2 rfl) rfl (at_on rfl rfl (nt h1282) (at_lt (lt_load_box 0 rfl ti57 rfl rfl rfl rfl rfl) rfl ?_)))
  refine at_inv 1 rfl (fun i1283 => ?_)
  have l1284 := slice_len i1283
  refine at_on rfl rfl (nt h1282) (at_lt (lt_flen 1 rfl rfl und57) rfl (at_on rfl rfl (nt h1282) (at_lt (lt_lss rfl rfl) rfl (at_lt (lt_pick false rfl (nt h1282) rfl) rfl (s_mv rfl ?_)))))
  by_cases h1285 : a0.Subs.length < 1
  ·replace hr := ipos h1285 hr
   refine at_off rfl rfl (decide_eq_true (by omega)) rfl ?_
   refine at_off rfl rfl (decide_eq_true (by omega)) rfl ?_
   refine at_off rfl rfl (decide_eq_true (by omega)) rfl ?_
   refine at_off rfl rfl (decide_eq_true (by omega)) rfl ?_
   refine at_lt (lt_pick true rfl (decide_eq_true (by omega)) rfl) rfl ?_
   refine s_nt (at_true rfl rfl (s_sr (s_as rfl (s_nt (at_ret ?_)))))
   have hq := oinj hr
   clear hr
   subst hq
   refine at_then_ret ?_
   exact at_return (.bool false) [] hS Tryz.results36 (.cons (.tmp rfl) .nil) rfl rfl ⟨rfl, rfl⟩
  replace hr := ineg h1285 hr
  refine at_on rfl rfl (decide_eq_false (by omega)) ?_
  refine at_lt (lt_fieldAddr 3 rfl fld59_2 rfl) rfl ?_
  refine at_on rfl rfl (decide_eq_false (by omega)) ?_
  refine at_lt (lt_load_box 0 rfl ti57 rfl rfl rfl rfl rfl) rfl ?_
  refine at_on rfl rfl (decide_eq_false (by omega)) ?_
  refine at_lt (lt_flen 1 rfl rfl und57) rfl ?_
  refine at_on rfl rfl (decide_eq_false (by omega)) ?_
  refine at_lt (lt_gtr rfl rfl) rfl ?_
  refine at_lt (lt_pick false rfl (decide_eq_false (by omega)) rfl) rfl ?_
  refine s_nt ?_
  by_cases h1286 : 20 < a0.Subs.length
  ·replace hr := ipos h1286 hr
   refine at_true rfl (decide_eq_true (by omega)) ?_
   refine s_sr (s_as rfl (s_nt (at_ret ?_)))
   have hq := oinj hr
   clear hr
   subst hq
   refine at_then_ret ?_
   exact at_return (.bool false) [] hS Tryz.results36 (.cons (.tmp rfl) .nil) rfl rfl ⟨rfl, rfl⟩
  replace hr := ineg h1286 hr
  refine at_false rfl (decide_eq_false (by omega)) ?_
  refine at_skip (at_then (at_seq (s_sr (s_as rfl (s_nt (at_int .i64 0 (by simp only [lo, hi]; omega) ?_))))))
  replace hr := obind hr
  obtain ⟨r1288, hl1289, hk1290⟩ := hr
  refine at_cutP (V := (Unit) × (Unit)) (fun v => r1288 = Fl.go v.1) (fun v => (⟨[(1, .pointer (some (Addr.add ⟨b1279, 0, none⟩ 0)))], [⟨b1279, [str a0.Tag, .int .u8 (a0.Ind_0.toNat : Int), .int .u8 (a0.Ind_1.toNat : Int), s1278], 59⟩], [], [(Ty.str.fact a0.Tag [str a0.Tag]), ((Ty.slice ty67).fact a0.Subs [s1278])]⟩ : St)) ?_ ?_
  ·refine at_block ?_
   refine at_loopW (σ := Nat) (V := Unit) (r := r1288) (fun n s => m36_l1 a0 n s) (fun s e => (⟨[(1, .pointer (some (Addr.add ⟨b1279, 0, none⟩ 0))), (3, .int .i64 (s : Int))], [⟨b1279, [str a0.Tag, .int .u8 (a0.Ind_0.toNat : Int), .int .u8 (a0.Ind_1.toNat : Int), s1278], 59⟩], [], [((Ty.int .i64).fact (s : Int) [.int .i64 (s : Int)]), (Ty.str.fact a0.Tag [str a0.Tag]), ((Ty.slice ty67).fact a0.Subs [s1278])]⟩ : St)) (fun _ => rfl) _ 0 () hl1289 ⟨⟨rfl, ⟨rfl, trivial⟩⟩, ⟨[true], rfl⟩, ⟨[], rfl⟩, ⟨[0, 1, 2], rfl⟩⟩ ?_
   clear hl1289
   intro n x1287 hr e
   skip
   skip
   change m36_l1 a0 (n + 1) x1287 = some r1288 at hr
   change At _ _ (⟨[(1, .pointer (some (Addr.add ⟨b1279, 0, none⟩ 0))), (3, .int .i64 (x1287 : Int))], [⟨b1279, [str a0.Tag, .int .u8 (a0.Ind_0.toNat : Int), .int .u8 (a0.Ind_1.toNat : Int), s1278], 59⟩], [], [((Ty.int .i64).fact (x1287 : Int) [.int .i64 (x1287 : Int)]), (Ty.str.fact a0.Tag [str a0.Tag]), ((Ty.slice ty67).fact a0.Subs [s1278])]⟩ : St) _
   rw [m36_l1] at hr
   refine at_seq (s_sr (s_mv rfl (at_lt (lt_lss rfl rfl) rfl (s_nt ?_))))
   by_cases h1291 : x1287 < 2
   ·replace hr := ipos h1291 hr
    refine at_true rfl (decide_eq_true (by omega)) ?_
    refine at_skip (at_then (at_seq (at_block (at_seq ?_))))
    replace hr := obind hr
    obtain ⟨x1292, hc1293, hr⟩ := hr
    refine at_cut (V := Unit) (fun e => (⟨[(1, .pointer (some (Addr.add ⟨b1279, 0, none⟩ 0))), (3, .int .i64 (x1287 : Int)), (37, .bool x1292)], [⟨b1279, [str a0.Tag, .int .u8 (a0.Ind_0.toNat : Int), .int .u8 (a0.Ind_1.toNat : Int), s1278], 59⟩], [], [((Ty.int .i64).fact (x1287 : Int) [.int .i64 (x1287 : Int)]), (Ty.str.fact a0.Tag [str a0.Tag]), ((Ty.slice ty67).fact a0.Subs [s1278])]⟩ : St)) ?_ ?_
    ·clear hr
     have hr := hc1293
     clear hc1293
     refine at_region (s_mv rfl (at_lt (lt_fieldAddr 1 rfl fld59_1 rfl) rfl ?_))
     by_cases h1294 : x1287 = 0
     ·replace hr := ipos h1294 hr
      refine at_lt (lt_aidx 0 rfl rfl (by omega) rfl und56 ti5 rfl) rfl ?_
      refine at_lt (lt_load_box 0 rfl ti5 rfl rfl rfl rfl rfl) rfl (at_lt (lt_neq rfl rfl) rfl (s_mv rfl ?_))
      by_cases h1295 : a0.Ind_0.toNat = 32
      ·replace hr := ipos h1295 hr
       refine at_off rfl rfl (nt (decide_eq_true (by omega))) rfl ?_
       refine at_off rfl rfl (nt (decide_eq_true (by omega))) rfl ?_
       refine at_off rfl rfl (nt (decide_eq_true (by omega))) rfl ?_
       refine at_off rfl rfl (nt (decide_eq_true (by omega))) rfl ?_
       refine at_off rfl rfl (nt (decide_eq_true (by omega))) rfl ?_
       refine at_off rfl rfl (nt (decide_eq_true (by omega))) rfl ?_
       refine at_lt (lt_pick false rfl (nt (decide_eq_true (by omega))) rfl) rfl ?_
       refine at_nil ?_
       have hq := oinj hr
       clear hr
       subst hq
       exact at_leaf () ⟨⟨rfl, ⟨rfl, ⟨rfl, trivial⟩⟩⟩, ⟨[true], rfl⟩, ⟨[], rfl⟩, ⟨[0, 1, 2], rfl⟩⟩
      replace hr := ineg h1295 hr
      refine at_on rfl rfl (nf (decide_eq_false (by omega))) ?_
      refine s_mv rfl ?_
      refine at_on rfl rfl (nf (decide_eq_false (by omega))) ?_
      refine at_lt (lt_fieldAddr 1 rfl fld59_1 rfl) rfl ?_
      refine at_on rfl rfl (nf (decide_eq_false (by omega))) ?_
      refine at_lt (lt_aidx 0 rfl rfl (by omega) rfl und56 ti5 rfl) rfl ?_
      refine at_on rfl rfl (nf (decide_eq_false (by omega))) ?_
      refine at_lt (lt_load_box 0 rfl ti5 rfl rfl rfl rfl rfl) rfl ?_
      replace hr := obind hr
      obtain ⟨x1296, h1297, hr⟩ := hr
      refine at_on rfl rfl (nf (decide_eq_false (by omega))) ?_
      refine at_hv rfl (hv_call0 [] (f79_spec h1297) rfl rfl rfl rfl ?_)
      rintro _ _ ⟨rfl, rfl⟩
      refine at_on rfl rfl (nf (decide_eq_false (by omega))) ?_
      refine at_lt (lt_not rfl) rfl ?_
      refine at_lt (lt_pick true rfl (nf (decide_eq_false (by omega))) rfl) rfl ?_
      refine at_nil ?_
      have hq := oinj hr
      clear hr
      subst hq
      exact at_leaf () ⟨⟨rfl, ⟨rfl, ⟨rfl, trivial⟩⟩⟩, ⟨[true], rfl⟩, ⟨[], rfl⟩, ⟨[0, 1, 2], rfl⟩⟩
     replace hr := ineg h1294 hr
     by_cases h1298 : x1287 = 1
     ·replace hr := ipos h1298 hr
      refine at_lt (lt_aidx 1 rfl rfl (by omega) rfl und56 ti5 rfl) rfl ?_
      refine at_lt (lt_load_box 0 rfl ti5 rfl rfl rfl rfl rfl) rfl (at_lt (lt_neq rfl rfl) rfl (s_mv rfl ?_))
      by_cases h1299 : a0.Ind_1.toNat = 32
      ·replace hr := ipos h1299 hr
       refine at_off rfl rfl (nt (decide_eq_true (by omega))) rfl ?_
       refine at_off rfl rfl (nt (decide_eq_true (by omega))) rfl ?_
       refine at_off rfl rfl (nt (decide_eq_true (by omega))) rfl ?_
       refine at_off rfl rfl (nt (decide_eq_true (by omega))) rfl ?_
       refine at_off rfl rfl (nt (decide_eq_true (by omega))) rfl ?_
       refine at_off rfl rfl (nt (decide_eq_true (by omega))) rfl ?_
       refine at_lt (lt_pick false rfl (nt (decide_eq_true (by omega))) rfl) rfl ?_
       refine at_nil ?_
       have hq := oinj hr
       clear hr
       subst hq
       exact at_leaf () ⟨⟨rfl, ⟨rfl, ⟨rfl, trivial⟩⟩⟩, ⟨[true], rfl⟩, ⟨[], rfl⟩, ⟨[0, 1, 2], rfl⟩⟩
      replace hr := ineg h1299 hr
      refine at_on rfl rfl (nf (decide_eq_false (by omega))) ?_
      refine s_mv rfl ?_
      refine at_on rfl rfl (nf (decide_eq_false (by omega))) ?_
      refine at_lt (lt_fieldAddr 1 rfl fld59_1 rfl) rfl ?_
      refine at_on rfl rfl (nf (decide_eq_false (by omega))) ?_
      refine at_lt (lt_aidx 1 rfl rfl (by omega) rfl und56 ti5 rfl) rfl ?_
      refine at_on rfl rfl (nf (decide_eq_false (by omega))) ?_
      refine at_lt (lt_load_box 0 rfl ti5 rfl rfl rfl rfl rfl) rfl ?_
      replace hr := obind hr
      obtain ⟨x1300, h1301, hr⟩ := hr
      refine at_on rfl rfl (nf (decide_eq_false (by omega))) ?_
      refine at_hv rfl (hv_call0 [] (f79_spec h1301) rfl rfl rfl rfl ?_)
      rintro _ _ ⟨rfl, rfl⟩
      refine at_on rfl rfl (nf (decide_eq_false (by omega))) ?_
      refine at_lt (lt_not rfl) rfl ?_
      refine at_lt (lt_pick true rfl (nf (decide_eq_false (by omega))) rfl) rfl ?_
      refine at_nil ?_
      have hq := oinj hr
      clear hr
      subst hq
      exact at_leaf () ⟨⟨rfl, ⟨rfl, ⟨rfl, trivial⟩⟩⟩, ⟨[true], rfl⟩, ⟨[], rfl⟩, ⟨[0, 1, 2], rfl⟩⟩
     replace hr := ineg h1298 hr
     cases hr
    clear hc1293
    intro _
    change At _ _ (⟨[(1, .pointer (some (Addr.add ⟨b1279, 0, none⟩ 0))), (3, .int .i64 (x1287 : Int)), (37, .bool x1292)], [⟨b1279, [str a0.Tag, .int .u8 (a0.Ind_0.toNat : Int), .int .u8 (a0.Ind_1.toNat : Int), s1278], 59⟩], [], [((Ty.int .i64).fact (x1287 : Int) [.int .i64 (x1287 : Int)]), (Ty.str.fact a0.Tag [str a0.Tag]), ((Ty.slice ty67).fact a0.Subs [s1278])]⟩ : St) _
    refine at_then ?_
    by_cases h1302 : x1292 = true
    ·replace hr := ipos h1302 hr
     refine at_true rfl h1302 (s_sr (s_as rfl (s_nt (at_ret ?_))))
     have hq := oinj hr
     clear hr
     subst hq
     have hq := oinj hk1290
     clear hk1290
     subst hq
     refine at_in_ret (at_then_ret (at_then_ret (at_in_ret (at_then_ret (at_then_ret ?_)))))
     exact at_return (.bool false) [] hS Tryz.results36 (.cons (.tmp rfl) .nil) rfl rfl ⟨rfl, rfl⟩
    replace hr := ineg h1302 hr
    refine at_false rfl (bf h1302) (at_skip (at_in (s_tr (s_mv rfl ?_))))
    replace hr := imust hr
    obtain ⟨h1303, hr⟩ := hr
    refine at_lt (lt_add rfl rfl (by simp only [lo, hi]; omega)) rfl (s_as rfl (at_nil (at_int .i64 (x1287 + 1 : Int) (by simp only [lo, hi]; omega) ?_)))
    exact at_again (σ := Nat) (V := Unit) (lp := fun n s => m36_l1 a0 n s) (S := fun s e => (⟨[(1, .pointer (some (Addr.add ⟨b1279, 0, none⟩ 0))), (3, .int .i64 (s : Int))], [⟨b1279, [str a0.Tag, .int .u8 (a0.Ind_0.toNat : Int), .int .u8 (a0.Ind_1.toNat : Int), s1278], 59⟩], [], [((Ty.int .i64).fact (s : Int) [.int .i64 (s : Int)]), (Ty.str.fact a0.Tag [str a0.Tag]), ((Ty.slice ty67).fact a0.Subs [s1278])]⟩ : St)) (x1287 + 1) () hr ⟨⟨rfl, ⟨rfl, trivial⟩⟩, ⟨[true], rfl⟩, ⟨[], rfl⟩, ⟨[0, 2, 3], rfl⟩⟩
   replace hr := ineg h1291 hr
   refine at_false rfl (decide_eq_false (by omega)) ?_
   refine at_exit (at_then_exit (at_then_exit (at_in_exit ?_)))
   have hq := oinj hr
   clear hr
   subst hq
   exact at_leafP ((), ()) rfl ⟨⟨rfl, trivial⟩, ⟨[true], rfl⟩, ⟨[], rfl⟩, ⟨[1, 2], rfl⟩⟩
  rintro ⟨_, _⟩ hp
  replace hr := hk1290
  subst hp
  clear hl1289
  change At _ _ (⟨[(1, .pointer (some (Addr.add ⟨b1279, 0, none⟩ 0)))], [⟨b1279, [str a0.Tag, .int .u8 (a0.Ind_0.toNat : Int), .int .u8 (a0.Ind_1.toNat : Int), s1278], 59⟩], [], [(Ty.str.fact a0.Tag [str a0.Tag]), ((Ty.slice ty67).fact a0.Subs [s1278])]⟩ : St) _
  refine at_then (at_seq (s_sr (s_as rfl (s_nt (at_int .i64 0 (by simp only [lo, hi]; omega) ?_)))))
  replace hr := obind hr
  obtain ⟨r1305, hl1306, hk1307⟩ := hr
  refine at_cutP (V := (Unit) × (Unit)) (fun v => r1305 = Fl.go v.1) (fun v => (⟨[], [], [], []⟩ : St)) ?_ ?_
  ·refine at_block ?_
   refine at_loopW (σ := Nat) (V := Unit) (r := r1305) (fun n s => m36_l2 a0 n s) (fun s e => (⟨[(1, .pointer (some (Addr.add ⟨b1279, 0, none⟩ 0))), (4, .int .i64 (s : Int))], [⟨b1279, [str a0.Tag, .int .u8 (a0.Ind_0.toNat : Int), .int .u8 (a0.Ind_1.toNat : Int), s1278], 59⟩], [], [((Ty.int .i64).fact (s : Int) [.int .i64 (s : Int)]), (Ty.str.fact a0.Tag [str a0.Tag]), ((Ty.slice ty67).fact a0.Subs [s1278])]⟩ : St)) (fun _ => rfl) _ 0 () hl1306 ⟨⟨rfl, ⟨rfl, trivial⟩⟩, ⟨[true], rfl⟩, ⟨[], rfl⟩, ⟨[0, 1, 2], rfl⟩⟩ ?_
   clear hl1306
   intro n x1304 hr e
   skip
   skip
   change m36_l2 a0 (n + 1) x1304 = some r1305 at hr
   change At _ _ (⟨[(1, .pointer (some (Addr.add ⟨b1279, 0, none⟩ 0))), (4, .int .i64 (x1304 : Int))], [⟨b1279, [str a0.Tag, .int .u8 (a0.Ind_0.toNat : Int), .int .u8 (a0.Ind_1.toNat : Int), s1278], 59⟩], [], [((Ty.int .i64).fact (x1304 : Int) [.int .i64 (x1304 : Int)]), (Ty.str.fact a0.Tag [str a0.Tag]), ((Ty.slice ty67).fact a0.Subs [s1278])]⟩ : St) _
   rw [m36_l2] at hr
   refine at_seq (s_sr (s_mv rfl (at_lt (lt_fieldAddr 3 rfl fld59_2 rfl) rfl (at_lt (lt_load_box 0 rfl ti57 rfl rfl rfl rfl rfl) rfl (at_lt (lt_flen 2 rfl rfl und57) rfl (at_lt (lt_lss rfl rfl) rfl (s_nt ?_)))))))
   by_cases h1308 : x1304 < a0.Subs.length
   ·replace hr := ipos h1308 hr
    refine at_true rfl (decide_eq_true (by omega)) ?_
    refine at_skip (at_then (at_seq (at_block (s_sr (at_lt (lt_fieldAddr 3 rfl fld59_2 rfl) rfl (at_lt (lt_load_box 0 rfl ti57 rfl rfl rfl rfl rfl) rfl (s_mv rfl ?_)))))))
    replace hr := obind hr
    obtain ⟨x1309, h1310, hr⟩ := hr
    have := (List.getElem?_eq_some_iff.1 h1310).1
    refine at_elem 2 rfl (nat_at' h1310) (fun p1311 ec pa1312 => ?_)
    refine at_open (A := Unit) 0 rfl _ _ (fun F w h => op67 h) ?_
    rintro _ rfl
    refine at_lt (lt_idx rfl rfl pa1312 und57 ti67) rfl (at_lt (lt_fieldAddr 0 rfl fld67_0 rfl) rfl (at_lt (lt_load_peek 2 rfl ti5 rfl rfl rfl rfl rfl) rfl ?_))
    replace hr := obind hr
    obtain ⟨x1313, h1314, hr⟩ := hr
    refine at_hv rfl (hv_call0 [] (f79_spec h1314) rfl rfl rfl rfl ?_)
    rintro _ _ ⟨rfl, rfl⟩
    refine at_lt (lt_not rfl) rfl (s_mv rfl ?_)
    by_cases h1315 : x1313 = true
    ·replace hr := ipos h1315 hr
     refine at_on rfl rfl (nt h1315) (at_lt (lt_fieldAddr 3 rfl fld59_2 rfl) rfl (at_on rfl rfl (nt h1315) (at_lt (lt_load_box 0 rfl ti57 rfl rfl rfl rfl rfl) rfl (at_on rfl rfl (nt h1315) (s_mv rfl ?_)))))
     replace hr := obind hr
     obtain ⟨x1316, h1317, hr⟩ := hr
     have := (List.getElem?_eq_some_iff.1 h1317).1
     refine at_elem 5 rfl (nat_at' h1317) (fun p1318 ec pa1319 => ?_)
     refine at_open (A := Unit) 0 rfl _ _ (fun F w h => op67 h) ?_
     rintro _ rfl
     refine at_on rfl rfl (nt h1315) (at_lt (lt_idx rfl rfl pa1319 und57 ti67) rfl (at_on rfl rfl (nt h1315) (at_lt (lt_fieldAddr 1 rfl fld67_1 rfl) rfl (at_on rfl rfl (nt h1315) (at_lt (lt_load_peek 2 rfl ti9 rfl rfl rfl rfl rfl) rfl ?_)))))
     replace hr := obind hr
     obtain ⟨x1320, h1321, hr⟩ := hr
     refine at_on rfl rfl (nt h1315) (at_hv rfl (hv_call0 [0] (f80_spec h1321) rfl rfl rfl rfl ?_))
     rintro _ _ ⟨rfl, rfl⟩
     refine at_on rfl rfl (nt h1315) (at_lt (lt_not rfl) rfl (at_lt (lt_pick false rfl (nt h1315) rfl) rfl (s_nt ?_)))
     by_cases h1322 : x1320 = true
     ·replace hr := ipos h1322 hr
      refine at_false rfl (nt h1322) (at_skip (at_in (s_tr (s_mv rfl (at_lt (lt_add rfl rfl (by simp only [lo, hi]; omega)) rfl (s_as rfl (at_nil (at_int .i64 (x1304 + 1 : Int) (by simp only [lo, hi]; omega) ?_))))))))
      exact at_again (σ := Nat) (V := Unit) (lp := fun n s => m36_l2 a0 n s) (S := fun s e => (⟨[(1, .pointer (some (Addr.add ⟨b1279, 0, none⟩ 0))), (4, .int .i64 (s : Int))], [⟨b1279, [str a0.Tag, .int .u8 (a0.Ind_0.toNat : Int), .int .u8 (a0.Ind_1.toNat : Int), s1278], 59⟩], [], [((Ty.int .i64).fact (s : Int) [.int .i64 (s : Int)]), (Ty.str.fact a0.Tag [str a0.Tag]), ((Ty.slice ty67).fact a0.Subs [s1278])]⟩ : St)) (x1304 + 1) () hr ⟨⟨rfl, ⟨rfl, trivial⟩⟩, ⟨[true], rfl⟩, ⟨[], rfl⟩, ⟨[0, 8, 9], rfl⟩⟩
     replace hr := ineg h1322 hr
     refine at_true rfl (nf (bf h1322)) (s_sr (s_as rfl (s_nt (at_ret ?_))))
     have hq := oinj hr
     clear hr
     subst hq
     have hq := oinj hk1307
     clear hk1307
     subst hq
     refine at_in_ret (at_then_ret (at_then_ret (at_in_ret (at_then_ret (at_then_ret ?_)))))
     exact at_return (.bool false) [] hS Tryz.results36 (.cons (.tmp rfl) .nil) rfl rfl ⟨rfl, rfl⟩
    replace hr := ineg h1315 hr
    refine at_off rfl rfl (nf (bf h1315)) rfl (at_off rfl rfl (nf (bf h1315)) rfl (at_off rfl rfl (nf (bf h1315)) rfl (at_off rfl rfl (nf (bf h1315)) rfl (at_off rfl rfl (nf (bf h1315)) rfl (at_off rfl rfl (nf (bf h1315)) rfl (at_off rfl rfl (nf (bf h1315)) rfl (at_off rfl rfl (nf (bf h1315)) rfl (at_lt (lt_pick true rfl (nf (bf h1315)) rfl) rfl (s_nt ?_)))))))))
    refine at_true rfl rfl (s_sr (s_as rfl (s_nt (at_ret ?_))))
    have hq := oinj hr
    clear hr
    subst hq
    have hq := oinj hk1307
    clear hk1307
    subst hq
    refine at_in_ret (at_then_ret (at_then_ret (at_in_ret (at_then_ret (at_then_ret ?_)))))
    exact at_return (.bool false) [] hS Tryz.results36 (.cons (.tmp rfl) .nil) rfl rfl ⟨rfl, rfl⟩
   replace hr := ineg h1308 hr
   refine at_false rfl (decide_eq_false (by omega)) ?_
   refine at_exit (at_then_exit (at_then_exit (at_in_exit ?_)))
   have hq := oinj hr
   clear hr
   subst hq
   exact at_leafP ((), ()) rfl ⟨trivial, ⟨[false], rfl⟩, ⟨[], rfl⟩, ⟨[], rfl⟩⟩
  rintro ⟨_, _⟩ hp
  replace hr := hk1307
  subst hp
  clear hl1306
  change At _ _ (⟨[], [], [], []⟩ : St) _
  refine s_tsr (s_as rfl (s_nt (at_ret ?_)))
  have hq := oinj hr
  clear hr
  subst hq
  exact at_return (.bool true) [] hS Tryz.results36 (.cons (.tmp rfl) .nil) rfl rfl ⟨rfl, rfl⟩
 replace hr := ineg h1282 hr
 refine at_off rfl rfl (nf (bf h1282)) rfl (at_off rfl rfl (nf (bf h1282)) rfl (at_off rfl rfl (nf (bf h1282)) rfl (at_off rfl rfl (nf (bf h1282)) rfl (at_lt (lt_pick true rfl (nf (bf h1282)) rfl) rfl (s_mv rfl (at_off rfl rfl rfl rfl (at_off rfl rfl rfl rfl (at_off rfl rfl rfl rfl (at_off rfl rfl rfl rfl ?_)))))))))
 refine at_lt (lt_pick true rfl rfl rfl) rfl (s_nt (at_true rfl rfl (s_sr (s_as rfl (s_nt (at_ret ?_))))))
 have hq := oinj hr
 clear hr
 subst hq
 refine at_then_ret ?_
 exact at_return (.bool false) [] hS Tryz.results36 (.cons (.tmp rfl) .nil) rfl rfl ⟨rfl, rfl⟩
end Go.WK.S
