
/- What functions of this program compute: a model of each, and the proof that it is kept. -/
import Derived.Test.YteljaomifdnkkaaGreatDoorTextF02
import Derived.KernelRfl
set_option linter.unusedSimpArgs false
set_option linter.unusedVariables false
namespace Go.WK.S
open Go Go.Proofs Go.WK Go.RowKit
set_option linter.unusedVariables false
set_option maxRecDepth 100000
set_option maxHeartbeats 4000000
def m12_l2 (x934 : D_api_Field) : Nat → Nat → Option (Fl (Fl Bool Unit) Unit)
  | 0, _ => none
  | k + 1, x947 =>
    if x947 < x934.Subs.length then
     (x934.Subs[x947]?).bind fun x952 =>
     if 80 < x952.Value.length then
      (x934.Subs[x947]?).bind fun x958 =>
      if x958.Value.length < 400 then
       some (Fl.ret (Fl.ret false))
      else
       (x934.Subs[x947]?).bind fun x964 =>
       if 402 < x964.Value.length then
        some (Fl.ret (Fl.ret false))
       else
        m12_l2 x934 k (x947 + 1)
     else
      (x934.Subs[x947]?).bind fun x970 =>
      if 402 < x970.Value.length then
       some (Fl.ret (Fl.ret false))
      else
       m12_l2 x934 k (x947 + 1)
    else
     some (Fl.go ())
def m12_l3 (x934 : D_api_Field) : Nat → Nat → Option (Fl (Fl Bool Unit) Unit)
  | 0, _ => none
  | k + 1, x979 =>
    if x979 < x934.Subs.length then
     (x934.Subs[x979]?).bind fun x984 =>
     if 80 < x984.Value.length then
      (x934.Subs[x979]?).bind fun x990 =>
      if x990.Value.length < 400 then
       some (Fl.ret (Fl.ret false))
      else
       (x934.Subs[x979]?).bind fun x996 =>
       if 402 < x996.Value.length then
        some (Fl.ret (Fl.ret false))
       else
        m12_l3 x934 k (x979 + 1)
     else
      (x934.Subs[x979]?).bind fun x1002 =>
      if 402 < x1002.Value.length then
       some (Fl.ret (Fl.ret false))
      else
       m12_l3 x934 k (x979 + 1)
    else
     some (Fl.go ())
def m12_l4 (x934 : D_api_Field) : Nat → Nat → Option (Fl (Fl Bool Unit) Unit)
  | 0, _ => none
  | k + 1, x1010 =>
    if x1010 < x934.Subs.length then
     (x934.Subs[x1010]?).bind fun x1015 =>
     if 80 < x1015.Value.length then
      (x934.Subs[x1010]?).bind fun x1021 =>
      if x1021.Value.length < 400 then
       some (Fl.ret (Fl.ret false))
      else
       (x934.Subs[x1010]?).bind fun x1027 =>
       if 402 < x1027.Value.length then
        some (Fl.ret (Fl.ret false))
       else
        m12_l4 x934 k (x1010 + 1)
     else
      (x934.Subs[x1010]?).bind fun x1033 =>
      if 402 < x1033.Value.length then
       some (Fl.ret (Fl.ret false))
      else
       m12_l4 x934 k (x1010 + 1)
    else
     some (Fl.go ())
def m12_l1 (a0 : D_api_Record) : Nat → Nat → Option (Fl Bool Unit)
  | 0, _ => none
  | k + 1, x927 =>
    if x927 < a0.Fields.length then
     (a0.Fields[x927]?).bind fun x934 =>
     if 8 < x934.Subs.length then
      if x934.Subs.length = 20 then
       if 20 < x934.Tag.length then
        some (Fl.ret false)
       else
        (m12_l2 x934 (x934.Subs.length + 1) 0).bind fun r => match r with
        | .ret x => some x
        | .go _ =>
         m12_l1 a0 k (x927 + 1)
      else
       if x934.Subs.length = 21 then
        if 20 < x934.Tag.length then
         some (Fl.ret false)
        else
         (m12_l3 x934 (x934.Subs.length + 1) 0).bind fun r => match r with
         | .ret x => some x
         | .go _ =>
          m12_l1 a0 k (x927 + 1)
       else
        some (Fl.ret false)
     else
      if 20 < x934.Tag.length then
       some (Fl.ret false)
      else
       (m12_l4 x934 (x934.Subs.length + 1) 0).bind fun r => match r with
       | .ret x => some x
       | .go _ =>
        m12_l1 a0 k (x927 + 1)
    else
     some (Fl.go ())
def m12 (a0 : D_api_Record) (a1 : Int) : Option Bool :=
  (m12_l1 a0 (a0.Fields.length + 1) 0).bind fun r => match r with
  | .ret x => some x
  | .go _ =>
   some (decide ((a0.Fields.length : Int) ≤ a1))
def post12 (r : Bool) (v : Value) (fs : List Fact) : Prop := v = .bool r ∧ fs = []
theorem en12 : Enters Tryz.prog 12 := ⟨_, Tryz.func12, by kernel_rfl, rfl⟩
theorem f12_spec {a0 : D_api_Record} {a1 : Int} {s923 : Value} {r : Bool} (hr : m12 a0 a1 = some r) : Spec Tryz.prog 12 [.agg #[.int .i64 a0.ID, s923], .int .i64 a1] [(ty24.fact a0 [.int .i64 a0.ID, s923]), ((Ty.int .i64).fact a1 [.int .i64 a1])] (post12 r) := by
 refine spec_start (N := 82) Tryz.func12 (by kernel_rfl) rfl rfl rfl ?_
 intro g hS
 unfold m12 at hr
 refine at_open (A := Unit) 0 rfl (fun _ => True) (fun _ => [((Ty.int .i64).fact a0.ID [.int .i64 a0.ID]), ((Ty.slice ty59).fact a0.Fields [s923])]) (fun F w h => ⟨(), trivial, ex24 h⟩) (fun _ _ => ?_)
 refine at_inv 0 rfl (fun l924 => ?_)
 replace l924 : (-9223372036854775808) ≤ a0.ID ∧ a0.ID ≤ 9223372036854775807 := l924
 refine at_inv 3 rfl (fun l925 => ?_)
 replace l925 : (-9223372036854775808) ≤ a1 ∧ a1 ≤ 9223372036854775807 := l925
 refine s_sr (at_hv rfl ?_)
 refine hv_box (cs := [.int .i64 a0.ID, s923]) rfl rfl rfl (fun b926 => ?_)
 refine s_as rfl (s_nt (at_seq (s_sr (s_as rfl (s_nt (at_int .i64 0 (by simp only [lo, hi]; omega) ?_))))))
 replace hr := obind hr
 obtain ⟨r928, hl929, hk930⟩ := hr
 refine at_cutP (V := (Unit) × (Unit)) (fun v => r928 = Fl.go v.1) (fun v => (⟨[(1, .int .i64 a1), (2, .pointer (some (Addr.add ⟨b926, 0, none⟩ 0)))], [⟨b926, [.int .i64 a0.ID, s923], 24⟩], [], [((Ty.int .i64).fact a1 [.int .i64 a1]), ((Ty.int .i64).fact a0.ID [.int .i64 a0.ID]), ((Ty.slice ty59).fact a0.Fields [s923])]⟩ : St)) ?_ ?_
 ·refine at_block ?_
  refine at_loopW (σ := Nat) (V := Unit) (r := r928) (fun n s => m12_l1 a0 n s) (fun s e => (⟨[(1, .int .i64 a1), (2, .pointer (some (Addr.add ⟨b926, 0, none⟩ 0))), (5, .int .i64 (s : Int))], [⟨b926, [.int .i64 a0.ID, s923], 24⟩], [], [((Ty.int .i64).fact (s : Int) [.int .i64 (s : Int)]), ((Ty.int .i64).fact a1 [.int .i64 a1]), ((Ty.int .i64).fact a0.ID [.int .i64 a0.ID]), ((Ty.slice ty59).fact a0.Fields [s923])]⟩ : St)) (fun _ => rfl) _ 0 () hl929 ⟨⟨rfl, ⟨rfl, ⟨rfl, trivial⟩⟩⟩, ⟨[true], rfl⟩, ⟨[], rfl⟩, ⟨[0, 4, 1, 2], rfl⟩⟩ ?_
  clear hl929
  intro n x927 hr e
  skip
  skip
  change m12_l1 a0 (n + 1) x927 = some r928 at hr
  change At _ _ (⟨[(1, .int .i64 a1), (2, .pointer (some (Addr.add ⟨b926, 0, none⟩ 0))), (5, .int .i64 (x927 : Int))], [⟨b926, [.int .i64 a0.ID, s923], 24⟩], [], [((Ty.int .i64).fact (x927 : Int) [.int .i64 (x927 : Int)]), ((Ty.int .i64).fact a1 [.int .i64 a1]), ((Ty.int .i64).fact a0.ID [.int .i64 a0.ID]), ((Ty.slice ty59).fact a0.Fields [s923])]⟩ : St) _
  rw [m12_l1] at hr
  refine at_seq (s_sr (s_mv rfl (at_lt (lt_fieldAddr 1 rfl fld24_1 rfl) rfl (at_lt (lt_load_box 0 rfl ti22 rfl rfl rfl rfl rfl) rfl ?_))))
  refine at_inv 3 rfl (fun i931 => ?_)
  have l932 := slice_len i931
  refine at_lt (lt_flen 3 rfl rfl und22) rfl (at_lt (lt_lss rfl rfl) rfl (s_nt ?_))
  by_cases h933 : x927 < a0.Fields.length
  ·replace hr := ipos h933 hr
   refine at_true rfl (decide_eq_true (by omega)) ?_
   refine at_skip (at_then (at_seq (at_block (s_sr (at_lt (lt_fieldAddr 1 rfl fld24_1 rfl) rfl (at_lt (lt_load_box 0 rfl ti22 rfl rfl rfl rfl rfl) rfl (s_mv rfl ?_)))))))
   replace hr := obind hr
   obtain ⟨x934, h935, hr⟩ := hr
   have := (List.getElem?_eq_some_iff.1 h935).1
   refine at_elem 3 rfl (nat_at' h935) (fun p937 ec pa938 => ?_)
   refine at_open (A := Value) 0 rfl _ _ (fun F w h => op59 h) ?_
   rintro s936 rfl
   refine at_lt (lt_idx rfl rfl pa938 und22 ti59) rfl (at_lt (lt_load_peek 3 rfl ti59 rfl rfl rfl rfl rfl) rfl (at_hv rfl ?_))
   refine hv_alloc (cs := [str ([] : Str), .int .u8 0, .int .u8 0, (.slice none 0 0)]) ti59 rfl rfl (fun b939 => ?_)
   refine at_one 1 rfl (fun ho940 => ?_)
   refine at_hv rfl (hv_store_box 0 (cs' := [str x934.Tag, .int .u8 (x934.Ind_0.toNat : Int), .int .u8 (x934.Ind_1.toNat : Int), s936]) rfl rfl ti59 rfl rfl rfl rfl (allc rfl (allc rfl (allc rfl (allc ho940 rfl)))) (s_nt (at_seq (s_sr (at_lt (lt_fieldAddr 3 rfl fld59_2 rfl) rfl (at_lt (lt_load_box 0 rfl ti57 rfl rfl rfl rfl rfl) rfl ?_))))))
   refine at_inv 1 rfl (fun i941 => ?_)
   have l942 := slice_len i941
   refine at_lt (lt_flen 1 rfl rfl und57) rfl (at_lt (lt_gtr rfl rfl) rfl (s_mv rfl ?_))
   by_cases h943 : 8 < x934.Subs.length
   ·replace hr := ipos h943 hr
    refine at_on rfl rfl (decide_eq_true (by omega)) ?_
    refine at_lt (lt_fieldAddr 3 rfl fld59_2 rfl) rfl ?_
    refine at_on rfl rfl (decide_eq_true (by omega)) ?_
    refine at_lt (lt_load_box 0 rfl ti57 rfl rfl rfl rfl rfl) rfl ?_
    refine at_on rfl rfl (decide_eq_true (by omega)) ?_
    refine at_lt (lt_flen 1 rfl rfl und57) rfl ?_
    refine at_on rfl rfl (decide_eq_true (by omega)) ?_
    refine at_lt (lt_neq rfl rfl) rfl ?_
    refine at_lt (lt_pick true rfl (decide_eq_true (by omega)) rfl) rfl ?_
    refine s_mv rfl ?_
    by_cases h944 : x934.Subs.length = 20
    ·replace hr := ipos h944 hr
     refine at_off rfl rfl (nt (decide_eq_true (by omega))) rfl ?_
     refine at_off rfl rfl (nt (decide_eq_true (by omega))) rfl ?_
     refine at_off rfl rfl (nt (decide_eq_true (by omega))) rfl ?_
     refine at_off rfl rfl (nt (decide_eq_true (by omega))) rfl ?_
     refine at_lt (lt_pick false rfl (nt (decide_eq_true (by omega))) rfl) rfl ?_
     refine s_mv rfl (at_on rfl rfl rfl (at_lt (lt_fieldAddr 0 rfl fld59_0 rfl) rfl (at_on rfl rfl rfl (at_lt (lt_load_box 0 rfl ti9 rfl rfl rfl rfl rfl) rfl ?_))))
     refine at_inv 0 rfl (fun l945 => ?_)
     replace l945 : x934.Tag.length ≤ 9223372036854775807 := l945
     refine at_on rfl rfl rfl (at_lt (lt_slen rfl und9) rfl (at_on rfl rfl rfl (at_lt (lt_gtr rfl rfl) rfl (at_lt (lt_pick false rfl rfl rfl) rfl (s_nt ?_)))))
     by_cases h946 : 20 < x934.Tag.length
     ·replace hr := ipos h946 hr
      refine at_true rfl (decide_eq_true (by omega)) ?_
      refine s_sr (s_as rfl (s_nt (at_ret ?_)))
      have hq := oinj hr
      clear hr
      subst hq
      have hq := oinj hk930
      clear hk930
      subst hq
      refine at_then_ret (at_in_ret (at_then_ret (at_then_ret (at_in_ret (at_then_ret (at_then_ret ?_))))))
      exact at_return (.bool false) [] hS Tryz.results12 (.cons (.tmp rfl) .nil) rfl rfl ⟨rfl, rfl⟩
     replace hr := ineg h946 hr
     refine at_false rfl (decide_eq_false (by omega)) ?_
     refine at_skip (s_tsr (s_as rfl (s_nt (at_int .i64 0 (by simp only [lo, hi]; omega) ?_))))
     replace hr := obind hr
     obtain ⟨r948, hl949, hk950⟩ := hr
     refine at_cutP (V := (Unit) × (Unit)) (fun v => r948 = Fl.go v.1) (fun v => (⟨[(1, .int .i64 a1), (2, .pointer (some (Addr.add ⟨b926, 0, none⟩ 0))), (5, .int .i64 (x927 : Int))], [⟨b926, [.int .i64 a0.ID, s923], 24⟩], [], [((Ty.int .i64).fact a1 [.int .i64 a1]), ((Ty.int .i64).fact (x927 : Int) [.int .i64 (x927 : Int)]), ((Ty.int .i64).fact a0.ID [.int .i64 a0.ID]), ((Ty.slice ty59).fact a0.Fields [s923])]⟩ : St)) ?_ ?_
     ·refine at_block ?_
      refine at_loopW (σ := Nat) (V := Unit) (r := r948) (fun n s => m12_l2 x934 n s) (fun s e => (⟨[(1, .int .i64 a1), (2, .pointer (some (Addr.add ⟨b926, 0, none⟩ 0))), (5, .int .i64 (x927 : Int)), (6, .pointer (some (Addr.add ⟨b939, 0, none⟩ 0))), (7, .int .i64 (s : Int))], [⟨b939, [str x934.Tag, .int .u8 (x934.Ind_0.toNat : Int), .int .u8 (x934.Ind_1.toNat : Int), s936], 59⟩, ⟨b926, [.int .i64 a0.ID, s923], 24⟩], [], [((Ty.int .i64).fact (s : Int) [.int .i64 (s : Int)]), ((Ty.int .i64).fact a1 [.int .i64 a1]), ((Ty.int .i64).fact (x927 : Int) [.int .i64 (x927 : Int)]), ((Ty.int .i64).fact a0.ID [.int .i64 a0.ID]), ((Ty.slice ty59).fact a0.Fields [s923]), (Ty.str.fact x934.Tag [str x934.Tag]), ((Ty.slice ty67).fact x934.Subs [s936])]⟩ : St)) (fun _ => rfl) _ 0 () hl949 ⟨⟨rfl, ⟨rfl, ⟨rfl, ⟨rfl, ⟨rfl, trivial⟩⟩⟩⟩⟩, ⟨[true, true], rfl⟩, ⟨[], rfl⟩, ⟨[0, 6, 5, 7, 8, 1, 2], rfl⟩⟩ ?_
      clear hl949
      intro n x947 hr e
      skip
      skip
      change m12_l2 x934 (n + 1) x947 = some r948 at hr
      change At _ _ (⟨[(1, .int .i64 a1), (2, .pointer (some (Addr.add ⟨b926, 0, none⟩ 0))), (5, .int .i64 (x927 : Int)), (6, .pointer (some (Addr.add ⟨b939, 0, none⟩ 0))), (7, .int .i64 (x947 : Int))], [⟨b939, [str x934.Tag, .int .u8 (x934.Ind_0.toNat : Int), .int .u8 (x934.Ind_1.toNat : Int), s936], 59⟩, ⟨b926, [.int .i64 a0.ID, s923], 24⟩], [], [((Ty.int .i64).fact (x947 : Int) [.int .i64 (x947 : Int)]), ((Ty.int .i64).fact a1 [.int .i64 a1]), ((Ty.int .i64).fact (x927 : Int) [.int .i64 (x927 : Int)]), ((Ty.int .i64).fact a0.ID [.int .i64 a0.ID]), ((Ty.slice ty59).fact a0.Fields [s923]), (Ty.str.fact x934.Tag [str x934.Tag]), ((Ty.slice ty67).fact x934.Subs [s936])]⟩ : St) _
      rw [m12_l2] at hr
      refine at_seq (s_sr (s_mv rfl (at_lt (lt_fieldAddr 3 rfl fld59_2 rfl) rfl (at_lt (lt_load_box 0 rfl ti57 rfl rfl rfl rfl rfl) rfl (at_lt (lt_flen 6 rfl rfl und57) rfl (at_lt (lt_lss rfl rfl) rfl (s_nt ?_)))))))
      by_cases h951 : x947 < x934.Subs.length
      ·replace hr := ipos h951 hr
       refine at_true rfl (decide_eq_true (by omega)) ?_
       refine at_skip (at_then (at_seq (at_block (s_sr (at_lt (lt_fieldAddr 3 rfl fld59_2 rfl) rfl (at_lt (lt_load_box 0 rfl ti57 rfl rfl rfl rfl rfl) rfl (s_mv rfl ?_)))))))
       replace hr := obind hr
       obtain ⟨x952, h953, hr⟩ := hr
       have := (List.getElem?_eq_some_iff.1 h953).1
       refine at_elem 6 rfl (nat_at' h953) (fun p954 ec pa955 => ?_)
       refine at_open (A := Unit) 0 rfl _ _ (fun F w h => op67 h) ?_
       rintro _ rfl
       refine at_lt (lt_idx rfl rfl pa955 und57 ti67) rfl (at_lt (lt_fieldAddr 1 rfl fld67_1 rfl) rfl (at_lt (lt_load_peek 2 rfl ti9 rfl rfl rfl rfl rfl) rfl ?_))
       refine at_inv 0 rfl (fun l956 => ?_)
       replace l956 : x952.Value.length ≤ 9223372036854775807 := l956
       refine at_lt (lt_slen rfl und9) rfl (at_lt (lt_gtr rfl rfl) rfl (s_mv rfl ?_))
       by_cases h957 : 80 < x952.Value.length
       ·replace hr := ipos h957 hr
        refine at_on rfl rfl (decide_eq_true (by omega)) ?_
        refine at_lt (lt_fieldAddr 3 rfl fld59_2 rfl) rfl ?_
        refine at_on rfl rfl (decide_eq_true (by omega)) ?_
        refine at_lt (lt_load_box 0 rfl ti57 rfl rfl rfl rfl rfl) rfl ?_
        refine at_on rfl rfl (decide_eq_true (by omega)) ?_
        refine s_mv rfl ?_
        replace hr := obind hr
        obtain ⟨x958, h959, hr⟩ := hr
        have := (List.getElem?_eq_some_iff.1 h959).1
        refine at_elem 9 rfl (nat_at' h959) (fun p960 ec pa961 => ?_)
        refine at_open (A := Unit) 0 rfl _ _ (fun F w h => op67 h) ?_
        rintro _ rfl
        refine at_on rfl rfl (decide_eq_true (by omega)) ?_
        refine at_lt (lt_idx rfl rfl pa961 und57 ti67) rfl ?_
        refine at_on rfl rfl (decide_eq_true (by omega)) ?_
        refine at_lt (lt_fieldAddr 1 rfl fld67_1 rfl) rfl ?_
        refine at_on rfl rfl (decide_eq_true (by omega)) ?_
        refine at_lt (lt_load_peek 2 rfl ti9 rfl rfl rfl rfl rfl) rfl ?_
        refine at_inv 0 rfl (fun l962 => ?_)
        replace l962 : x958.Value.length ≤ 9223372036854775807 := l962
        refine at_on rfl rfl (decide_eq_true (by omega)) ?_
        refine at_lt (lt_slen rfl und9) rfl ?_
        refine at_on rfl rfl (decide_eq_true (by omega)) ?_
        refine at_lt (lt_lss rfl rfl) rfl ?_
        refine at_lt (lt_pick true rfl (decide_eq_true (by omega)) rfl) rfl ?_
        refine s_mv rfl ?_
        by_cases h963 : x958.Value.length < 400
        ·replace hr := ipos h963 hr
         refine at_off rfl rfl (decide_eq_true (by omega)) rfl ?_
         refine at_off rfl rfl (decide_eq_true (by omega)) rfl ?_
         refine at_off rfl rfl (decide_eq_true (by omega)) rfl ?_
         refine at_off rfl rfl (decide_eq_true (by omega)) rfl ?_
         refine at_off rfl rfl (decide_eq_true (by omega)) rfl ?_
         refine at_off rfl rfl (decide_eq_true (by omega)) rfl ?_
         refine at_off rfl rfl (decide_eq_true (by omega)) rfl ?_
         refine at_off rfl rfl (decide_eq_true (by omega)) rfl ?_
         refine at_lt (lt_pick true rfl (decide_eq_true (by omega)) rfl) rfl ?_
         refine s_nt (at_true rfl rfl (s_sr (s_as rfl (s_nt (at_ret ?_)))))
         have hq := oinj hr
         clear hr
         subst hq
         have hq := oinj hk950
         clear hk950
         subst hq
         have hq := oinj hk930
         clear hk930
         subst hq
         refine at_in_ret (at_then_ret (at_then_ret (at_in_ret (at_then_ret (at_in_ret (at_then_ret (at_then_ret (at_in_ret (at_then_ret ?_)))))))))
         refine at_then_ret ?_
         exact at_return (.bool false) [] hS Tryz.results12 (.cons (.tmp rfl) .nil) rfl rfl ⟨rfl, rfl⟩
        replace hr := ineg h963 hr
        refine at_on rfl rfl (decide_eq_false (by omega)) ?_
        refine at_lt (lt_fieldAddr 3 rfl fld59_2 rfl) rfl ?_
        refine at_on rfl rfl (decide_eq_false (by omega)) ?_
        refine at_lt (lt_load_box 0 rfl ti57 rfl rfl rfl rfl rfl) rfl ?_
        refine at_on rfl rfl (decide_eq_false (by omega)) ?_
        refine s_mv rfl ?_
        replace hr := obind hr
        obtain ⟨x964, h965, hr⟩ := hr
        have := (List.getElem?_eq_some_iff.1 h965).1
        refine at_elem 12 rfl (nat_at' h965) (fun p966 ec pa967 => ?_)
        refine at_open (A := Unit) 0 rfl _ _ (fun F w h => op67 h) ?_
        rintro _ rfl
        refine at_on rfl rfl (decide_eq_false (by omega)) ?_
        refine at_lt (lt_idx rfl rfl pa967 und57 ti67) rfl ?_
        refine at_on rfl rfl (decide_eq_false (by omega)) ?_
        refine at_lt (lt_fieldAddr 1 rfl fld67_1 rfl) rfl ?_
        refine at_on rfl rfl (decide_eq_false (by omega)) ?_
        refine at_lt (lt_load_peek 2 rfl ti9 rfl rfl rfl rfl rfl) rfl ?_
        refine at_inv 0 rfl (fun l968 => ?_)
        replace l968 : x964.Value.length ≤ 9223372036854775807 := l968
        refine at_on rfl rfl (decide_eq_false (by omega)) ?_
        refine at_lt (lt_slen rfl und9) rfl ?_
        refine at_on rfl rfl (decide_eq_false (by omega)) ?_
        refine at_lt (lt_gtr rfl rfl) rfl ?_
        refine at_lt (lt_pick false rfl (decide_eq_false (by omega)) rfl) rfl ?_
        refine s_nt ?_
        by_cases h969 : 402 < x964.Value.length
        ·replace hr := ipos h969 hr
         refine at_true rfl (decide_eq_true (by omega)) ?_
         refine s_sr (s_as rfl (s_nt (at_ret ?_)))
         have hq := oinj hr
         clear hr
         subst hq
         have hq := oinj hk950
         clear hk950
         subst hq
         have hq := oinj hk930
         clear hk930
         subst hq
         refine at_in_ret (at_then_ret (at_then_ret (at_in_ret (at_then_ret (at_in_ret (at_then_ret (at_then_ret (at_in_ret (at_then_ret ?_)))))))))
         refine at_then_ret ?_
         exact at_return (.bool false) [] hS Tryz.results12 (.cons (.tmp rfl) .nil) rfl rfl ⟨rfl, rfl⟩
        replace hr := ineg h969 hr
        refine at_false rfl (decide_eq_false (by omega)) ?_
        refine at_skip (at_in (s_tr (s_mv rfl (at_lt (lt_add rfl rfl (by simp only [lo, hi]; omega)) rfl (s_as rfl (at_nil (at_int .i64 (x947 + 1 : Int) (by simp only [lo, hi]; omega) ?_)))))))
        exact at_again (σ := Nat) (V := Unit) (lp := fun n s => m12_l2 x934 n s) (S := fun s e => (⟨[(1, .int .i64 a1), (2, .pointer (some (Addr.add ⟨b926, 0, none⟩ 0))), (5, .int .i64 (x927 : Int)), (6, .pointer (some (Addr.add ⟨b939, 0, none⟩ 0))), (7, .int .i64 (s : Int))], [⟨b939, [str x934.Tag, .int .u8 (x934.Ind_0.toNat : Int), .int .u8 (x934.Ind_1.toNat : Int), s936], 59⟩, ⟨b926, [.int .i64 a0.ID, s923], 24⟩], [], [((Ty.int .i64).fact (s : Int) [.int .i64 (s : Int)]), ((Ty.int .i64).fact a1 [.int .i64 a1]), ((Ty.int .i64).fact (x927 : Int) [.int .i64 (x927 : Int)]), ((Ty.int .i64).fact a0.ID [.int .i64 a0.ID]), ((Ty.slice ty59).fact a0.Fields [s923]), (Ty.str.fact x934.Tag [str x934.Tag]), ((Ty.slice ty67).fact x934.Subs [s936])]⟩ : St)) (x947 + 1) () hr ⟨⟨rfl, ⟨rfl, ⟨rfl, ⟨rfl, ⟨rfl, trivial⟩⟩⟩⟩⟩, ⟨[true, true], rfl⟩, ⟨[], rfl⟩, ⟨[0, 11, 12, 13, 14, 15, 16], rfl⟩⟩
       replace hr := ineg h957 hr
       refine at_off rfl rfl (decide_eq_false (by omega)) rfl ?_
       refine at_off rfl rfl (decide_eq_false (by omega)) rfl ?_
       refine at_off rfl rfl (decide_eq_false (by omega)) rfl ?_
       refine at_off rfl rfl (decide_eq_false (by omega)) rfl ?_
       refine at_off rfl rfl (decide_eq_false (by omega)) rfl ?_
       refine at_off rfl rfl (decide_eq_false (by omega)) rfl ?_
       refine at_off rfl rfl (decide_eq_false (by omega)) rfl ?_
       refine at_off rfl rfl (decide_eq_false (by omega)) rfl ?_
       refine at_lt (lt_pick false rfl (decide_eq_false (by omega)) rfl) rfl ?_
       refine s_mv rfl (at_on rfl rfl rfl (at_lt (lt_fieldAddr 3 rfl fld59_2 rfl) rfl (at_on rfl rfl rfl (at_lt (lt_load_box 0 rfl ti57 rfl rfl rfl rfl rfl) rfl (at_on rfl rfl rfl (s_mv rfl ?_))))))
       replace hr := obind hr
       obtain ⟨x970, h971, hr⟩ := hr
       have := (List.getElem?_eq_some_iff.1 h971).1
       refine at_elem 9 rfl (nat_at' h971) (fun p972 ec pa973 => ?_)
       refine at_open (A := Unit) 0 rfl _ _ (fun F w h => op67 h) ?_
       rintro _ rfl
       refine at_on rfl rfl rfl (at_lt (lt_idx rfl rfl pa973 und57 ti67) rfl (at_on rfl rfl rfl (at_lt (lt_fieldAddr 1 rfl fld67_1 rfl) rfl (at_on rfl rfl rfl (at_lt (lt_load_peek 2 rfl ti9 rfl rfl rfl rfl rfl) rfl ?_)))))
       refine at_inv 0 rfl (fun l974 => ?_)
       replace l974 : x970.Value.length ≤ 9223372036854775807 := l974
       refine at_on rfl rfl rfl (at_lt (lt_slen rfl und9) rfl (at_on rfl rfl rfl (at_lt (lt_gtr rfl rfl) rfl (at_lt (lt_pick false rfl rfl rfl) rfl (s_nt ?_)))))
       by_cases h975 : 402 < x970.Value.length
       ·replace hr := ipos h975 hr
        refine at_true rfl (decide_eq_true (by omega)) ?_
        refine s_sr (s_as rfl (s_nt (at_ret ?_)))
        have hq := oinj hr
        clear hr
        subst hq
        have hq := oinj hk950
        clear hk950
        subst hq
        have hq := oinj hk930
        clear hk930
        subst hq
        refine at_in_ret (at_then_ret (at_then_ret (at_in_ret (at_then_ret (at_in_ret (at_then_ret (at_then_ret (at_in_ret (at_then_ret ?_)))))))))
        refine at_then_ret ?_
        exact at_return (.bool false) [] hS Tryz.results12 (.cons (.tmp rfl) .nil) rfl rfl ⟨rfl, rfl⟩
       replace hr := ineg h975 hr
       refine at_false rfl (decide_eq_false (by omega)) ?_
       refine at_skip (at_in (s_tr (s_mv rfl (at_lt (lt_add rfl rfl (by simp only [lo, hi]; omega)) rfl (s_as rfl (at_nil (at_int .i64 (x947 + 1 : Int) (by simp only [lo, hi]; omega) ?_)))))))
       exact at_again (σ := Nat) (V := Unit) (lp := fun n s => m12_l2 x934 n s) (S := fun s e => (⟨[(1, .int .i64 a1), (2, .pointer (some (Addr.add ⟨b926, 0, none⟩ 0))), (5, .int .i64 (x927 : Int)), (6, .pointer (some (Addr.add ⟨b939, 0, none⟩ 0))), (7, .int .i64 (s : Int))], [⟨b939, [str x934.Tag, .int .u8 (x934.Ind_0.toNat : Int), .int .u8 (x934.Ind_1.toNat : Int), s936], 59⟩, ⟨b926, [.int .i64 a0.ID, s923], 24⟩], [], [((Ty.int .i64).fact (s : Int) [.int .i64 (s : Int)]), ((Ty.int .i64).fact a1 [.int .i64 a1]), ((Ty.int .i64).fact (x927 : Int) [.int .i64 (x927 : Int)]), ((Ty.int .i64).fact a0.ID [.int .i64 a0.ID]), ((Ty.slice ty59).fact a0.Fields [s923]), (Ty.str.fact x934.Tag [str x934.Tag]), ((Ty.slice ty67).fact x934.Subs [s936])]⟩ : St)) (x947 + 1) () hr ⟨⟨rfl, ⟨rfl, ⟨rfl, ⟨rfl, ⟨rfl, trivial⟩⟩⟩⟩⟩, ⟨[true, true], rfl⟩, ⟨[], rfl⟩, ⟨[0, 8, 9, 10, 11, 12, 13], rfl⟩⟩
      replace hr := ineg h951 hr
      refine at_false rfl (decide_eq_false (by omega)) ?_
      refine at_exit (at_then_exit (at_then_exit (at_in_exit ?_)))
      have hq := oinj hr
      clear hr
      subst hq
      exact at_leafP ((), ()) rfl ⟨⟨rfl, ⟨rfl, ⟨rfl, trivial⟩⟩⟩, ⟨[false, true], rfl⟩, ⟨[], rfl⟩, ⟨[1, 2, 3, 4], rfl⟩⟩
     rintro ⟨_, _⟩ hp
     replace hr := hk950
     subst hp
     clear hl949
     change At _ _ (⟨[(1, .int .i64 a1), (2, .pointer (some (Addr.add ⟨b926, 0, none⟩ 0))), (5, .int .i64 (x927 : Int))], [⟨b926, [.int .i64 a0.ID, s923], 24⟩], [], [((Ty.int .i64).fact a1 [.int .i64 a1]), ((Ty.int .i64).fact (x927 : Int) [.int .i64 (x927 : Int)]), ((Ty.int .i64).fact a0.ID [.int .i64 a0.ID]), ((Ty.slice ty59).fact a0.Fields [s923])]⟩ : St) _
     refine at_in (s_tr (s_mv rfl (at_lt (lt_add rfl rfl (by simp only [lo, hi]; omega)) rfl (s_as rfl (at_nil (at_int .i64 (x927 + 1 : Int) (by simp only [lo, hi]; omega) ?_))))))
     exact at_again (σ := Nat) (V := Unit) (lp := fun n s => m12_l1 a0 n s) (S := fun s e => (⟨[(1, .int .i64 a1), (2, .pointer (some (Addr.add ⟨b926, 0, none⟩ 0))), (5, .int .i64 (s : Int))], [⟨b926, [.int .i64 a0.ID, s923], 24⟩], [], [((Ty.int .i64).fact (s : Int) [.int .i64 (s : Int)]), ((Ty.int .i64).fact a1 [.int .i64 a1]), ((Ty.int .i64).fact a0.ID [.int .i64 a0.ID]), ((Ty.slice ty59).fact a0.Fields [s923])]⟩ : St)) (x927 + 1) () hr ⟨⟨rfl, ⟨rfl, ⟨rfl, trivial⟩⟩⟩, ⟨[true], rfl⟩, ⟨[], rfl⟩, ⟨[0, 1, 3, 4], rfl⟩⟩
    replace hr := ineg h944 hr
    refine at_on rfl rfl (nf (decide_eq_false (by omega))) ?_
    refine at_lt (lt_fieldAddr 3 rfl fld59_2 rfl) rfl ?_
    refine at_on rfl rfl (nf (decide_eq_false (by omega))) ?_
    refine at_lt (lt_load_box 0 rfl ti57 rfl rfl rfl rfl rfl) rfl ?_
    refine at_on rfl rfl (nf (decide_eq_false (by omega))) ?_
    refine at_lt (lt_flen 1 rfl rfl und57) rfl ?_
    refine at_on rfl rfl (nf (decide_eq_false (by omega))) ?_
    refine at_lt (lt_neq rfl rfl) rfl ?_
    refine at_lt (lt_pick true rfl (nf (decide_eq_false (by omega))) rfl) rfl ?_
    refine s_mv rfl ?_
    by_cases h976 : x934.Subs.length = 21
    ·replace hr := ipos h976 hr
     refine at_on rfl rfl (nt (decide_eq_true (by omega))) ?_
     refine at_lt (lt_fieldAddr 0 rfl fld59_0 rfl) rfl ?_
     refine at_on rfl rfl (nt (decide_eq_true (by omega))) ?_
     refine at_lt (lt_load_box 0 rfl ti9 rfl rfl rfl rfl rfl) rfl ?_
     refine at_inv 0 rfl (fun l977 => ?_)
     replace l977 : x934.Tag.length ≤ 9223372036854775807 := l977
     refine at_on rfl rfl (nt (decide_eq_true (by omega))) ?_
     refine at_lt (lt_slen rfl und9) rfl ?_
     refine at_on rfl rfl (nt (decide_eq_true (by omega))) ?_
     refine at_lt (lt_gtr rfl rfl) rfl ?_
     refine at_lt (lt_pick false rfl (nt (decide_eq_true (by omega))) rfl) rfl ?_
     refine s_nt ?_
     by_cases h978 : 20 < x934.Tag.length
     ·replace hr := ipos h978 hr
      refine at_true rfl (decide_eq_true (by omega)) ?_
      refine s_sr (s_as rfl (s_nt (at_ret ?_)))
      have hq := oinj hr
      clear hr
      subst hq
      have hq := oinj hk930
      clear hk930
      subst hq
      refine at_then_ret (at_in_ret (at_then_ret (at_then_ret (at_in_ret (at_then_ret (at_then_ret ?_))))))
      exact at_return (.bool false) [] hS Tryz.results12 (.cons (.tmp rfl) .nil) rfl rfl ⟨rfl, rfl⟩
     replace hr := ineg h978 hr
     refine at_false rfl (decide_eq_false (by omega)) ?_
     refine at_skip (s_tsr (s_as rfl (s_nt (at_int .i64 0 (by simp only [lo, hi]; omega) ?_))))
     replace hr := obind hr
     obtain ⟨r980, hl981, hk982⟩ := hr
     refine at_cutP (V := (Unit) × (Unit)) (fun v => r980 = Fl.go v.1) (fun v => (⟨[(1, .int .i64 a1), (2, .pointer (some (Addr.add ⟨b926, 0, none⟩ 0))), (5, .int .i64 (x927 : Int))], [⟨b926, [.int .i64 a0.ID, s923], 24⟩], [], [((Ty.int .i64).fact a1 [.int .i64 a1]), ((Ty.int .i64).fact (x927 : Int) [.int .i64 (x927 : Int)]), ((Ty.int .i64).fact a0.ID [.int .i64 a0.ID]), ((Ty.slice ty59).fact a0.Fields [s923])]⟩ : St)) ?_ ?_
     ·refine at_block ?_
      refine at_loopW (σ := Nat) (V := Unit) (r := r980) (fun n s => m12_l3 x934 n s) (fun s e => (⟨[(1, .int .i64 a1), (2, .pointer (some (Addr.add ⟨b926, 0, none⟩ 0))), (5, .int .i64 (x927 : Int)), (6, .pointer (some (Addr.add ⟨b939, 0, none⟩ 0))), (7, .int .i64 (s : Int))], [⟨b939, [str x934.Tag, .int .u8 (x934.Ind_0.toNat : Int), .int .u8 (x934.Ind_1.toNat : Int), s936], 59⟩, ⟨b926, [.int .i64 a0.ID, s923], 24⟩], [], [((Ty.int .i64).fact (s : Int) [.int .i64 (s : Int)]), ((Ty.int .i64).fact a1 [.int .i64 a1]), ((Ty.int .i64).fact (x927 : Int) [.int .i64 (x927 : Int)]), ((Ty.int .i64).fact a0.ID [.int .i64 a0.ID]), ((Ty.slice ty59).fact a0.Fields [s923]), (Ty.str.fact x934.Tag [str x934.Tag]), ((Ty.slice ty67).fact x934.Subs [s936])]⟩ : St)) (fun _ => rfl) _ 0 () hl981 ⟨⟨rfl, ⟨rfl, ⟨rfl, ⟨rfl, ⟨rfl, trivial⟩⟩⟩⟩⟩, ⟨[true, true], rfl⟩, ⟨[], rfl⟩, ⟨[0, 6, 5, 7, 8, 1, 2], rfl⟩⟩ ?_
      clear hl981
      intro n x979 hr e
      skip
      skip
      change m12_l3 x934 (n + 1) x979 = some r980 at hr
      change At _ _ (⟨[(1, .int .i64 a1), (2, .pointer (some (Addr.add ⟨b926, 0, none⟩ 0))), (5, .int .i64 (x927 : Int)), (6, .pointer (some (Addr.add ⟨b939, 0, none⟩ 0))), (7, .int .i64 (x979 : Int))], [⟨b939, [str x934.Tag, .int .u8 (x934.Ind_0.toNat : Int), .int .u8 (x934.Ind_1.toNat : Int), s936], 59⟩, ⟨b926, [.int .i64 a0.ID, s923], 24⟩], [], [((Ty.int .i64).fact (x979 : Int) [.int .i64 (x979 : Int)]), ((Ty.int .i64).fact a1 [.int .i64 a1]), ((Ty.int .i64).fact (x927 : Int) [.int .i64 (x927 : Int)]), ((Ty.int .i64).fact a0.ID [.int .i64 a0.ID]), ((Ty.slice ty59).fact a0.Fields [s923]), (Ty.str.fact x934.Tag [str x934.Tag]), ((Ty.slice ty67).fact x934.Subs [s936])]⟩ : St) _
      rw [m12_l3] at hr
      refine at_seq (s_sr (s_mv rfl (at_lt (lt_fieldAddr 3 rfl fld59_2 rfl) rfl (at_lt (lt_load_box 0 rfl ti57 rfl rfl rfl rfl rfl) rfl (at_lt (lt_flen 6 rfl rfl und57) rfl (at_lt (lt_lss rfl rfl) rfl (s_nt ?_)))))))
      by_cases h983 : x979 < x934.Subs.length
      ·replace hr := ipos h983 hr
       refine at_true rfl (decide_eq_true (by omega)) ?_
       refine at_skip (at_then (at_seq (at_block (s_sr (at_lt (lt_fieldAddr 3 rfl fld59_2 rfl) rfl (at_lt (lt_load_box 0 rfl ti57 rfl rfl rfl rfl rfl) rfl (s_mv rfl ?_)))))))
       replace hr := obind hr
       obtain ⟨x984, h985, hr⟩ := hr
       have := (List.getElem?_eq_some_iff.1 h985).1
       refine at_elem 6 rfl (nat_at' h985) (fun p986 ec pa987 => ?_)
       refine at_open (A := Unit) 0 rfl _ _ (fun F w h => op67 h) ?_
       rintro _ rfl
       refine at_lt (lt_idx rfl rfl pa987 und57 ti67) rfl (at_lt (lt_fieldAddr 1 rfl fld67_1 rfl) rfl (at_lt (lt_load_peek 2 rfl ti9 rfl rfl rfl rfl rfl) rfl ?_))
       refine at_inv 0 rfl (fun l988 => ?_)
       replace l988 : x984.Value.length ≤ 9223372036854775807 := l988
       refine at_lt (lt_slen rfl und9) rfl (at_lt (lt_gtr rfl rfl) rfl (s_mv rfl ?_))
       by_cases h989 : 80 < x984.Value.length
       ·replace hr := ipos h989 hr
        refine at_on rfl rfl (decide_eq_true (by omega)) ?_
        refine at_lt (lt_fieldAddr 3 rfl fld59_2 rfl) rfl ?_
        refine at_on rfl rfl (decide_eq_true (by omega)) ?_
        refine at_lt (lt_load_box 0 rfl ti57 rfl rfl rfl rfl rfl) rfl ?_
        refine at_on rfl rfl (decide_eq_true (by omega)) ?_
        refine s_mv rfl ?_
        replace hr := obind hr
        obtain ⟨x990, h991, hr⟩ := hr
        have := (List.getElem?_eq_some_iff.1 h991).1
        refine at_elem 9 rfl (nat_at' h991) (fun p992 ec pa993 => ?_)
        refine at_open (A := Unit) 0 rfl _ _ (fun F w h => op67 h) ?_
        rintro _ rfl
        refine at_on rfl rfl (decide_eq_true (by omega)) ?_
        refine at_lt (lt_idx rfl rfl pa993 und57 ti67) rfl ?_
        refine at_on rfl rfl (decide_eq_true (by omega)) ?_
        refine at_lt (lt_fieldAddr 1 rfl fld67_1 rfl) rfl ?_
        refine at_on rfl rfl (decide_eq_true (by omega)) ?_
        refine at_lt (lt_load_peek 2 rfl ti9 rfl rfl rfl rfl rfl) rfl ?_
        refine at_inv 0 rfl (fun l994 => ?_)
        replace l994 : x990.Value.length ≤ 9223372036854775807 := l994
        refine at_on rfl rfl (decide_eq_true (by omega)) ?_
        refine at_lt (lt_slen rfl und9) rfl ?_
        refine at_on rfl rfl (decide_eq_true (by omega)) ?_
        refine at_lt (lt_lss rfl rfl) rfl ?_
        refine at_lt (lt_pick true rfl (decide_eq_true (by omega)) rfl) rfl ?_
        refine s_mv rfl ?_
        by_cases h995 : x990.Value.length < 400
        ·replace hr := ipos h995 hr
         refine at_off rfl rfl (decide_eq_true (by omega)) rfl ?_
         refine at_off rfl rfl (decide_eq_true (by omega)) rfl ?_
         refine at_off rfl rfl (decide_eq_true (by omega)) rfl ?_
         refine at_off rfl rfl (decide_eq_true (by omega)) rfl ?_
         refine at_off rfl rfl (decide_eq_true (by omega)) rfl ?_
         refine at_off rfl rfl (decide_eq_true (by omega)) rfl ?_
         refine at_off rfl rfl (decide_eq_true (by omega)) rfl ?_
         refine at_off rfl rfl (decide_eq_true (by omega)) rfl ?_
         refine at_lt (lt_pick true rfl (decide_eq_true (by omega)) rfl) rfl ?_
         refine s_nt (at_true rfl rfl (s_sr (s_as rfl (s_nt (at_ret ?_)))))
         have hq := oinj hr
         clear hr
         subst hq
         have hq := oinj hk982
         clear hk982
         subst hq
         have hq := oinj hk930
         clear hk930
         subst hq
         refine at_in_ret (at_then_ret (at_then_ret (at_in_ret (at_then_ret (at_in_ret (at_then_ret (at_then_ret (at_in_ret (at_then_ret ?_)))))))))
         refine at_then_ret ?_
         exact at_return (.bool false) [] hS Tryz.results12 (.cons (.tmp rfl) .nil) rfl rfl ⟨rfl, rfl⟩
        replace hr := ineg h995 hr
        refine at_on rfl rfl (decide_eq_false (by omega)) ?_
        refine at_lt (lt_fieldAddr 3 rfl fld59_2 rfl) rfl ?_
        refine at_on rfl rfl (decide_eq_false (by omega)) ?_
        refine at_lt (lt_load_box 0 rfl ti57 rfl rfl rfl rfl rfl) rfl ?_
        refine at_on rfl rfl (decide_eq_false (by omega)) ?_
        refine s_mv rfl ?_
        replace hr := obind hr
        obtain ⟨x996, h997, hr⟩ := hr
        have := (List.getElem?_eq_some_iff.1 h997).1
        refine at_elem 12 rfl (nat_at' h997) (fun p998 ec pa999 => ?_)
        refine at_open (A := Unit) 0 rfl _ _ (fun F w h => op67 h) ?_
        rintro _ rfl
        refine at_on rfl rfl (decide_eq_false (by omega)) ?_
        refine at_lt (lt_idx rfl rfl pa999 und57 ti67) rfl ?_
        refine at_on rfl rfl (decide_eq_false (by omega)) ?_
        refine at_lt (lt_fieldAddr 1 rfl fld67_1 rfl) rfl ?_
        refine at_on rfl rfl (decide_eq_false (by omega)) ?_
        refine at_lt (lt_load_peek 2 rfl ti9 rfl rfl rfl rfl rfl) rfl ?_
        refine at_inv 0 rfl (fun l1000 => ?_)
        replace l1000 : x996.Value.length ≤ 9223372036854775807 := l1000
        refine at_on rfl rfl (decide_eq_false (by omega)) ?_
        refine at_lt (lt_slen rfl und9) rfl ?_
        refine at_on rfl rfl (decide_eq_false (by omega)) ?_
        refine at_lt (lt_gtr rfl rfl) rfl ?_
        refine at_lt (lt_pick false rfl (decide_eq_false (by omega)) rfl) rfl ?_
        refine s_nt ?_
        by_cases h1001 : 402 < x996.Value.length
        ·replace hr := ipos h1001 hr
         refine at_true rfl (decide_eq_true (by omega)) ?_
         refine s_sr (s_as rfl (s_nt (at_ret ?_)))
         have hq := oinj hr
         clear hr
         subst hq
         have hq := oinj hk982
         clear hk982
         subst hq
         have hq := oinj hk930
         clear hk930
         subst hq
         refine at_in_ret (at_then_ret (at_then_ret (at_in_ret (at_then_ret (at_in_ret (at_then_ret (at_then_ret (at_in_ret (at_then_ret ?_)))))))))
         refine at_then_ret ?_
         exact at_return (.bool false) [] hS Tryz.results12 (.cons (.tmp rfl) .nil) rfl rfl ⟨rfl, rfl⟩
        replace hr := ineg h1001 hr
        refine at_false rfl (decide_eq_false (by omega)) ?_
        refine at_skip (at_in (s_tr (s_mv rfl (at_lt (lt_add rfl rfl (by simp only [lo, hi]; omega)) rfl (s_as rfl (at_nil (at_int .i64 (x979 + 1 : Int) (by simp only [lo, hi]; omega) ?_)))))))
        exact at_again (σ := Nat) (V := Unit) (lp := fun n s => m12_l3 x934 n s) (S := fun s e => (⟨[(1, .int .i64 a1), (2, .pointer (some (Addr.add ⟨b926, 0, none⟩ 0))), (5, .int .i64 (x927 : Int)), (6, .pointer (some (Addr.add ⟨b939, 0, none⟩ 0))), (7, .int .i64 (s : Int))], [⟨b939, [str x934.Tag, .int .u8 (x934.Ind_0.toNat : Int), .int .u8 (x934.Ind_1.toNat : Int), s936], 59⟩, ⟨b926, [.int .i64 a0.ID, s923], 24⟩], [], [((Ty.int .i64).fact (s : Int) [.int .i64 (s : Int)]), ((Ty.int .i64).fact a1 [.int .i64 a1]), ((Ty.int .i64).fact (x927 : Int) [.int .i64 (x927 : Int)]), ((Ty.int .i64).fact a0.ID [.int .i64 a0.ID]), ((Ty.slice ty59).fact a0.Fields [s923]), (Ty.str.fact x934.Tag [str x934.Tag]), ((Ty.slice ty67).fact x934.Subs [s936])]⟩ : St)) (x979 + 1) () hr ⟨⟨rfl, ⟨rfl, ⟨rfl, ⟨rfl, ⟨rfl, trivial⟩⟩⟩⟩⟩, ⟨[true, true], rfl⟩, ⟨[], rfl⟩, ⟨[0, 11, 12, 13, 14, 15, 16], rfl⟩⟩
       replace hr := ineg h989 hr
       refine at_off rfl rfl (decide_eq_false (by omega)) rfl ?_
       refine at_off rfl rfl (decide_eq_false (by omega)) rfl ?_
       refine at_off rfl rfl (decide_eq_false (by omega)) rfl ?_
       refine at_off rfl rfl (decide_eq_false (by omega)) rfl ?_
       refine at_off rfl rfl (decide_eq_false (by omega)) rfl ?_
       refine at_off rfl rfl (decide_eq_false (by omega)) rfl ?_
       refine at_off rfl rfl (decide_eq_false (by omega)) rfl ?_
       refine at_off rfl rfl (decide_eq_false (by omega)) rfl ?_
       refine at_lt (lt_pick false rfl (decide_eq_false (by omega)) rfl) rfl ?_
       refine s_mv rfl (at_on rfl rfl rfl (at_lt (lt_fieldAddr 3 rfl fld59_2 rfl) rfl (at_on rfl rfl rfl (at_lt (lt_load_box 0 rfl ti57 rfl rfl rfl rfl rfl) rfl (at_on rfl rfl rfl (s_mv rfl ?_))))))
       replace hr := obind hr
       obtain ⟨x1002, h1003, hr⟩ := hr
       have := (List.getElem?_eq_some_iff.1 h1003).1
       refine at_elem 9 rfl (nat_at' h1003) (fun p1004 ec pa1005 => ?_)
       refine at_open (A := Unit) 0 rfl _ _ (fun F w h => op67 h) ?_
       rintro _ rfl
       refine at_on rfl rfl rfl (at_lt (lt_idx rfl rfl pa1005 und57 ti67) rfl (at_on rfl rfl rfl (at_lt (lt_fieldAddr 1 rfl fld67_1 rfl) rfl (at_on rfl rfl rfl (at_lt (lt_load_peek 2 rfl ti9 rfl rfl rfl rfl rfl) rfl ?_)))))
       refine at_inv 0 rfl (fun l1006 => ?_)
       replace l1006 : x1002.Value.length ≤ 9223372036854775807 := l1006
       refine at_on rfl rfl rfl (at_lt (lt_slen rfl und9) rfl (at_on rfl rfl rfl (at_lt (lt_gtr rfl rfl) rfl (at_lt (lt_pick false rfl rfl rfl) rfl (s_nt ?_)))))
       by_cases h1007 : 402 < x1002.Value.length
       ·replace hr := ipos h1007 hr
        refine at_true rfl (decide_eq_true (by omega)) ?_
        refine s_sr (s_as rfl (s_nt (at_ret ?_)))
        have hq := oinj hr
        clear hr
        subst hq
        have hq := oinj hk982
        clear hk982
        subst hq
        have hq := oinj hk930
        clear hk930
        subst hq
        refine at_in_ret (at_then_ret (at_then_ret (at_in_ret (at_then_ret (at_in_ret (at_then_ret (at_then_ret (at_in_ret (at_then_ret ?_)))))))))
        refine at_then_ret ?_
        exact at_return (.bool false) [] hS Tryz.results12 (.cons (.tmp rfl) .nil) rfl rfl ⟨rfl, rfl⟩
       replace hr := ineg h1007 hr
       refine at_false rfl (decide_eq_false (by omega)) ?_
       refine at_skip (at_in (s_tr (s_mv rfl (at_lt (lt_add rfl rfl (by simp only [lo, hi]; omega)) rfl (s_as rfl (at_nil (at_int .i64 (x979 + 1 : Int) (by simp only [lo, hi]; omega) ?_)))))))
       exact at_again (σ := Nat) (V := Unit) (lp := fun n s => m12_l3 x934 n s) (S := fun s e => (⟨[(1, .int .i64 a1), (2, .pointer (some (Addr.add ⟨b926, 0, none⟩ 0))), (5, .int .i64 (x927 : Int)), (6, .pointer (some (Addr.add ⟨b939, 0, none⟩ 0))), (7, .int .i64 (s : Int))], [⟨b939, [str x934.Tag, .int .u8 (x934.Ind_0.toNat : Int), .int .u8 (x934.Ind_1.toNat : Int), s936], 59⟩, ⟨b926, [.int .i64 a0.ID, s923], 24⟩], [], [((Ty.int .i64).fact (s : Int) [.int .i64 (s : Int)]), ((Ty.int .i64).fact a1 [.int .i64 a1]), ((Ty.int .i64).fact (x927 : Int) [.int .i64 (x927 : Int)]), ((Ty.int .i64).fact a0.ID [.int .i64 a0.ID]), ((Ty.slice ty59).fact a0.Fields [s923]), (Ty.str.fact x934.Tag [str x934.Tag]), ((Ty.slice ty67).fact x934.Subs [s936])]⟩ : St)) (x979 + 1) () hr ⟨⟨rfl, ⟨rfl, ⟨rfl, ⟨rfl, ⟨rfl, trivial⟩⟩⟩⟩⟩, ⟨[true, true], rfl⟩, ⟨[], rfl⟩, ⟨[0, 8, 9, 10, 11, 12, 13], rfl⟩⟩
      replace hr := ineg h983 hr
      refine at_false rfl (decide_eq_false (by omega)) ?_
      refine at_exit (at_then_exit (at_then_exit (at_in_exit ?_)))
      have hq := oinj hr
      clear hr
      subst hq
      exact at_leafP ((), ()) rfl ⟨⟨rfl, ⟨rfl, ⟨rfl, trivial⟩⟩⟩, ⟨[false, true], rfl⟩, ⟨[], rfl⟩, ⟨[1, 2, 3, 4], rfl⟩⟩
     rintro ⟨_, _⟩ hp
     replace hr := hk982
     subst hp
     clear hl981
     change At _ _ (⟨[(1, .int .i64 a1), (2, .pointer (some (Addr.add ⟨b926, 0, none⟩ 0))), (5, .int .i64 (x927 : Int))], [⟨b926, [.int .i64 a0.ID, s923], 24⟩], [], [((Ty.int .i64).fact a1 [.int .i64 a1]), ((Ty.int .i64).fact (x927 : Int) [.int .i64 (x927 : Int)]), ((Ty.int .i64).fact a0.ID [.int .i64 a0.ID]), ((Ty.slice ty59).fact a0.Fields [s923])]⟩ : St) _
     refine at_in (s_tr (s_mv rfl (at_lt (lt_add rfl rfl (by simp only [lo, hi]; omega)) rfl (s_as rfl (at_nil (at_int .i64 (x927 + 1 : Int) (by simp only [lo, hi]; omega) ?_))))))
     exact at_again (σ := Nat) (V := Unit) (lp := fun n s => m12_l1 a0 n s) (S := fun s e => (⟨[(1, .int .i64 a1), (2, .pointer (some (Addr.add ⟨b926, 0, none⟩ 0))), (5, .int .i64 (s : Int))], [⟨b926, [.int .i64 a0.ID, s923], 24⟩], [], [((Ty.int .i64).fact (s : Int) [.int .i64 (s : Int)]), ((Ty.int .i64).fact a1 [.int .i64 a1]), ((Ty.int .i64).fact a0.ID [.int .i64 a0.ID]), ((Ty.slice ty59).fact a0.Fields [s923])]⟩ : St)) (x927 + 1) () hr ⟨⟨rfl, ⟨rfl, ⟨rfl, trivial⟩⟩⟩, ⟨[true], rfl⟩, ⟨[], rfl⟩, ⟨[0, 1, 3, 4], rfl⟩⟩
    replace hr := ineg h976 hr
    refine at_off rfl rfl (nf (decide_eq_false (by omega))) rfl ?_
    refine at_off rfl rfl (nf (decide_eq_false (by omega))) rfl ?_
    refine at_off rfl rfl (nf (decide_eq_false (by omega))) rfl ?_
    refine at_off rfl rfl (nf (decide_eq_false (by omega))) rfl ?_
    refine at_lt (lt_pick true rfl (nf (decide_eq_false (by omega))) rfl) rfl ?_
    refine s_nt (at_true rfl rfl (s_sr (s_as rfl (s_nt (at_ret ?_)))))
    have hq := oinj hr
    clear hr
    subst hq
    have hq := oinj hk930
    clear hk930
    subst hq
    refine at_then_ret (at_in_ret (at_then_ret (at_then_ret (at_in_ret (at_then_ret (at_then_ret ?_))))))
    exact at_return (.bool false) [] hS Tryz.results12 (.cons (.tmp rfl) .nil) rfl rfl ⟨rfl, rfl⟩
   replace hr := ineg h943 hr
   refine at_off rfl rfl (decide_eq_false (by omega)) rfl ?_
   refine at_off rfl rfl (decide_eq_false (by omega)) rfl ?_
   refine at_off rfl rfl (decide_eq_false (by omega)) rfl ?_
   refine at_off rfl rfl (decide_eq_false (by omega)) rfl ?_
   refine at_lt (lt_pick false rfl (decide_eq_false (by omega)) rfl) rfl ?_
   refine s_mv rfl (at_off rfl rfl rfl rfl (at_off rfl rfl rfl rfl (at_off rfl rfl rfl rfl (at_off rfl rfl rfl rfl (at_lt (lt_pick false rfl rfl rfl) rfl (s_mv rfl (at_on rfl rfl rfl (at_lt (lt_fieldAddr 0 rfl fld59_0 rfl) rfl (at_on rfl rfl rfl ?_)))))))))
   refine at_lt (lt_load_box 0 rfl ti9 rfl rfl rfl rfl rfl) rfl ?_
   refine at_inv 0 rfl (fun l1008 => ?_)
   replace l1008 : x934.Tag.length ≤ 9223372036854775807 := l1008
   refine at_on rfl rfl rfl (at_lt (lt_slen rfl und9) rfl (at_on rfl rfl rfl (at_lt (lt_gtr rfl rfl) rfl (at_lt (lt_pick false rfl rfl rfl) rfl (s_nt ?_)))))
   by_cases h1009 : 20 < x934.Tag.length
   ·replace hr := ipos h1009 hr
    refine at_true rfl (decide_eq_true (by omega)) ?_
    refine s_sr (s_as rfl (s_nt (at_ret ?_)))
    have hq := oinj hr
    clear hr
    subst hq
    have hq := oinj hk930
    clear hk930
    subst hq
    refine at_then_ret (at_in_ret (at_then_ret (at_then_ret (at_in_ret (at_then_ret (at_then_ret ?_))))))
    exact at_return (.bool false) [] hS Tryz.results12 (.cons (.tmp rfl) .nil) rfl rfl ⟨rfl, rfl⟩
   replace hr := ineg h1009 hr
   refine at_false rfl (decide_eq_false (by omega)) ?_
   refine at_skip (s_tsr (s_as rfl (s_nt (at_int .i64 0 (by simp only [lo, hi]; omega) ?_))))
   replace hr := obind hr
   obtain ⟨r1011, hl1012, hk1013⟩ := hr
   refine at_cutP (V := (Unit) × (Unit)) (fun v => r1011 = Fl.go v.1) (fun v => (⟨[(1, .int .i64 a1), (2, .pointer (some (Addr.add ⟨b926, 0, none⟩ 0))), (5, .int .i64 (x927 : Int))], [⟨b926, [.int .i64 a0.ID, s923], 24⟩], [], [((Ty.int .i64).fact a1 [.int .i64 a1]), ((Ty.int .i64).fact (x927 : Int) [.int .i64 (x927 : Int)]), ((Ty.int .i64).fact a0.ID [.int .i64 a0.ID]), ((Ty.slice ty59).fact a0.Fields [s923])]⟩ : St)) ?_ ?_
   ·refine at_block ?_
    refine at_loopW (σ := Nat) (V := Unit) (r := r1011) (fun n s => m12_l4 x934 n s) (fun s e => (⟨[(1, .int .i64 a1), (2, .pointer (some (Addr.add ⟨b926, 0, none⟩ 0))), (5, .int .i64 (x927 : Int)), (6, .pointer (some (Addr.add ⟨b939, 0, none⟩ 0))), (7, .int .i64 (s : Int))], [⟨b939, [str x934.Tag, .int .u8 (x934.Ind_0.toNat : Int), .int .u8 (x934.Ind_1.toNat : Int), s936], 59⟩, ⟨b926, [.int .i64 a0.ID, s923], 24⟩], [], [((Ty.int .i64).fact (s : Int) [.int .i64 (s : Int)]), ((Ty.int .i64).fact a1 [.int .i64 a1]), ((Ty.int .i64).fact (x927 : Int) [.int .i64 (x927 : Int)]), ((Ty.int .i64).fact a0.ID [.int .i64 a0.ID]), ((Ty.slice ty59).fact a0.Fields [s923]), (Ty.str.fact x934.Tag [str x934.Tag]), ((Ty.slice ty67).fact x934.Subs [s936])]⟩ : St)) (fun _ => rfl) _ 0 () hl1012 ⟨⟨rfl, ⟨rfl, ⟨rfl, ⟨rfl, ⟨rfl, trivial⟩⟩⟩⟩⟩, ⟨[true, true], rfl⟩, ⟨[], rfl⟩, ⟨[0, 6, 5, 7, 8, 1, 2], rfl⟩⟩ ?_
    clear hl1012
    intro n x1010 hr e
    skip
    skip
    change m12_l4 x934 (n + 1) x1010 = some r1011 at hr
    change At _ _ (⟨[(1, .int .i64 a1), (2, .pointer (some (Addr.add ⟨b926, 0, none⟩ 0))), (5, .int .i64 (x927 : Int)), (6, .pointer (some (Addr.add ⟨b939, 0, none⟩ 0))), (7, .int .i64 (x1010 : Int))], [⟨b939, [str x934.Tag, .int .u8 (x934.Ind_0.toNat : Int), .int .u8 (x934.Ind_1.toNat : Int), s936], 59⟩, ⟨b926, [.int .i64 a0.ID, s923], 24⟩], [], [((Ty.int .i64).fact (x1010 : Int) [.int .i64 (x1010 : Int)]), ((Ty.int .i64).fact a1 [.int .i64 a1]), ((Ty.int .i64).fact (x927 : Int) [.int .i64 (x927 : Int)]), ((Ty.int .i64).fact a0.ID [.int .i64 a0.ID]), ((Ty.slice ty59).fact a0.Fields [s923]), (Ty.str.fact x934.Tag [str x934.Tag]), ((Ty.slice ty67).fact x934.Subs [s936])]⟩ : St) _
    rw [m12_l4] at hr
    refine at_seq (s_sr (s_mv rfl (at_lt (lt_fieldAddr 3 rfl fld59_2 rfl) rfl (at_lt (lt_load_box 0 rfl ti57 rfl rfl rfl rfl rfl) rfl (at_lt (lt_flen 6 rfl rfl und57) rfl (at_lt (lt_lss rfl rfl) rfl (s_nt ?_)))))))
    by_cases h1014 : x1010 < x934.Subs.length
    ·replace hr := ipos h1014 hr
     refine at_true rfl (decide_eq_true (by omega)) ?_
     refine at_skip (at_then (at_seq (at_block (s_sr (at_lt (lt_fieldAddr 3 rfl fld59_2 rfl) rfl (at_lt (lt_load_box 0 rfl ti57 rfl rfl rfl rfl rfl) rfl (s_mv rfl ?_)))))))
     replace hr := obind hr
     obtain ⟨x1015, h1016, hr⟩ := hr
     have := (List.getElem?_eq_some_iff.1 h1016).1
     refine at_elem 6 rfl (nat_at' h1016) (fun p1017 ec pa1018 => ?_)
     refine at_open (A := Unit) 0 rfl _ _ (fun F w h => op67 h) ?_
     rintro _ rfl
     refine at_lt (lt_idx rfl rfl pa1018 und57 ti67) rfl (at_lt (lt_fieldAddr 1 rfl fld67_1 rfl) rfl (at_lt (lt_load_peek 2 rfl ti9 rfl rfl rfl rfl rfl) rfl ?_))
     refine at_inv 0 rfl (fun l1019 => ?_)
     replace l1019 : x1015.Value.length ≤ 9223372036854775807 := l1019
     refine at_lt (lt_slen rfl und9) rfl (at_lt (lt_gtr rfl rfl) rfl (s_mv rfl ?_))
     by_cases h1020 : 80 < x1015.Value.length
     ·replace hr := ipos h1020 hr
      refine at_on rfl rfl (decide_eq_true (by omega)) ?_
      refine at_lt (lt_fieldAddr 3 rfl fld59_2 rfl) rfl ?_
      refine at_on rfl rfl (decide_eq_true (by omega)) ?_
      refine at_lt (lt_load_box 0 rfl ti57 rfl rfl rfl rfl rfl) rfl ?_
      refine at_on rfl rfl (decide_eq_true (by omega)) ?_
      refine s_mv rfl ?_
      replace hr := obind hr
      obtain ⟨x1021, h1022, hr⟩ := hr
      have := (List.getElem?_eq_some_iff.1 h1022).1
      refine at_elem 9 rfl (nat_at' h1022) (fun p1023 ec pa1024 => ?_)
      refine at_open (A := Unit) 0 rfl _ _ (fun F w h => op67 h) ?_
      rintro _ rfl
      refine at_on rfl rfl (decide_eq_true (by omega)) ?_
      refine at_lt (lt_idx rfl rfl pa1024 und57 ti67) rfl ?_
      refine at_on rfl rfl (decide_eq_true (by omega)) ?_
      refine at_lt (lt_fieldAddr 1 rfl fld67_1 rfl) rfl ?_
      refine at_on rfl rfl (decide_eq_true (by omega)) ?_
      refine at_lt (lt_load_peek 2 rfl ti9 rfl rfl rfl rfl rfl) rfl ?_
      refine at_inv 0 rfl (fun l1025 => ?_)
      replace l1025 : x1021.Value.length ≤ 9223372036854775807 := l1025
      refine at_on rfl rfl (decide_eq_true (by omega)) ?_
      refine at_lt (lt_slen rfl und9) rfl ?_
      refine at_on rfl rfl (decide_eq_true (by omega)) ?_
      refine at_lt (lt_lss rfl rfl) rfl ?_
      refine at_lt (lt_pick true rfl (decide_eq_true (by omega)) rfl) rfl ?_
      refine s_mv rfl ?_
      by_cases h1026 : x1021.Value.length < 400
      ·replace hr := ipos h1026 hr
       refine at_off rfl rfl (decide_eq_true (by omega)) rfl ?_
       refine at_off rfl rfl (decide_eq_true (by omega)) rfl ?_
       refine at_off rfl rfl (decide_eq_true (by omega)) rfl ?_
       refine at_off rfl rfl (decide_eq_true (by omega)) rfl ?_
       refine at_off rfl rfl (decide_eq_true (by omega)) rfl ?_
       refine at_off rfl rfl (decide_eq_true (by omega)) rfl ?_
       refine at_off rfl rfl (decide_eq_true (by omega)) rfl ?_
       refine at_off rfl rfl (decide_eq_true (by omega)) rfl ?_
       refine at_lt (lt_pick true rfl (decide_eq_true (by omega)) rfl) rfl ?_
       refine s_nt (at_true rfl rfl (s_sr (s_as rfl (s_nt (at_ret ?_)))))
       have hq := oinj hr
       clear hr
       subst hq
       have hq := oinj hk1013
       clear hk1013
       subst hq
       have hq := oinj hk930
       clear hk930
       subst hq
       refine at_in_ret (at_then_ret (at_then_ret (at_in_ret (at_then_ret (at_in_ret (at_then_ret (at_then_ret (at_in_ret (at_then_ret ?_)))))))))
       refine at_then_ret ?_
       exact at_return (.bool false) [] hS Tryz.results12 (.cons (.tmp rfl) .nil) rfl rfl ⟨rfl, rfl⟩
      replace hr := ineg h1026 hr
      refine at_on rfl rfl (decide_eq_false (by omega)) ?_
      refine at_lt (lt_fieldAddr 3 rfl fld59_2 rfl) rfl ?_
      refine at_on rfl rfl (decide_eq_false (by omega)) ?_
      refine at_lt (lt_load_box 0 rfl ti57 rfl rfl rfl rfl rfl) rfl ?_
      refine at_on rfl rfl (decide_eq_false (by omega)) ?_
      refine s_mv rfl ?_
      replace hr := obind hr
      obtain ⟨x1027, h1028, hr⟩ := hr
      have := (List.getElem?_eq_some_iff.1 h1028).1
      refine at_elem 12 rfl (nat_at' h1028) (fun p1029 ec pa1030 => ?_)
      refine at_open (A := Unit) 0 rfl _ _ (fun F w h => op67 h) ?_
      rintro _ rfl
      refine at_on rfl rfl (decide_eq_false (by omega)) ?_
      refine at_lt (lt_idx rfl rfl pa1030 und57 ti67) rfl ?_
      refine at_on rfl rfl (decide_eq_false (by omega)) ?_
      refine at_lt (lt_fieldAddr 1 rfl fld67_1 rfl) rfl ?_
      refine at_on rfl rfl (decide_eq_false (by omega)) ?_
      refine at_lt (lt_load_peek 2 rfl ti9 rfl rfl rfl rfl rfl) rfl ?_
      refine at_inv 0 rfl (fun l1031 => ?_)
      replace l1031 : x1027.Value.length ≤ 9223372036854775807 := l1031
      refine at_on rfl rfl (decide_eq_false (by omega)) ?_
      refine at_lt (lt_slen rfl und9) rfl ?_
      refine at_on rfl rfl (decide_eq_false (by omega)) ?_
      refine at_lt (lt_gtr rfl rfl) rfl ?_
      refine at_lt (lt_pick false rfl (decide_eq_false (by omega)) rfl) rfl ?_
      refine s_nt ?_
      by_cases h1032 : 402 < x1027.Value.length
      ·replace hr := ipos h1032 hr
       refine at_true rfl (decide_eq_true (by omega)) ?_
       refine s_sr (s_as rfl (s_nt (at_ret ?_)))
       have hq := oinj hr
       clear hr
       subst hq
       have hq := oinj hk1013
       clear hk1013
       subst hq
       have hq := oinj hk930
       clear hk930
       subst hq
       refine at_in_ret (at_then_ret (at_then_ret (at_in_ret (at_then_ret (at_in_ret (at_then_ret (at_then_ret (at_in_ret (at_then_ret ?_)))))))))
       refine at_then_ret ?_
       exact at_return (.bool false) [] hS Tryz.results12 (.cons (.tmp rfl) .nil) rfl rfl ⟨rfl, rfl⟩
      replace hr := ineg h1032 hr
      refine at_false rfl (decide_eq_false (by omega)) ?_
      refine at_skip (at_in (s_tr (s_mv rfl (at_lt (lt_add rfl rfl (by simp only [lo, hi]; omega)) rfl (s_as rfl (at_nil (at_int .i64 (x1010 + 1 : Int) (by simp only [lo, hi]; omega) ?_)))))))
      exact at_again (σ := Nat) (V := Unit) (lp := fun n s => m12_l4 x934 n s) (S := fun s e => (⟨[(1, .int .i64 a1), (2, .pointer (some (Addr.add ⟨b926, 0, none⟩ 0))), (5, .int .i64 (x927 : Int)), (6, .pointer (some (Addr.add ⟨b939, 0, none⟩ 0))), (7, .int .i64 (s : Int))], [⟨b939, [str x934.Tag, .int .u8 (x934.Ind_0.toNat : Int), .int .u8 (x934.Ind_1.toNat : Int), s936], 59⟩, ⟨b926, [.int .i64 a0.ID, s923], 24⟩], [], [((Ty.int .i64).fact (s : Int) [.int .i64 (s : Int)]), ((Ty.int .i64).fact a1 [.int .i64 a1]), ((Ty.int .i64).fact (x927 : Int) [.int .i64 (x927 : Int)]), ((Ty.int .i64).fact a0.ID [.int .i64 a0.ID]), ((Ty.slice ty59).fact a0.Fields [s923]), (Ty.str.fact x934.Tag [str x934.Tag]), ((Ty.slice ty67).fact x934.Subs [s936])]⟩ : St)) (x1010 + 1) () hr ⟨⟨rfl, ⟨rfl, ⟨rfl, ⟨rfl, ⟨rfl, trivial⟩⟩⟩⟩⟩, ⟨[true, true], rfl⟩, ⟨[], rfl⟩, ⟨[0, 11, 12, 13, 14, 15, 16], rfl⟩⟩
     replace hr := ineg h1020 hr
     refine at_off rfl rfl (decide_eq_false (by omega)) rfl ?_
     refine at_off rfl rfl (decide_eq_false (by omega)) rfl ?_
     refine at_off rfl rfl (decide_eq_false (by omega)) rfl ?_
     refine at_off rfl rfl (decide_eq_false (by omega)) rfl ?_
     refine at_off rfl rfl (decide_eq_false (by omega)) rfl ?_
     refine at_off rfl rfl (decide_eq_false (by omega)) rfl ?_
     refine at_off rfl rfl (decide_eq_false (by omega)) rfl ?_
     refine at_off rfl rfl (decide_eq_false (by omega)) rfl ?_
     refine at_lt (lt_pick false rfl (decide_eq_false (by omega)) rfl) rfl ?_
     refine s_mv rfl (at_on rfl rfl rfl (at_lt (lt_fieldAddr 3 rfl fld59_2 rfl) rfl (at_on rfl rfl rfl (at_lt (lt_load_box 0 rfl ti57 rfl rfl rfl rfl rfl) rfl (at_on rfl rfl rfl (s_mv rfl ?_))))))
     replace hr := obind hr
     obtain ⟨x1033, h1034, hr⟩ := hr
     have := (List.getElem?_eq_some_iff.1 h1034).1
     refine at_elem 9 rfl (nat_at' h1034) (fun p1035 ec pa1036 => ?_)
     refine at_open (A := Unit) 0 rfl _ _ (fun F w h => op67 h) ?_
     rintro _ rfl
     refine at_on rfl rfl rfl (at_lt (lt_idx rfl rfl pa1036 und57 ti67) rfl (at_on rfl rfl rfl (at_lt (lt_fieldAddr 1 rfl fld67_1 rfl) rfl (at_on rfl rfl rfl (at_lt (lt_load_peek 2 rfl ti9 rfl rfl rfl rfl rfl) rfl ?_)))))
     refine at_inv 0 rfl (fun l1037 => ?_)
     replace l1037 : x1033.Value.length ≤ 9223372036854775807 := l1037
     refine at_on rfl rfl rfl (at_lt (lt_slen rfl und9) rfl (at_on rfl rfl rfl (at_lt (lt_gtr rfl rfl) rfl (at_lt (lt_pick false rfl rfl rfl) rfl (s_nt ?_)))))
     by_cases h1038 : 402 < x1033.Value.length
     ·replace hr := ipos h1038 hr
      refine at_true rfl (decide_eq_true (by omega)) ?_
      refine s_sr (s_as rfl (s_nt (at_ret ?_)))
      have hq := oinj hr
      clear hr
      subst hq
      have hq := oinj hk1013
      clear hk1013
      subst hq
      have hq := oinj hk930
      clear hk930
      subst hq
      refine at_in_ret (at_then_ret (at_then_ret (at_in_ret (at_then_ret (at_in_ret (at_then_ret (at_then_ret (at_in_ret (at_then_ret ?_)))))))))
      refine at_then_ret ?_
      exact at_return (.bool false) [] hS Tryz.results12 (.cons (.tmp rfl) .nil) rfl rfl ⟨rfl, rfl⟩
     replace hr := ineg h1038 hr
     refine at_false rfl (decide_eq_false (by omega)) ?_
     refine at_skip (at_in (s_tr (s_mv rfl (at_lt (lt_add rfl rfl (by simp only [lo, hi]; omega)) rfl (s_as rfl (at_nil (at_int .i64 (x1010 + 1 : Int) (by simp only [lo, hi]; omega) ?_)))))))
     exact at_again (σ := Nat) (V := Unit) (lp := fun n s => m12_l4 x934 n s) (S := fun s e => (⟨[(1, .int .i64 a1), (2, .pointer (some (Addr.add ⟨b926, 0, none⟩ 0))), (5, .int .i64 (x927 : Int)), (6, .pointer (some (Addr.add ⟨b939, 0, none⟩ 0))), (7, .int .i64 (s : Int))], [⟨b939, [str x934.Tag, .int .u8 (x934.Ind_0.toNat : Int), .int .u8 (x934.Ind_1.toNat : Int), s936], 59⟩, ⟨b926, [.int .i64 a0.ID, s923], 24⟩], [], [((Ty.int .i64).fact (s : Int) [.int .i64 (s : Int)]), ((Ty.int .i64).fact a1 [.int .i64 a1]), ((Ty.int .i64).fact (x927 : Int) [.int .i64 (x927 : Int)]), ((Ty.int .i64).fact a0.ID [.int .i64 a0.ID]), ((Ty.slice ty59).fact a0.Fields [s923]), (Ty.str.fact x934.Tag [str x934.Tag]), ((Ty.slice ty67).fact x934.Subs [s936])]⟩ : St)) (x1010 + 1) () hr ⟨⟨rfl, ⟨rfl, ⟨rfl, ⟨rfl, ⟨rfl, trivial⟩⟩⟩⟩⟩, ⟨[true, true], rfl⟩, ⟨[], rfl⟩, ⟨[0, 8, 9, 10, 11, 12, 13], rfl⟩⟩
    replace hr := ineg h1014 hr
    refine at_false rfl (decide_eq_false (by omega)) ?_
    refine at_exit (at_then_exit (at_then_exit (at_in_exit ?_)))
    have hq := oinj hr
    clear hr
    subst hq
    exact at_leafP ((), ()) rfl ⟨⟨rfl, ⟨rfl, ⟨rfl, trivial⟩⟩⟩, ⟨[false, true], rfl⟩, ⟨[], rfl⟩, ⟨[1, 2, 3, 4], rfl⟩⟩
   rintro ⟨_, _⟩ hp
   replace hr := hk1013
   subst hp
   clear hl1012
   change At _ _ (⟨[(1, .int .i64 a1), (2, .pointer (some (Addr.add ⟨b926, 0, none⟩ 0))), (5, .int .i64 (x927 : Int))], [⟨b926, [.int .i64 a0.ID, s923], 24⟩], [], [((Ty.int .i64).fact a1 [.int .i64 a1]), ((Ty.int .i64).fact (x927 : Int) [.int .i64 (x927 : Int)]), ((Ty.int .i64).fact a0.ID [.int .i64 a0.ID]), ((Ty.slice ty59).fact a0.Fields [s923])]⟩ : St) _
   refine at_in (s_tr (s_mv rfl (at_lt (lt_add rfl rfl (by simp only [lo, hi]; omega)) rfl (s_as rfl (at_nil (at_int .i64 (x927 + 1 : Int) (by simp only [lo, hi]; omega) ?_))))))
   exact at_again (σ := Nat) (V := Unit) (lp := fun n s => m12_l1 a0 n s) (S := fun s e => (⟨[(1, .int .i64 a1), (2, .pointer (some (Addr.add ⟨b926, 0, none⟩ 0))), (5, .int .i64 (s : Int))], [⟨b926, [.int .i64 a0.ID, s923], 24⟩], [], [((Ty.int .i64).fact (s : Int) [.int .i64 (s : Int)]), ((Ty.int .i64).fact a1 [.int .i64 a1]), ((Ty.int .i64).fact a0.ID [.int .i64 a0.ID]), ((Ty.slice ty59).fact a0.Fields [s923])]⟩ : St)) (x927 + 1) () hr ⟨⟨rfl, ⟨rfl, ⟨rfl, trivial⟩⟩⟩, ⟨[true], rfl⟩, ⟨[], rfl⟩, ⟨[0, 1, 3, 4], rfl⟩⟩
  replace hr := ineg h933 hr
  refine at_false rfl (decide_eq_false (by omega)) ?_
  refine at_exit (at_then_exit (at_then_exit (at_in_exit ?_)))
  have hq := oinj hr
  clear hr
  subst hq
  exact at_leafP ((), ()) rfl ⟨⟨rfl, ⟨rfl, trivial⟩⟩, ⟨[true], rfl⟩, ⟨[], rfl⟩, ⟨[1, 2, 3], rfl⟩⟩
 rintro ⟨_, _⟩ hp
 replace hr := hk930
 subst hp
 clear hl929
 change At _ _ (⟨[(1, .int .i64 a1), (2, .pointer (some (Addr.add ⟨b926, 0, none⟩ 0)))], [⟨b926, [.int .i64 a0.ID, s923], 24⟩], [], [((Ty.int .i64).fact a1 [.int .i64 a1]), ((Ty.int .i64).fact a0.ID [.int .i64 a0.ID]), ((Ty.slice ty59).fact a0.Fields [s923])]⟩ : St) _
 refine s_tsr (at_lt (lt_fieldAddr 1 rfl fld24_1 rfl) rfl (at_lt (lt_load_box 0 rfl ti22 rfl rfl rfl rfl rfl) rfl ?_))
 refine at_inv 2 rfl (fun i1039 => ?_)
 have l1040 := slice_len i1039
 refine at_lt (lt_flen 2 rfl rfl und22) rfl (s_mv rfl (at_lt (lt_leq rfl rfl) rfl (s_as rfl (s_nt (at_ret ?_)))))
 have hq := oinj hr
 clear hr
 subst hq
 exact at_return (.bool (decide ((a0.Fields.length : Int) ≤ a1))) [] hS Tryz.results12 (.cons (.tmp rfl) .nil) rfl rfl ⟨rfl, rfl⟩
def m84 (a0 : UInt8) : Option Bool :=
  if 48 ≤ a0.toNat then
   some (decide ((a0.toNat : Int) ≤ 57))
  else
   some false
def post84 (r : Bool) (v : Value) (fs : List Fact) : Prop := v = .bool r ∧ fs = []
theorem en84 : Enters Tryz.prog 84 := ⟨_, Tryz.func84, by kernel_rfl, rfl⟩
theorem f84_spec {a0 : UInt8} {r : Bool} (hr : m84 a0 = some r) : Spec Tryz.prog 84 [.int .u8 (a0.toNat : Int)] [] (post84 r) := by
 refine spec_start (N := 9) Tryz.func84 (by kernel_rfl) rfl rfl rfl ?_
 intro g hS
 unfold m84 at hr
 refine s_sr (s_as rfl (s_ntsr (s_mv rfl (at_lt (lt_geq rfl rfl) rfl (s_mv rfl ?_)))))
 by_cases h1041 : 48 ≤ a0.toNat
 ·replace hr := ipos h1041 hr
  refine at_on rfl rfl (decide_eq_true (by omega)) ?_
  refine s_mv rfl ?_
  refine at_on rfl rfl (decide_eq_true (by omega)) ?_
  refine at_lt (lt_leq rfl rfl) rfl ?_
  refine at_lt (lt_pick true rfl (decide_eq_true (by omega)) rfl) rfl ?_
  refine s_as rfl (s_nt (at_ret ?_))
  have hq := oinj hr
  clear hr
  subst hq
  exact at_return (.bool (decide ((a0.toNat : Int) ≤ 57))) [] hS Tryz.results84 (.cons (.tmp rfl) .nil) rfl rfl ⟨rfl, rfl⟩
 replace hr := ineg h1041 hr
 refine at_off rfl rfl (decide_eq_false (by omega)) rfl ?_
 refine at_off rfl rfl (decide_eq_false (by omega)) rfl ?_
 refine at_lt (lt_pick false rfl (decide_eq_false (by omega)) rfl) rfl ?_
 refine s_as rfl (s_nt (at_ret ?_))
 have hq := oinj hr
 clear hr
 subst hq
 exact at_return (.bool false) [] hS Tryz.results84 (.cons (.tmp rfl) .nil) rfl rfl ⟨rfl, rfl⟩
def m39 (a0 : Str) : Option Bool :=
  if a0.length = 3 then
   (a0[0]?).bind fun c1044 =>
   (m84 c1044).bind fun x1046 =>
   if x1046 = true then
    (a0[1]?).bind fun c1049 =>
    (m84 c1049).bind fun x1051 =>
    if x1051 = true then
     (a0[2]?).bind fun c1054 =>
     (m84 c1054).bind fun x1056 =>
     if x1056 = true then
      some (!decide (a0 = ([48, 48, 48] : Str)))
     else
      some false
    else
     some false
   else
    some false
  else
   some false
def post39 (r : Bool) (v : Value) (fs : List Fact) : Prop := v = .bool r ∧ fs = []
theorem en39 : Enters Tryz.prog 39 := ⟨_, Tryz.func39, by kernel_rfl, rfl⟩
theorem f39_spec {a0 : Str} {r : Bool} (hr : m39 a0 = some r) : Spec Tryz.prog 39 [str a0] [(Ty.str.fact a0 [str a0])] (post39 r) := by
 refine spec_start (N := 25) Tryz.func39 (by kernel_rfl) rfl rfl rfl ?_
 intro g hS
 unfold m39 at hr
 refine s_sr (s_as rfl (s_ntsr (s_mv rfl ?_)))
 refine at_inv 0 rfl (fun l1042 => ?_)
 replace l1042 : a0.length ≤ 9223372036854775807 := l1042
 refine at_lt (lt_slen rfl und9) rfl (at_lt (lt_eql rfl rfl) rfl (s_mv rfl ?_))
 by_cases h1043 : a0.length = 3
 ·replace hr := ipos h1043 hr
  refine at_on rfl rfl (decide_eq_true (by omega)) ?_
  refine s_mv rfl ?_
  replace hr := obind hr
  obtain ⟨c1044, h1045, hr⟩ := hr
  have := (List.getElem?_eq_some_iff.1 h1045).1
  have := c1044.toNat_lt
  refine at_on rfl rfl (decide_eq_true (by omega)) ?_
  refine at_lt (lt_sidx rfl rfl und9 (by omega) h1045) rfl ?_
  replace hr := obind hr
  obtain ⟨x1046, h1047, hr⟩ := hr
  refine at_on rfl rfl (decide_eq_true (by omega)) ?_
  refine at_hv rfl (hv_call0 [] (f84_spec h1047) rfl rfl rfl rfl ?_)
  rintro _ _ ⟨rfl, rfl⟩
  refine at_lt (lt_pick true rfl (decide_eq_true (by omega)) rfl) rfl ?_
  refine s_mv rfl ?_
  by_cases h1048 : x1046 = true
  ·replace hr := ipos h1048 hr
   refine at_on rfl rfl h1048 (s_mv rfl ?_)
   replace hr := obind hr
   obtain ⟨c1049, h1050, hr⟩ := hr
   have := (List.getElem?_eq_some_iff.1 h1050).1
   have := c1049.toNat_lt
   refine at_on rfl rfl h1048 ?_
   refine at_lt (lt_sidx rfl rfl und9 (by omega) h1050) rfl ?_
   replace hr := obind hr
   obtain ⟨x1051, h1052, hr⟩ := hr
   refine at_on rfl rfl h1048 (at_hv rfl (hv_call0 [] (f84_spec h1052) rfl rfl rfl rfl ?_))
   rintro _ _ ⟨rfl, rfl⟩
   refine at_lt (lt_pick true rfl h1048 rfl) rfl (s_mv rfl ?_)
   by_cases h1053 : x1051 = true
   ·replace hr := ipos h1053 hr
    refine at_on rfl rfl h1053 (s_mv rfl ?_)
    replace hr := obind hr
    obtain ⟨c1054, h1055, hr⟩ := hr
    have := (List.getElem?_eq_some_iff.1 h1055).1
    have := c1054.toNat_lt
    refine at_on rfl rfl h1053 ?_
    refine at_lt (lt_sidx rfl rfl und9 (by omega) h1055) rfl ?_
    replace hr := obind hr
    obtain ⟨x1056, h1057, hr⟩ := hr
    refine at_on rfl rfl h1053 (at_hv rfl (hv_call0 [] (f84_spec h1057) rfl rfl rfl rfl ?_))
    rintro _ _ ⟨rfl, rfl⟩
    refine at_lt (lt_pick true rfl h1053 rfl) rfl (s_mv rfl ?_)
    by_cases h1058 : x1056 = true
    ·replace hr := ipos h1058 hr
     refine at_on rfl rfl h1058 (s_mv rfl (at_on rfl rfl h1058 (at_lt (lt_sneq rfl rfl) rfl (at_lt (lt_pick true rfl h1058 rfl) rfl (s_as rfl (s_nt (at_ret ?_)))))))
     have hq := oinj hr
     clear hr
     subst hq
     exact at_return (.bool (!decide (a0 = ([48, 48, 48] : Str)))) [] hS Tryz.results39 (.cons (.tmp rfl) .nil) rfl rfl ⟨rfl, rfl⟩
    replace hr := ineg h1058 hr
    refine at_off rfl rfl (bf h1058) rfl (at_off rfl rfl (bf h1058) rfl (at_lt (lt_pick false rfl (bf h1058) rfl) rfl (s_as rfl (s_nt (at_ret ?_)))))
    have hq := oinj hr
    clear hr
    subst hq
    exact at_return (.bool false) [] hS Tryz.results39 (.cons (.tmp rfl) .nil) rfl rfl ⟨rfl, rfl⟩
   replace hr := ineg h1053 hr
   refine at_off rfl rfl (bf h1053) rfl (at_off rfl rfl (bf h1053) rfl (at_off rfl rfl (bf h1053) rfl (at_lt (lt_pick false rfl (bf h1053) rfl) rfl (s_mv rfl (at_off rfl rfl rfl rfl (at_off rfl rfl rfl rfl (at_lt (lt_pick false rfl rfl rfl) rfl (s_as rfl (s_nt ?_)))))))))
   refine at_ret ?_
   have hq := oinj hr
   clear hr
   subst hq
   exact at_return (.bool false) [] hS Tryz.results39 (.cons (.tmp rfl) .nil) rfl rfl ⟨rfl, rfl⟩
  replace hr := ineg h1048 hr
  refine at_off rfl rfl (bf h1048) rfl (at_off rfl rfl (bf h1048) rfl (at_off rfl rfl (bf h1048) rfl (at_lt (lt_pick false rfl (bf h1048) rfl) rfl (s_mv rfl (at_off rfl rfl rfl rfl (at_off rfl rfl rfl rfl (at_off rfl rfl rfl rfl (at_lt (lt_pick false rfl rfl rfl) rfl (s_mv rfl ?_)))))))))
  refine at_off rfl rfl rfl rfl (at_off rfl rfl rfl rfl (at_lt (lt_pick false rfl rfl rfl) rfl (s_as rfl (s_nt (at_ret ?_)))))
  have hq := oinj hr
  clear hr
  subst hq
  exact at_return (.bool false) [] hS Tryz.results39 (.cons (.tmp rfl) .nil) rfl rfl ⟨rfl, rfl⟩
 replace hr := ineg h1043 hr
 refine at_off rfl rfl (decide_eq_false (by omega)) rfl ?_
 refine at_off rfl rfl (decide_eq_false (by omega)) rfl ?_
 refine at_off rfl rfl (decide_eq_false (by omega)) rfl ?_
 refine at_lt (lt_pick false rfl (decide_eq_false (by omega)) rfl) rfl ?_
 refine s_mv rfl (at_off rfl rfl rfl rfl (at_off rfl rfl rfl rfl (at_off rfl rfl rfl rfl (at_lt (lt_pick false rfl rfl rfl) rfl (s_mv rfl (at_off rfl rfl rfl rfl (at_off rfl rfl rfl rfl (at_off rfl rfl rfl rfl (at_lt (lt_pick false rfl rfl rfl) rfl ?_)))))))))
 refine s_mv rfl (at_off rfl rfl rfl rfl (at_off rfl rfl rfl rfl (at_lt (lt_pick false rfl rfl rfl) rfl (s_as rfl (s_nt (at_ret ?_))))))
 have hq := oinj hr
 clear hr
 subst hq
 exact at_return (.bool false) [] hS Tryz.results39 (.cons (.tmp rfl) .nil) rfl rfl ⟨rfl, rfl⟩
def m79 (a0 : UInt8) : Option Bool :=
  (m84 a0).bind fun x1059 =>
  if x1059 = true then
   some true
  else
   if 97 ≤ a0.toNat then
    some (decide ((a0.toNat : Int) ≤ 122))
   else
    some false
def post79 (r : Bool) (v : Value) (fs : List Fact) : Prop := v = .bool r ∧ fs = []
theorem en79 : Enters Tryz.prog 79 := ⟨_, Tryz.func79, by kernel_rfl, rfl⟩
theorem f79_spec {a0 : UInt8} {r : Bool} (hr : m79 a0 = some r) : Spec Tryz.prog 79 [.int .u8 (a0.toNat : Int)] [] (post79 r) := by
 refine spec_start (N := 13) Tryz.func79 (by kernel_rfl) rfl rfl rfl ?_
 intro g hS
 unfold m79 at hr
 refine s_sr (s_as rfl (s_ntsr (s_mv rfl ?_)))
 replace hr := obind hr
 obtain ⟨x1059, h1060, hr⟩ := hr
 refine at_hv rfl (hv_call0 [] (f84_spec h1060) rfl rfl rfl rfl ?_)
 rintro _ _ ⟨rfl, rfl⟩
 refine s_mv rfl ?_
 by_cases h1061 : x1059 = true
 ·replace hr := ipos h1061 hr
  refine at_off rfl rfl h1061 rfl (at_off rfl rfl h1061 rfl (at_off rfl rfl h1061 rfl (at_offu rfl rfl rfl (at_offu rfl rfl rfl (at_off rfl rfl h1061 rfl (at_lt (lt_pick true rfl h1061 rfl) rfl (s_as rfl (s_nt (at_ret ?_)))))))))
  have hq := oinj hr
  clear hr
  subst hq
  exact at_return (.bool true) [] hS Tryz.results79 (.cons (.tmp rfl) .nil) rfl rfl ⟨rfl, rfl⟩
 replace hr := ineg h1061 hr
 refine at_on rfl rfl (bf h1061) (s_mv rfl (at_on rfl rfl (bf h1061) (at_lt (lt_geq rfl rfl) rfl (at_on rfl rfl (bf h1061) (s_mv rfl ?_)))))
 by_cases h1062 : 97 ≤ a0.toNat
 ·replace hr := ipos h1062 hr
  refine at_on rfl rfl (decide_eq_true (by omega)) ?_
  refine s_mv rfl ?_
  refine at_on rfl rfl (decide_eq_true (by omega)) ?_
  refine at_lt (lt_leq rfl rfl) rfl (at_on rfl rfl (bf h1061) ?_)
  refine at_lt (lt_pick true rfl (decide_eq_true (by omega)) rfl) rfl ?_
  refine at_lt (lt_pick false rfl (bf h1061) rfl) rfl (s_as rfl (s_nt (at_ret ?_)))
  have hq := oinj hr
  clear hr
  subst hq
  exact at_return (.bool (decide ((a0.toNat : Int) ≤ 122))) [] hS Tryz.results79 (.cons (.tmp rfl) .nil) rfl rfl ⟨rfl, rfl⟩
 replace hr := ineg h1062 hr
 refine at_off rfl rfl (decide_eq_false (by omega)) rfl ?_
 refine at_off rfl rfl (decide_eq_false (by omega)) rfl ?_
 refine at_on rfl rfl (bf h1061) ?_
 refine at_lt (lt_pick false rfl (decide_eq_false (by omega)) rfl) rfl ?_
 refine at_lt (lt_pick false rfl (bf h1061) rfl) rfl (s_as rfl (s_nt (at_ret ?_)))
 have hq := oinj hr
 clear hr
 subst hq
 exact at_return (.bool false) [] hS Tryz.results79 (.cons (.tmp rfl) .nil) rfl rfl ⟨rfl, rfl⟩
def m151 (a0 : Str) (a1 : Int) : Option (Int × Int) :=
  (at? a0 a1).bind fun c1064 =>
  if c1064.toNat < 128 then
   some ((c1064.toNat : Int), 1)
  else
   Option.bind (α := Bool) (
    if 194 ≤ c1064.toNat then
     if c1064.toNat < 224 then
      if IntKind.i64.wrap (a1 + 1) < (a0.length : Int) then
       (at? a0 (IntKind.i64.wrap (a1 + 1))).bind fun c1073 =>
       some (decide (Int.fdiv (c1073.toNat : Int) (2 ^ (min 6 8)) = 2))
      else
       some false
     else
      some false
    else
     some false
   ) fun x1067 =>
   if x1067 = true then
    (at? a0 (IntKind.i64.wrap (a1 + 1))).bind fun c1076 =>
    some (IntKind.i64.wrap ((IntKind.i64.wrap (((c1064.toNat : Int) - 192) * 64)) + ((w8 ((c1076.toNat : Int) - 128)).toNat : Int)), 2)
   else
    Option.bind (α := Bool) (
     if 224 ≤ c1064.toNat then
      if c1064.toNat < 240 then
       if IntKind.i64.wrap (a1 + 2) < (a0.length : Int) then
        (at? a0 (IntKind.i64.wrap (a1 + 1))).bind fun c1084 =>
        if Int.fdiv (c1084.toNat : Int) (2 ^ (min 6 8)) = 2 then
         (at? a0 (IntKind.i64.wrap (a1 + 2))).bind fun c1087 =>
         some (decide (Int.fdiv (c1087.toNat : Int) (2 ^ (min 6 8)) = 2))
        else
         some false
       else
        some false
      else
       some false
     else
      some false
    ) fun x1078 =>
    if x1078 = true then
     (at? a0 (IntKind.i64.wrap (a1 + 1))).bind fun c1090 =>
     if (w8 ((c1090.toNat : Int) - 128)).toNat * 64 ≤ 9223372036854775807 then
      (at? a0 (IntKind.i64.wrap (a1 + 2))).bind fun c1093 =>
      if (2048 : Int) ≤ IntKind.i64.wrap ((IntKind.i64.wrap ((IntKind.i64.wrap (((c1064.toNat : Int) - 224) * 4096)) + (((w8 ((c1090.toNat : Int) - 128)).toNat : Int) * 64))) + ((w8 ((c1093.toNat : Int) - 128)).toNat : Int)) then
       some (IntKind.i64.wrap ((IntKind.i64.wrap ((IntKind.i64.wrap (((c1064.toNat : Int) - 224) * 4096)) + (((w8 ((c1090.toNat : Int) - 128)).toNat : Int) * 64))) + ((w8 ((c1093.toNat : Int) - 128)).toNat : Int)), 3)
      else
       some (0, 0)
     else none
    else
     some (0, 0)
def post151 (r : (Int × Int)) (v : Value) (fs : List Fact) : Prop := v = .tuple #[.int .i64 r.1, .int .i64 r.2] ∧ fs = [((Ty.int .i64).fact r.1 [.int .i64 r.1]), ((Ty.int .i64).fact r.2 [.int .i64 r.2])]
theorem en151 : Enters Tryz.prog 151 := ⟨_, Tryz.func151, by kernel_rfl, rfl⟩
theorem f151_spec {a0 : Str} {a1 : Int} {r : (Int × Int)} (hr : m151 a0 a1 = some r) : Spec Tryz.prog 151 [str a0, .int .i64 a1] [(Ty.str.fact a0 [str a0]), ((Ty.int .i64).fact a1 [.int .i64 a1])] (post151 r) := by
 refine spec_start (N := 96) Tryz.func151 (by kernel_rfl) rfl rfl rfl ?_
 intro g hS
 unfold m151 at hr
 refine at_inv 1 rfl (fun l1063 => ?_)
 replace l1063 : (-9223372036854775808) ≤ a1 ∧ a1 ≤ 9223372036854775807 := l1063
 refine s_sr (s_as rfl (s_as rfl (s_ntsr (s_mv rfl (s_mv rfl ?_)))))
 replace hr := obind hr
 obtain ⟨c1064, h1065, hr⟩ := hr
 have := at?_lt h1065
 have := c1064.toNat_lt
 refine at_lt (lt_sidx rfl rfl und9 (at?_lt h1065).1 (at?_get h1065)) rfl ?_
 refine at_lt (lt_convint rfl (iso und5) und3 (u8_in_i64 c1064)) rfl (s_as rfl (s_nt (at_seq (s_sr (s_mv rfl (at_lt (lt_lss rfl rfl) rfl (s_nt ?_)))))))
 by_cases h1066 : c1064.toNat < 128
 ·replace hr := ipos h1066 hr
  refine at_true rfl (decide_eq_true (by omega)) ?_
  refine s_sr (s_mv rfl (s_as rfl (s_as rfl (s_nt (at_ret ?_)))))
  have hq := oinj hr
  clear hr
  subst hq
  refine at_then_ret (at_int .i64 (c1064.toNat : Int) (u8_in_i64 c1064) (at_int .i64 1 (by simp only [lo, hi]; omega) ?_))
  exact at_return (.tuple #[.int .i64 (c1064.toNat : Int), .int .i64 1]) [1, 0] hS Tryz.results151 (.cons (.tmp rfl) (.cons (.tmp rfl) .nil)) rfl rfl ⟨rfl, rfl⟩
 replace hr := ineg h1066 hr
 refine at_false rfl (decide_eq_false (by omega)) ?_
 refine at_skip (at_then (at_seq (at_seq ?_)))
 replace hr := obind hr
 obtain ⟨x1067, hc1068, hr⟩ := hr
 refine at_cut (V := Unit) (fun e => (⟨[(0, str a0), (1, .int .i64 a1), (6, .int .i64 (c1064.toNat : Int)), (35, .bool x1067)], [], [], [(Ty.str.fact a0 [str a0]), ((Ty.int .i64).fact a1 [.int .i64 a1])]⟩ : St)) ?_ ?_
 ·clear hr
  have hr := hc1068
  clear hc1068
  refine at_region (s_mv rfl (at_lt (lt_geq rfl rfl) rfl (s_mv rfl ?_)))
  by_cases h1069 : 194 ≤ c1064.toNat
  ·replace hr := ipos h1069 hr
   refine at_on rfl rfl (decide_eq_true (by omega)) ?_
   refine s_mv rfl ?_
   refine at_on rfl rfl (decide_eq_true (by omega)) ?_
   refine at_lt (lt_lss rfl rfl) rfl ?_
   refine at_lt (lt_pick true rfl (decide_eq_true (by omega)) rfl) rfl ?_
   refine s_mv rfl ?_
   by_cases h1070 : c1064.toNat < 224
   ·replace hr := ipos h1070 hr
    refine at_on rfl rfl (decide_eq_true (by omega)) ?_
    refine s_mv rfl ?_
    refine at_on rfl rfl (decide_eq_true (by omega)) ?_
    refine at_lt (lt_addw rfl rfl) rfl ?_
    refine at_on rfl rfl (decide_eq_true (by omega)) ?_
    refine s_mv rfl ?_
    refine at_inv 0 rfl (fun l1071 => ?_)
    replace l1071 : a0.length ≤ 9223372036854775807 := l1071
    refine at_on rfl rfl (decide_eq_true (by omega)) ?_
    refine at_lt (lt_slen rfl und9) rfl ?_
    refine at_on rfl rfl (decide_eq_true (by omega)) ?_
    refine at_lt (lt_lss rfl rfl) rfl ?_
    refine at_lt (lt_pick true rfl (decide_eq_true (by omega)) rfl) rfl ?_
    refine s_mv rfl ?_
    by_cases h1072 : IntKind.i64.wrap (a1 + 1) < (a0.length : Int)
    ·replace hr := ipos h1072 hr
     refine at_on rfl rfl (decide_eq_true (by first | exact h1072 | omega)) ?_
     refine s_mv rfl ?_
     refine at_on rfl rfl (decide_eq_true (by first | exact h1072 | omega)) ?_
     refine s_mv rfl ?_
     refine at_on rfl rfl (decide_eq_true (by first | exact h1072 | omega)) ?_
     refine at_lt (lt_addw rfl rfl) rfl ?_
     replace hr := obind hr
     obtain ⟨c1073, h1074, hr⟩ := hr
     have := at?_lt h1074
     have := c1073.toNat_lt
     refine at_on rfl rfl (decide_eq_true (by first | exact h1072 | omega)) ?_
     refine at_lt (lt_sidx rfl rfl und9 (at?_lt h1074).1 (at?_get h1074)) rfl ?_
     refine at_on rfl rfl (decide_eq_true (by first | exact h1072 | omega)) ?_
     refine at_lt (lt_shr rfl rfl (by decide)) rfl ?_
     refine at_on rfl rfl (decide_eq_true (by first | exact h1072 | omega)) ?_
     refine at_lt (lt_eql rfl rfl) rfl ?_
     refine at_lt (lt_pick true rfl (decide_eq_true (by first | exact h1072 | omega)) rfl) rfl ?_
     refine at_nil ?_
     have hq := oinj hr
     clear hr
     subst hq
     exact at_leaf () ⟨⟨rfl, ⟨rfl, ⟨rfl, ⟨rfl, trivial⟩⟩⟩⟩, ⟨[], rfl⟩, ⟨[], rfl⟩, ⟨[0, 1], rfl⟩⟩
    replace hr := ineg h1072 hr
    refine at_off rfl rfl (decide_eq_false (by first | exact h1072 | omega)) rfl ?_
    refine at_off rfl rfl (decide_eq_false (by first | exact h1072 | omega)) rfl ?_
    refine at_off rfl rfl (decide_eq_false (by first | exact h1072 | omega)) rfl ?_
    refine at_off rfl rfl (decide_eq_false (by first | exact h1072 | omega)) rfl ?_
    refine at_off rfl rfl (decide_eq_false (by first | exact h1072 | omega)) rfl ?_
    refine at_off rfl rfl (decide_eq_false (by first | exact h1072 | omega)) rfl ?_
    refine at_lt (lt_pick false rfl (decide_eq_false (by first | exact h1072 | omega)) rfl) rfl ?_
    refine at_nil ?_
    have hq := oinj hr
    clear hr
    subst hq
    exact at_leaf () ⟨⟨rfl, ⟨rfl, ⟨rfl, ⟨rfl, trivial⟩⟩⟩⟩, ⟨[], rfl⟩, ⟨[], rfl⟩, ⟨[0, 1], rfl⟩⟩
   replace hr := ineg h1070 hr
   refine at_off rfl rfl (decide_eq_false (by omega)) rfl ?_
   refine at_off rfl rfl (decide_eq_false (by omega)) rfl ?_
   refine at_off rfl rfl (decide_eq_false (by omega)) rfl ?_
   refine at_off rfl rfl (decide_eq_false (by omega)) rfl ?_
   refine at_off rfl rfl (decide_eq_false (by omega)) rfl ?_
   refine at_lt (lt_pick false rfl (decide_eq_false (by omega)) rfl) rfl ?_
   refine s_mv rfl (at_off rfl rfl rfl rfl (at_off rfl rfl rfl rfl (at_off rfl rfl rfl rfl (at_off rfl rfl rfl rfl (at_off rfl rfl rfl rfl (at_off rfl rfl rfl rfl (at_lt (lt_pick false rfl rfl rfl) rfl (at_nil ?_))))))))
   have hq := oinj hr
   clear hr
   subst hq
   exact at_leaf () ⟨⟨rfl, ⟨rfl, ⟨rfl, ⟨rfl, trivial⟩⟩⟩⟩, ⟨[], rfl⟩, ⟨[], rfl⟩, ⟨[0, 1], rfl⟩⟩
  replace hr := ineg h1069 hr
  refine at_off rfl rfl (decide_eq_false (by omega)) rfl ?_
  refine at_off rfl rfl (decide_eq_false (by omega)) rfl ?_
  refine at_lt (lt_pick false rfl (decide_eq_false (by omega)) rfl) rfl ?_
  refine s_mv rfl (at_off rfl rfl rfl rfl (at_off rfl rfl rfl rfl (at_off rfl rfl rfl rfl (at_off rfl rfl rfl rfl (at_off rfl rfl rfl rfl (at_lt (lt_pick false rfl rfl rfl) rfl (s_mv rfl (at_off rfl rfl rfl rfl (at_off rfl rfl rfl rfl ?_)))))))))
  refine at_off rfl rfl rfl rfl (at_off rfl rfl rfl rfl (at_off rfl rfl rfl rfl (at_off rfl rfl rfl rfl (at_lt (lt_pick false rfl rfl rfl) rfl (at_nil ?_)))))
  have hq := oinj hr
  clear hr
  subst hq
  exact at_leaf () ⟨⟨rfl, ⟨rfl, ⟨rfl, ⟨rfl, trivial⟩⟩⟩⟩, ⟨[], rfl⟩, ⟨[], rfl⟩, ⟨[0, 1], rfl⟩⟩
 clear hc1068
 intro _
 change At _ _ (⟨[(0, str a0), (1, .int .i64 a1), (6, .int .i64 (c1064.toNat : Int)), (35, .bool x1067)], [], [], [(Ty.str.fact a0 [str a0]), ((Ty.int .i64).fact a1 [.int .i64 a1])]⟩ : St) _
 refine at_then ?_
 by_cases h1075 : x1067 = true
 ·replace hr := ipos h1075 hr
  refine at_true rfl h1075 (s_sr (s_mv rfl (at_lt (lt_sub rfl rfl (by simp only [lo, hi]; omega)) rfl (at_lt (lt_mulw rfl rfl) rfl (s_mv rfl (s_mv rfl (at_lt (lt_addw rfl rfl) rfl ?_)))))))
  replace hr := obind hr
  obtain ⟨c1076, h1077, hr⟩ := hr
  have := at?_lt h1077
  have := c1076.toNat_lt
  refine at_lt (lt_sidx rfl rfl und9 (at?_lt h1077).1 (at?_get h1077)) rfl ?_
  refine at_lt (lt_u8 (lt_subw rfl rfl)) rfl (at_lt (lt_convint rfl (iso und5) und3 (u8_in_i64 (w8 ((c1076.toNat : Int) - 128)))) rfl (at_lt (lt_addw rfl rfl) rfl (s_as rfl (s_as rfl (s_nt (at_ret ?_))))))
  have hq := oinj hr
  clear hr
  subst hq
  refine at_then_ret (at_int .i64 (IntKind.i64.wrap ((IntKind.i64.wrap (((c1064.toNat : Int) - 192) * 64)) + ((w8 ((c1076.toNat : Int) - 128)).toNat : Int))) (wrap_bd .i64 _) (at_int .i64 2 (by simp only [lo, hi]; omega) ?_))
  exact at_return (.tuple #[.int .i64 (IntKind.i64.wrap ((IntKind.i64.wrap (((c1064.toNat : Int) - 192) * 64)) + ((w8 ((c1076.toNat : Int) - 128)).toNat : Int))), .int .i64 2]) [1, 0] hS Tryz.results151 (.cons (.tmp rfl) (.cons (.tmp rfl) .nil)) rfl rfl ⟨rfl, rfl⟩
 replace hr := ineg h1075 hr
 refine at_false rfl (bf h1075) (at_skip (at_then (at_seq (at_seq ?_))))
 replace hr := obind hr
 obtain ⟨x1078, hc1079, hr⟩ := hr
 refine at_cut (V := Unit) (fun e => (⟨[(0, str a0), (1, .int .i64 a1), (6, .int .i64 (c1064.toNat : Int)), (74, .bool x1078)], [], [], [(Ty.str.fact a0 [str a0]), ((Ty.int .i64).fact a1 [.int .i64 a1])]⟩ : St)) ?_ ?_
 ·clear hr
  have hr := hc1079
  clear hc1079
  refine at_region (s_mv rfl (at_lt (lt_geq rfl rfl) rfl (s_mv rfl ?_)))
  by_cases h1080 : 224 ≤ c1064.toNat
  ·replace hr := ipos h1080 hr
   refine at_on rfl rfl (decide_eq_true (by omega)) ?_
   refine s_mv rfl ?_
   refine at_on rfl rfl (decide_eq_true (by omega)) ?_
   refine at_lt (lt_lss rfl rfl) rfl ?_
   refine at_lt (lt_pick true rfl (decide_eq_true (by omega)) rfl) rfl ?_
   refine s_mv rfl ?_
   by_cases h1081 : c1064.toNat < 240
   ·replace hr := ipos h1081 hr
    refine at_on rfl rfl (decide_eq_true (by omega)) ?_
    refine s_mv rfl ?_
    refine at_on rfl rfl (decide_eq_true (by omega)) ?_
    refine at_lt (lt_addw rfl rfl) rfl ?_
    refine at_on rfl rfl (decide_eq_true (by omega)) ?_
    refine s_mv rfl ?_
    refine at_inv 0 rfl (fun l1082 => ?_)
    replace l1082 : a0.length ≤ 9223372036854775807 := l1082
    refine at_on rfl rfl (decide_eq_true (by omega)) ?_
    refine at_lt (lt_slen rfl und9) rfl ?_
    refine at_on rfl rfl (decide_eq_true (by omega)) ?_
    refine at_lt (lt_lss rfl rfl) rfl ?_
    refine at_lt (lt_pick true rfl (decide_eq_true (by omega)) rfl) rfl ?_
    refine s_mv rfl ?_
    by_cases h1083 : IntKind.i64.wrap (a1 + 2) < (a0.length : Int)
    ·replace hr := ipos h1083 hr
     refine at_on rfl rfl (decide_eq_true (by first | exact h1083 | omega)) ?_
     refine s_mv rfl ?_
     refine at_on rfl rfl (decide_eq_true (by first | exact h1083 | omega)) ?_
     refine s_mv rfl ?_
     refine at_on rfl rfl (decide_eq_true (by first | exact h1083 | omega)) ?_
     refine at_lt (lt_addw rfl rfl) rfl ?_
     replace hr := obind hr
     obtain ⟨c1084, h1085, hr⟩ := hr
     have := at?_lt h1085
     have := c1084.toNat_lt
     refine at_on rfl rfl (decide_eq_true (by first | exact h1083 | omega)) ?_
     refine at_lt (lt_sidx rfl rfl und9 (at?_lt h1085).1 (at?_get h1085)) rfl ?_
     refine at_on rfl rfl (decide_eq_true (by first | exact h1083 | omega)) ?_
     refine at_lt (lt_shr rfl rfl (by decide)) rfl ?_
     refine at_on rfl rfl (decide_eq_true (by first | exact h1083 | omega)) ?_
     refine at_lt (lt_eql rfl rfl) rfl ?_
     refine at_lt (lt_pick true rfl (decide_eq_true (by first | exact h1083 | omega)) rfl) rfl ?_
     refine s_mv rfl ?_
     by_cases h1086 : Int.fdiv (c1084.toNat : Int) (2 ^ (min 6 8)) = 2
     ·replace hr := ipos h1086 hr
      refine at_on rfl rfl (decide_eq_true (by first | exact h1086 | omega)) ?_
      refine s_mv rfl ?_
      refine at_on rfl rfl (decide_eq_true (by first | exact h1086 | omega)) ?_
      refine s_mv rfl ?_
      refine at_on rfl rfl (decide_eq_true (by first | exact h1086 | omega)) ?_
      refine at_lt (lt_addw rfl rfl) rfl ?_
      replace hr := obind hr
      obtain ⟨c1087, h1088, hr⟩ := hr
      have := at?_lt h1088
      have := c1087.toNat_lt
      refine at_on rfl rfl (decide_eq_true (by first | exact h1086 | omega)) ?_
      refine at_lt (lt_sidx rfl rfl und9 (at?_lt h1088).1 (at?_get h1088)) rfl ?_
      refine at_on rfl rfl (decide_eq_true (by first | exact h1086 | omega)) ?_
      refine at_lt (lt_shr rfl rfl (by decide)) rfl ?_
      refine at_on rfl rfl (decide_eq_true (by first | exact h1086 | omega)) ?_
      refine at_lt (lt_eql rfl rfl) rfl ?_
      refine at_lt (lt_pick true rfl (decide_eq_true (by first | exact h1086 | omega)) rfl) rfl ?_
      refine at_nil ?_
      have hq := oinj hr
      clear hr
      subst hq
      exact at_leaf () ⟨⟨rfl, ⟨rfl, ⟨rfl, ⟨rfl, trivial⟩⟩⟩⟩, ⟨[], rfl⟩, ⟨[], rfl⟩, ⟨[0, 1], rfl⟩⟩
     replace hr := ineg h1086 hr
     refine at_off rfl rfl (decide_eq_false (by first | exact h1086 | omega)) rfl ?_
     refine at_off rfl rfl (decide_eq_false (by first | exact h1086 | omega)) rfl ?_
     refine at_off rfl rfl (decide_eq_false (by first | exact h1086 | omega)) rfl ?_
     refine at_off rfl rfl (decide_eq_false (by first | exact h1086 | omega)) rfl ?_
     refine at_off rfl rfl (decide_eq_false (by first | exact h1086 | omega)) rfl ?_
     refine at_off rfl rfl (decide_eq_false (by first | exact h1086 | omega)) rfl ?_
     refine at_lt (lt_pick false rfl (decide_eq_false (by first | exact h1086 | omega)) rfl) rfl ?_
     refine at_nil ?_
     have hq := oinj hr
     clear hr
     subst hq
     exact at_leaf () ⟨⟨rfl, ⟨rfl, ⟨rfl, ⟨rfl, trivial⟩⟩⟩⟩, ⟨[], rfl⟩, ⟨[], rfl⟩, ⟨[0, 1], rfl⟩⟩
    replace hr := ineg h1083 hr
    refine at_off rfl rfl (decide_eq_false (by first | exact h1083 | omega)) rfl ?_
    refine at_off rfl rfl (decide_eq_false (by first | exact h1083 | omega)) rfl ?_
    refine at_off rfl rfl (decide_eq_false (by first | exact h1083 | omega)) rfl ?_
    refine at_off rfl rfl (decide_eq_false (by first | exact h1083 | omega)) rfl ?_
    refine at_off rfl rfl (decide_eq_false (by first | exact h1083 | omega)) rfl ?_
    refine at_off rfl rfl (decide_eq_false (by first | exact h1083 | omega)) rfl ?_
    refine at_lt (lt_pick false rfl (decide_eq_false (by first | exact h1083 | omega)) rfl) rfl ?_
    refine s_mv rfl (at_off rfl rfl rfl rfl (at_off rfl rfl rfl rfl (at_off rfl rfl rfl rfl (at_off rfl rfl rfl rfl (at_off rfl rfl rfl rfl (at_off rfl rfl rfl rfl (at_lt (lt_pick false rfl rfl rfl) rfl (at_nil ?_))))))))
    have hq := oinj hr
    clear hr
    subst hq
    exact at_leaf () ⟨⟨rfl, ⟨rfl, ⟨rfl, ⟨rfl, trivial⟩⟩⟩⟩, ⟨[], rfl⟩, ⟨[], rfl⟩, ⟨[0, 1], rfl⟩⟩
   replace hr := ineg h1081 hr
   refine at_off rfl rfl (decide_eq_false (by omega)) rfl ?_
   refine at_off rfl rfl (decide_eq_false (by omega)) rfl ?_
   refine at_off rfl rfl (decide_eq_false (by omega)) rfl ?_
   refine at_off rfl rfl (decide_eq_false (by omega)) rfl ?_
   refine at_off rfl rfl (decide_eq_false (by omega)) rfl ?_
   refine at_lt (lt_pick false rfl (decide_eq_false (by omega)) rfl) rfl ?_
   refine s_mv rfl (at_off rfl rfl rfl rfl (at_off rfl rfl rfl rfl (at_off rfl rfl rfl rfl (at_off rfl rfl rfl rfl (at_off rfl rfl rfl rfl (at_off rfl rfl rfl rfl (at_lt (lt_pick false rfl rfl rfl) rfl (s_mv rfl (at_off rfl rfl rfl rfl ?_)))))))))
   refine at_off rfl rfl rfl rfl (at_off rfl rfl rfl rfl (at_off rfl rfl rfl rfl (at_off rfl rfl rfl rfl (at_off rfl rfl rfl rfl (at_lt (lt_pick false rfl rfl rfl) rfl (at_nil ?_))))))
   have hq := oinj hr
   clear hr
   subst hq
   exact at_leaf () ⟨⟨rfl, ⟨rfl, ⟨rfl, ⟨rfl, trivial⟩⟩⟩⟩, ⟨[], rfl⟩, ⟨[], rfl⟩, ⟨[0, 1], rfl⟩⟩
  replace hr := ineg h1080 hr
  refine at_off rfl rfl (decide_eq_false (by omega)) rfl ?_
  refine at_off rfl rfl (decide_eq_false (by omega)) rfl ?_
  refine at_lt (lt_pick false rfl (decide_eq_false (by omega)) rfl) rfl ?_
  refine s_mv rfl (at_off rfl rfl rfl rfl (at_off rfl rfl rfl rfl (at_off rfl rfl rfl rfl (at_off rfl rfl rfl rfl (at_off rfl rfl rfl rfl (at_lt (lt_pick false rfl rfl rfl) rfl (s_mv rfl (at_off rfl rfl rfl rfl (at_off rfl rfl rfl rfl ?_)))))))))
  refine at_off rfl rfl rfl rfl (at_off rfl rfl rfl rfl (at_off rfl rfl rfl rfl (at_off rfl rfl rfl rfl (at_lt (lt_pick false rfl rfl rfl) rfl (s_mv rfl (at_off rfl rfl rfl rfl (at_off rfl rfl rfl rfl (at_off rfl rfl rfl rfl (at_off rfl rfl rfl rfl ?_)))))))))
  refine at_off rfl rfl rfl rfl (at_off rfl rfl rfl rfl (at_lt (lt_pick false rfl rfl rfl) rfl (at_nil ?_)))
  have hq := oinj hr
  clear hr
  subst hq
  exact at_leaf () ⟨⟨rfl, ⟨rfl, ⟨rfl, ⟨rfl, trivial⟩⟩⟩⟩, ⟨[], rfl⟩, ⟨[], rfl⟩, ⟨[0, 1], rfl⟩⟩
 clear hc1079
 intro _
 change At _ _ (⟨[(0, str a0), (1, .int .i64 a1), (6, .int .i64 (c1064.toNat : Int)), (74, .bool x1078)], [], [], [(Ty.str.fact a0 [str a0]), ((Ty.int .i64).fact a1 [.int .i64 a1])]⟩ : St) _
 refine at_then ?_
 by_cases h1089 : x1078 = true
 ·replace hr := ipos h1089 hr
  refine at_true rfl h1089 (at_seq ?_)
  replace hr := obind hr
  obtain ⟨c1090, h1091, hr⟩ := hr
  have := at?_lt h1091
  have := c1090.toNat_lt
  replace hr := imust hr
  obtain ⟨h1092, hr⟩ := hr
  replace hr := obind hr
  obtain ⟨c1093, h1094, hr⟩ := hr
  have := at?_lt h1094
  have := c1093.toNat_lt
  refine aa_start 19 (by kernel_rfl) ?_
  refine aa_p 0 rfl (lt_move rfl) (aa_p 1 rfl (lt_sub rfl rfl (by simp only [lo, hi]; omega)) (aa_p 2 rfl (lt_mulw rfl rfl) (aa_p 3 rfl (lt_move rfl) (aa_p 4 rfl (lt_move rfl) (aa_p 5 rfl (lt_addw rfl rfl) ?_)))))
  refine aa_p 6 rfl (lt_sidx rfl rfl und9 (at?_lt h1091).1 (at?_get h1091)) ?_
  refine aa_p 7 rfl (lt_u8 (lt_subw rfl rfl)) (aa_p 8 rfl (lt_convint rfl (iso und5) und3 (u8_in_i64 (w8 ((c1090.toNat : Int) - 128)))) (aa_p 9 rfl (lt_mul rfl rfl (by simp only [lo, hi]; omega)) (aa_p 10 rfl (lt_addw rfl rfl) (aa_p 11 rfl (lt_move rfl) (aa_p 12 rfl (lt_move rfl) (aa_p 13 rfl (lt_addw rfl rfl) ?_))))))
  refine aa_p 14 rfl (lt_sidx rfl rfl und9 (at?_lt h1094).1 (at?_get h1094)) ?_
  refine aa_p 15 rfl (lt_u8 (lt_subw rfl rfl)) (aa_p 16 rfl (lt_convint rfl (iso und5) und3 (u8_in_i64 (w8 ((c1093.toNat : Int) - 128)))) (aa_p 17 rfl (lt_addw rfl rfl) (aa_p 18 rfl (lt_assign rfl) ?_)))
  refine aa_done (by kernel_rfl) (ts_in 0 0 rfl rfl) ?_
  refine s_tsr (s_mv rfl (at_lt (lt_geq rfl rfl) rfl (s_nt ?_)))
  by_cases h1095 : (2048 : Int) ≤ IntKind.i64.wrap ((IntKind.i64.wrap ((IntKind.i64.wrap (((c1064.toNat : Int) - 224) * 4096)) + (((w8 ((c1090.toNat : Int) - 128)).toNat : Int) * 64))) + ((w8 ((c1093.toNat : Int) - 128)).toNat : Int))
  ·replace hr := ipos h1095 hr
   refine at_true rfl (decide_eq_true (by first | exact h1095 | omega)) ?_
   refine s_sr (s_mv rfl (s_as rfl (s_as rfl (s_nt (at_ret ?_)))))
   have hq := oinj hr
   clear hr
   subst hq
   refine at_then_ret (at_int .i64 (IntKind.i64.wrap ((IntKind.i64.wrap ((IntKind.i64.wrap (((c1064.toNat : Int) - 224) * 4096)) + (((w8 ((c1090.toNat : Int) - 128)).toNat : Int) * 64))) + ((w8 ((c1093.toNat : Int) - 128)).toNat : Int))) (wrap_bd .i64 _) (at_int .i64 3 (by simp only [lo, hi]; omega) ?_))
   exact at_return (.tuple #[.int .i64 (IntKind.i64.wrap ((IntKind.i64.wrap ((IntKind.i64.wrap (((c1064.toNat : Int) - 224) * 4096)) + (((w8 ((c1090.toNat : Int) - 128)).toNat : Int) * 64))) + ((w8 ((c1093.toNat : Int) - 128)).toNat : Int))), .int .i64 3]) [1, 0] hS Tryz.results151 (.cons (.tmp rfl) (.cons (.tmp rfl) .nil)) rfl rfl ⟨rfl, rfl⟩
  replace hr := ineg h1095 hr
  refine at_false rfl (decide_eq_false (by first | exact h1095 | omega)) ?_
  refine at_skip (s_tsr (s_as rfl (s_as rfl (s_nt (at_ret ?_)))))
  have hq := oinj hr
  clear hr
  subst hq
  refine at_int .i64 0 (by simp only [lo, hi]; omega) ?_
  exact at_return (.tuple #[.int .i64 0, .int .i64 0]) [0, 0] hS Tryz.results151 (.cons (.tmp rfl) (.cons (.tmp rfl) .nil)) rfl rfl ⟨rfl, rfl⟩
 replace hr := ineg h1089 hr
 refine at_false rfl (bf h1089) (at_skip (s_tsr (s_as rfl (s_as rfl (s_nt (at_ret ?_))))))
 have hq := oinj hr
 clear hr
 subst hq
 refine at_int .i64 0 (by simp only [lo, hi]; omega) ?_
 exact at_return (.tuple #[.int .i64 0, .int .i64 0]) [0, 0] hS Tryz.results151 (.cons (.tmp rfl) (.cons (.tmp rfl) .nil)) rfl rfl ⟨rfl, rfl⟩
def m196 (a0 : Int) (a1 : Int) (a2 : Int) : Option Bool :=
  if a1 ≤ a0 then
   some (decide (a0 ≤ a2))
  else
   some false
def post196 (r : Bool) (v : Value) (fs : List Fact) : Prop := v = .bool r ∧ fs = []
theorem en196 : Enters Tryz.prog 196 := ⟨_, Tryz.func196, by kernel_rfl, rfl⟩
theorem f196_spec {a0 : Int} {a1 : Int} {a2 : Int} {r : Bool} (hr : m196 a0 a1 a2 = some r) : Spec Tryz.prog 196 [.int .i64 a0, .int .i64 a1, .int .i64 a2] [((Ty.int .i64).fact a0 [.int .i64 a0]), ((Ty.int .i64).fact a1 [.int .i64 a1]), ((Ty.int .i64).fact a2 [.int .i64 a2])] (post196 r) := by
 refine spec_start (N := 15) Tryz.func196 (by kernel_rfl) rfl rfl rfl ?_
 intro g hS
 unfold m196 at hr
 refine at_inv 0 rfl (fun l1096 => ?_)
 replace l1096 : (-9223372036854775808) ≤ a0 ∧ a0 ≤ 9223372036854775807 := l1096
 refine at_inv 1 rfl (fun l1097 => ?_)
 replace l1097 : (-9223372036854775808) ≤ a1 ∧ a1 ≤ 9223372036854775807 := l1097
 refine at_inv 2 rfl (fun l1098 => ?_)
 replace l1098 : (-9223372036854775808) ≤ a2 ∧ a2 ≤ 9223372036854775807 := l1098
 refine s_sr (s_as rfl (s_ntsr (s_mv rfl (s_mv rfl (at_lt (lt_geq rfl rfl) rfl (s_mv rfl ?_))))))
 by_cases h1099 : a1 ≤ a0
 ·replace hr := ipos h1099 hr
  refine at_on rfl rfl (decide_eq_true (by first | exact h1099 | omega)) ?_
  refine s_mv rfl ?_
  refine at_on rfl rfl (decide_eq_true (by first | exact h1099 | omega)) ?_
  refine s_mv rfl ?_
  refine at_on rfl rfl (decide_eq_true (by first | exact h1099 | omega)) ?_
  refine at_lt (lt_leq rfl rfl) rfl ?_
  refine at_lt (lt_pick true rfl (decide_eq_true (by first | exact h1099 | omega)) rfl) rfl ?_
  refine s_as rfl (s_nt (at_ret ?_))
  have hq := oinj hr
  clear hr
  subst hq
  exact at_return (.bool (decide (a0 ≤ a2))) [] hS Tryz.results196 (.cons (.tmp rfl) .nil) rfl rfl ⟨rfl, rfl⟩
 replace hr := ineg h1099 hr
 refine at_off rfl rfl (decide_eq_false (by first | exact h1099 | omega)) rfl ?_
 refine at_off rfl rfl (decide_eq_false (by first | exact h1099 | omega)) rfl ?_
 refine at_off rfl rfl (decide_eq_false (by first | exact h1099 | omega)) rfl ?_
 refine at_lt (lt_pick false rfl (decide_eq_false (by first | exact h1099 | omega)) rfl) rfl ?_
 refine s_as rfl (s_nt (at_ret ?_))
 have hq := oinj hr
 clear hr
 subst hq
 exact at_return (.bool false) [] hS Tryz.results196 (.cons (.tmp rfl) .nil) rfl rfl ⟨rfl, rfl⟩
def m197_l1 (a0 : Str) (a1 : Int) : Nat → Int → Option (Fl Bool Unit)
  | 0, _ => none
  | k + 1, x1101 =>
    if x1101 < (a0.length : Int) then
     (m151 a0 x1101).bind fun x1108 =>
     if x1108.1 = a1 then
      some (Fl.ret true)
     else
      m197_l1 a0 a1 k (IntKind.i64.wrap (x1101 + x1108.2))
    else
     some (Fl.go ())
def m197 (a0 : Str) (a1 : Int) : Option Bool :=
  (m197_l1 a0 a1 (a0.length + 1) 0).bind fun r => match r with
  | .ret x => some x
  | .go _ =>
   some false
def post197 (r : Bool) (v : Value) (fs : List Fact) : Prop := v = .bool r ∧ fs = []
theorem en197 : Enters Tryz.prog 197 := ⟨_, Tryz.func197, by kernel_rfl, rfl⟩
theorem f197_spec {a0 : Str} {a1 : Int} {r : Bool} (hr : m197 a0 a1 = some r) : Spec Tryz.prog 197 [str a0, .int .i64 a1] [(Ty.str.fact a0 [str a0]), ((Ty.int .i64).fact a1 [.int .i64 a1])] (post197 r) := by
 refine spec_start (N := 24) Tryz.func197 (by kernel_rfl) rfl rfl rfl ?_
 intro g hS
 unfold m197 at hr
 refine at_inv 1 rfl (fun l1100 => ?_)
 replace l1100 : (-9223372036854775808) ≤ a1 ∧ a1 ≤ 9223372036854775807 := l1100
 refine s_sr (s_as rfl (s_nt (at_seq (s_sr (s_as rfl (s_nt (at_int .i64 0 (by simp only [lo, hi]; omega) ?_)))))))
 replace hr := obind hr
 obtain ⟨r1102, hl1103, hk1104⟩ := hr
 refine at_cutP (V := (Unit) × (Unit)) (fun v => r1102 = Fl.go v.1) (fun v => (⟨[], [], [], []⟩ : St)) ?_ ?_
 ·refine at_block ?_
  refine at_loopW (σ := Int) (V := Unit) (r := r1102) (fun n s => m197_l1 a0 a1 n s) (fun s e => (⟨[(0, str a0), (1, .int .i64 a1), (5, .int .i64 s)], [], [], [((Ty.int .i64).fact s [.int .i64 s]), (Ty.str.fact a0 [str a0]), ((Ty.int .i64).fact a1 [.int .i64 a1])]⟩ : St)) (fun _ => rfl) _ 0 () hl1103 ⟨⟨rfl, ⟨rfl, ⟨rfl, trivial⟩⟩⟩, ⟨[], rfl⟩, ⟨[], rfl⟩, ⟨[0, 1, 2], rfl⟩⟩ ?_
  clear hl1103
  intro n x1101 hr e
  skip
  skip
  change m197_l1 a0 a1 (n + 1) x1101 = some r1102 at hr
  change At _ _ (⟨[(0, str a0), (1, .int .i64 a1), (5, .int .i64 x1101)], [], [], [((Ty.int .i64).fact x1101 [.int .i64 x1101]), (Ty.str.fact a0 [str a0]), ((Ty.int .i64).fact a1 [.int .i64 a1])]⟩ : St) _
  rw [m197_l1] at hr
  refine at_inv 0 rfl (fun l1105 => ?_)
  replace l1105 : (-9223372036854775808) ≤ x1101 ∧ x1101 ≤ 9223372036854775807 := l1105
  refine at_seq (s_sr (s_mv rfl (s_mv rfl ?_)))
  refine at_inv 1 rfl (fun l1106 => ?_)
  replace l1106 : a0.length ≤ 9223372036854775807 := l1106
  refine at_lt (lt_slen rfl und9) rfl (at_lt (lt_lss rfl rfl) rfl (s_nt ?_))
  by_cases h1107 : x1101 < (a0.length : Int)
  ·replace hr := ipos h1107 hr
   refine at_true rfl (decide_eq_true (by first | exact h1107 | omega)) ?_
   refine at_skip (at_then (at_block (s_sr (s_mv rfl (s_mv rfl ?_)))))
   replace hr := obind hr
   obtain ⟨x1108, h1109, hr⟩ := hr
   refine at_hv rfl (hv_call0 [1, 0] (f151_spec h1109) rfl rfl rfl rfl ?_)
   rintro _ _ ⟨rfl, rfl⟩
   refine at_inv 0 rfl (fun l1110 => ?_)
   replace l1110 : (-9223372036854775808) ≤ x1108.1 ∧ x1108.1 ≤ 9223372036854775807 := l1110
   refine at_inv 1 rfl (fun l1111 => ?_)
   replace l1111 : (-9223372036854775808) ≤ x1108.2 ∧ x1108.2 ≤ 9223372036854775807 := l1111
   refine s_mv rfl (at_lt (lt_extract rfl rfl) rfl (at_lt (lt_extract rfl rfl) rfl (s_as rfl (s_as rfl (s_nt (at_seq (s_sr (s_mv rfl (s_mv rfl ?_)))))))))
   refine at_lt (lt_eql rfl rfl) rfl (s_nt ?_)
   by_cases h1112 : x1108.1 = a1
   ·replace hr := ipos h1112 hr
    refine at_true rfl (decide_eq_true (by first | exact h1112 | omega)) ?_
    refine s_sr (s_as rfl (s_nt (at_ret ?_)))
    have hq := oinj hr
    clear hr
    subst hq
    have hq := oinj hk1104
    clear hk1104
    subst hq
    refine at_then_ret (at_in_ret (at_then_ret (at_in_ret (at_then_ret (at_then_ret ?_)))))
    exact at_return (.bool true) [] hS Tryz.results197 (.cons (.tmp rfl) .nil) rfl rfl ⟨rfl, rfl⟩
   replace hr := ineg h1112 hr
   refine at_false rfl (decide_eq_false (by first | exact h1112 | omega)) ?_
   refine at_skip (s_tr (s_mv rfl (s_mv rfl (at_lt (lt_addw rfl rfl) rfl (s_as rfl (at_nil (at_in (at_int .i64 (IntKind.i64.wrap (x1101 + x1108.2)) (wrap_bd .i64 _) ?_))))))))
   exact at_again (σ := Int) (V := Unit) (lp := fun n s => m197_l1 a0 a1 n s) (S := fun s e => (⟨[(0, str a0), (1, .int .i64 a1), (5, .int .i64 s)], [], [], [((Ty.int .i64).fact s [.int .i64 s]), (Ty.str.fact a0 [str a0]), ((Ty.int .i64).fact a1 [.int .i64 a1])]⟩ : St)) (IntKind.i64.wrap (x1101 + x1108.2)) () hr ⟨⟨rfl, ⟨rfl, ⟨rfl, trivial⟩⟩⟩, ⟨[], rfl⟩, ⟨[], rfl⟩, ⟨[0, 4, 5], rfl⟩⟩
  replace hr := ineg h1107 hr
  refine at_false rfl (decide_eq_false (by first | exact h1107 | omega)) ?_
  refine at_exit (at_then_exit (at_then_exit (at_in_exit ?_)))
  have hq := oinj hr
  clear hr
  subst hq
  exact at_leafP ((), ()) rfl ⟨trivial, ⟨[], rfl⟩, ⟨[], rfl⟩, ⟨[], rfl⟩⟩
 rintro ⟨_, _⟩ hp
 replace hr := hk1104
 subst hp
 clear hl1103
 change At _ _ (⟨[], [], [], []⟩ : St) _
 refine s_tsr (s_as rfl (s_nt (at_ret ?_)))
 have hq := oinj hr
 clear hr
 subst hq
 exact at_return (.bool false) [] hS Tryz.results197 (.cons (.tmp rfl) .nil) rfl rfl ⟨rfl, rfl⟩
def m177 (a0 : Int) : Option (Int × Int) :=
  (m196 a0 65281 65374).bind fun x1114 =>
  Option.bind (α := Int) (
   if x1114 = true then
    some (IntKind.i64.wrap (a0 - 65248))
   else
    some a0
  ) fun x1116 =>
  if x1116 = 32 then
   some (0, 4)
  else
   if x1116 = 160 then
    some (0, 4)
   else
    (m196 x1116 48 57).bind fun x1122 =>
    if x1122 = true then
     some (0, 3)
    else
     if x1116 = 178 then
      some (0, 3)
     else
      if x1116 = 179 then
       some (0, 3)
      else
       if x1116 = 185 then
        some (0, 3)
       else
        (m196 x1116 65 90).bind fun x1128 =>
        if x1128 = true then
         some (1, 1)
        else
         (m196 x1116 97 122).bind fun x1131 =>
         if x1131 = true then
          some (1, 1)
         else
          if x1116 = 383 then
           some (1, 1)
          else
           if x1116 = 64257 then
            some (1, 1)
           else
            if x1116 = 64258 then
             some (1, 1)
            else
             (m197 ([195, 128, 195, 136, 195, 140, 195, 146, 195, 153, 195, 160, 195, 168, 195, 172, 195, 178, 195, 185, 195, 129, 195, 137, 195, 141, 195, 147, 195, 154, 195, 157, 195, 161, 195, 169, 195, 173, 195, 179, 195, 186, 195, 189, 196, 134, 196, 135, 196, 185, 196, 186, 197, 131, 197, 132, 197, 148, 197, 149, 197, 154, 197, 155, 197, 185, 197, 186, 195, 130, 195, 138, 195, 142, 195, 148, 195, 155, 195, 162, 195, 170, 195, 174, 195, 180, 195, 187, 196, 136, 196, 137, 196, 156, 196, 157, 196, 164, 196, 165, 196, 180, 196, 181, 197, 156, 197, 157, 197, 180, 197, 181, 197, 182, 197, 183, 195, 131, 195, 145, 195, 149, 195, 163, 195, 177, 195, 181, 196, 168, 196, 169, 197, 168, 197, 169, 196, 128, 196, 129, 196, 146, 196, 147, 196, 170, 196, 171, 197, 140, 197, 141, 197, 170, 197, 171, 196, 130, 196, 131, 196, 148, 196, 149, 196, 158, 196, 159, 196, 172, 196, 173, 197, 142, 197, 143, 197, 172, 197, 173, 196, 138, 196, 139, 196, 150, 196, 151, 196, 160, 196, 161, 196, 176, 197, 187, 197, 188, 195, 132, 195, 139, 195, 143, 195, 150, 195, 156, 195, 164, 195, 171, 195, 175, 195, 182, 195, 188, 195, 191, 197, 184, 195, 133, 195, 165, 197, 174, 197, 175, 197, 144, 197, 145, 197, 176, 197, 177, 196, 140, 196, 141, 196, 142, 196, 143, 196, 154, 196, 155, 197, 135, 197, 136, 197, 152, 197, 153, 197, 160, 197, 161, 197, 164, 197, 165, 197, 189, 197, 190, 196, 189, 196, 190, 195, 135, 195, 167, 196, 162, 196, 163, 196, 182, 196, 183, 196, 187, 196, 188, 197, 133, 197, 134, 197, 150, 197, 151, 197, 158, 197, 159, 197, 162, 197, 163, 196, 132, 196, 133, 196, 152, 196, 153, 196, 174, 196, 175, 197, 178, 197, 179, 195, 134, 195, 166, 195, 152, 195, 184, 195, 144, 195, 176, 195, 158, 195, 190, 195, 159, 196, 144, 196, 145, 196, 166, 196, 167, 196, 177, 197, 129, 197, 130, 197, 146, 197, 147, 197, 138, 197, 139, 197, 166, 197, 167] : Str) x1116).bind fun x1137 =>
             if x1137 = true then
              some (1, 1)
             else
              (m196 x1116 768 772).bind fun x1140 =>
              if x1140 = true then
               some (0, 2)
              else
               (m196 x1116 774 776).bind fun x1143 =>
               if x1143 = true then
                some (0, 2)
               else
                (m196 x1116 778 780).bind fun x1146 =>
                if x1146 = true then
                 some (0, 2)
                else
                 if x1116 = 803 then
                  some (0, 2)
                 else
                  if x1116 = 807 then
                   some (0, 2)
                  else
                   if x1116 = 808 then
                    some (0, 2)
                   else
                    (m196 x1116 913 929).bind fun x1152 =>
                    if x1152 = true then
                     some (2, 1)
                    else
                     (m196 x1116 931 937).bind fun x1155 =>
                     if x1155 = true then
                      some (2, 1)
                     else
                      (m196 x1116 945 969).bind fun x1158 =>
                      if x1158 = true then
                       some (2, 1)
                      else
                       (m197 ([206, 134, 206, 136, 206, 137, 206, 138, 206, 140, 206, 142, 206, 143, 206, 172, 206, 173, 206, 174, 206, 175, 207, 140, 207, 141, 207, 142, 206, 170, 206, 171, 207, 138, 207, 139] : Str) x1116).bind fun x1161 =>
                       if x1161 = true then
                        some (2, 1)
                       else
                        (m196 x1116 1040 1103).bind fun x1164 =>
                        if x1164 = true then
                         some (3, 1)
                        else
                         (m197 ([208, 129, 209, 145, 208, 135, 209, 151, 208, 132, 209, 148, 210, 144, 210, 145, 208, 142, 209, 158, 208, 134, 209, 150] : Str) x1116).bind fun x1167 =>
                         if x1167 = true then
                          some (3, 1)
                         else
                          (m196 x1116 33 126).bind fun x1170 =>
                          if x1170 = true then
                           some (0, 5)
                          else
                           some (0, 0)
def post177 (r : (Int × Int)) (v : Value) (fs : List Fact) : Prop := v = .tuple #[.int .i64 r.1, .int .i64 r.2] ∧ fs = [((Ty.int .i64).fact r.1 [.int .i64 r.1]), ((Ty.int .i64).fact r.2 [.int .i64 r.2])]
theorem en177 : Enters Tryz.prog 177 := ⟨_, Tryz.func177, by kernel_rfl, rfl⟩
theorem f177_spec {a0 : Int} {r : (Int × Int)} (hr : m177 a0 = some r) : Spec Tryz.prog 177 [.int .i64 a0] [((Ty.int .i64).fact a0 [.int .i64 a0])] (post177 r) := by
 refine spec_start (N := 101) Tryz.func177 (by kernel_rfl) rfl rfl rfl ?_
 intro g hS
 unfold m177 at hr
 refine at_inv 0 rfl (fun l1113 => ?_)
 replace l1113 : (-9223372036854775808) ≤ a0 ∧ a0 ≤ 9223372036854775807 := l1113
 refine s_sr (s_as rfl (s_as rfl (s_nt (at_seq (s_sr (s_mv rfl ?_))))))
 replace hr := obind hr
 obtain ⟨x1114, h1115, hr⟩ := hr
 refine at_int .i64 65281 (by simp only [lo, hi]; omega) (at_int .i64 65374 (by simp only [lo, hi]; omega) (at_hv rfl (hv_call0 [2, 1, 0] (f196_spec h1115) rfl rfl rfl rfl ?_)))
 rintro _ _ ⟨rfl, rfl⟩
 refine s_nt ?_
 replace hr := obind hr
 obtain ⟨x1116, hc1117, hr⟩ := hr
 refine at_cut (V := Unit) (fun e => (⟨[(0, .int .i64 x1116)], [], [], [((Ty.int .i64).fact x1116 [.int .i64 x1116])]⟩ : St)) ?_ ?_
 ·clear hr
  have hr := hc1117
  clear hc1117
  by_cases h1118 : x1114 = true
  ·replace hr := ipos h1118 hr
   refine at_true rfl h1118 (at_region (s_mv rfl (at_lt (lt_subw rfl rfl) rfl (s_as rfl (at_nil ?_)))))
   have hq := oinj hr
   clear hr
   subst hq
   refine at_int .i64 (IntKind.i64.wrap (a0 - 65248)) (wrap_bd .i64 _) ?_
   exact at_leaf () ⟨⟨rfl, trivial⟩, ⟨[], rfl⟩, ⟨[], rfl⟩, ⟨[0], rfl⟩⟩
  replace hr := ineg h1118 hr
  refine at_false rfl (bf h1118) (at_skip ?_)
  have hq := oinj hr
  clear hr
  subst hq
  exact at_leaf () ⟨⟨rfl, trivial⟩, ⟨[], rfl⟩, ⟨[], rfl⟩, ⟨[2], rfl⟩⟩
 clear hc1117
 intro _
 change At _ _ (⟨[(0, .int .i64 x1116)], [], [], [((Ty.int .i64).fact x1116 [.int .i64 x1116])]⟩ : St) _
 refine at_inv 0 rfl (fun l1119 => ?_)
 replace l1119 : (-9223372036854775808) ≤ x1116 ∧ x1116 ≤ 9223372036854775807 := l1119
 refine at_then (at_seq (at_block (s_sr (s_mv rfl (at_lt (lt_eql rfl rfl) rfl (s_mv rfl ?_))))))
 by_cases h1120 : x1116 = 32
 ·replace hr := ipos h1120 hr
  refine at_off rfl rfl (decide_eq_true (by first | exact h1120 | omega)) rfl ?_
  refine at_off rfl rfl (decide_eq_true (by first | exact h1120 | omega)) rfl ?_
  refine at_lt (lt_pick true rfl (decide_eq_true (by first | exact h1120 | omega)) rfl) rfl ?_
  refine s_as rfl (s_nt (at_true rfl rfl (s_sr (s_as rfl (s_as rfl (s_nt (at_ret ?_)))))))
  have hq := oinj hr
  clear hr
  subst hq
  refine at_in_ret (at_then_ret (at_int .i64 0 (by simp only [lo, hi]; omega) (at_int .i64 4 (by simp only [lo, hi]; omega) ?_)))
  exact at_return (.tuple #[.int .i64 0, .int .i64 4]) [1, 0] hS Tryz.results177 (.cons (.tmp rfl) (.cons (.tmp rfl) .nil)) rfl rfl ⟨rfl, rfl⟩
 replace hr := ineg h1120 hr
 refine at_on rfl rfl (decide_eq_false (by first | exact h1120 | omega)) ?_
 refine s_mv rfl ?_
 refine at_on rfl rfl (decide_eq_false (by first | exact h1120 | omega)) ?_
 refine at_lt (lt_eql rfl rfl) rfl ?_
 refine at_lt (lt_pick false rfl (decide_eq_false (by first | exact h1120 | omega)) rfl) rfl ?_
 refine s_as rfl (s_nt ?_)
 by_cases h1121 : x1116 = 160
 ·replace hr := ipos h1121 hr
  refine at_true rfl (decide_eq_true (by first | exact h1121 | omega)) ?_
  refine s_sr (s_as rfl (s_as rfl (s_nt (at_ret ?_))))
  have hq := oinj hr
  clear hr
  subst hq
  refine at_in_ret (at_then_ret (at_int .i64 0 (by simp only [lo, hi]; omega) (at_int .i64 4 (by simp only [lo, hi]; omega) ?_)))
  exact at_return (.tuple #[.int .i64 0, .int .i64 4]) [1, 0] hS Tryz.results177 (.cons (.tmp rfl) (.cons (.tmp rfl) .nil)) rfl rfl ⟨rfl, rfl⟩
 replace hr := ineg h1121 hr
 refine at_false rfl (decide_eq_false (by first | exact h1121 | omega)) ?_
 refine s_sr (s_mv rfl ?_)
 replace hr := obind hr
 obtain ⟨x1122, h1123, hr⟩ := hr
 refine at_int .i64 48 (by simp only [lo, hi]; omega) (at_int .i64 57 (by simp only [lo, hi]; omega) (at_hv rfl (hv_call0 [2, 1, 0] (f196_spec h1123) rfl rfl rfl rfl ?_)))
 rintro _ _ ⟨rfl, rfl⟩
 refine s_mv rfl ?_
 by_cases h1124 : x1122 = true
 ·replace hr := ipos h1124 hr
  refine at_off rfl rfl h1124 rfl (at_off rfl rfl h1124 rfl (at_lt (lt_pick true rfl h1124 rfl) rfl (s_mv rfl (at_off rfl rfl rfl rfl (at_off rfl rfl rfl rfl (at_lt (lt_pick true rfl rfl rfl) rfl (s_mv rfl (at_off rfl rfl rfl rfl (at_off rfl rfl rfl rfl ?_)))))))))
  refine at_lt (lt_pick true rfl rfl rfl) rfl (s_as rfl (s_nt (at_true rfl rfl (s_sr (s_as rfl (s_as rfl (s_nt (at_ret ?_))))))))
  have hq := oinj hr
  clear hr
  subst hq
  refine at_in_ret (at_then_ret (at_int .i64 0 (by simp only [lo, hi]; omega) (at_int .i64 3 (by simp only [lo, hi]; omega) ?_)))
  exact at_return (.tuple #[.int .i64 0, .int .i64 3]) [1, 0] hS Tryz.results177 (.cons (.tmp rfl) (.cons (.tmp rfl) .nil)) rfl rfl ⟨rfl, rfl⟩
 replace hr := ineg h1124 hr
 refine at_on rfl rfl (bf h1124) (s_mv rfl (at_on rfl rfl (bf h1124) (at_lt (lt_eql rfl rfl) rfl (at_lt (lt_pick false rfl (bf h1124) rfl) rfl (s_mv rfl ?_)))))
 by_cases h1125 : x1116 = 178
 ·replace hr := ipos h1125 hr
  refine at_off rfl rfl (decide_eq_true (by first | exact h1125 | omega)) rfl ?_
  refine at_off rfl rfl (decide_eq_true (by first | exact h1125 | omega)) rfl ?_
  refine at_lt (lt_pick true rfl (decide_eq_true (by first | exact h1125 | omega)) rfl) rfl ?_
  refine s_mv rfl (at_off rfl rfl rfl rfl (at_off rfl rfl rfl rfl (at_lt (lt_pick true rfl rfl rfl) rfl (s_as rfl (s_nt (at_true rfl rfl (s_sr (s_as rfl (s_as rfl ?_)))))))))
  refine s_nt (at_ret ?_)
  have hq := oinj hr
  clear hr
  subst hq
  refine at_in_ret (at_then_ret (at_int .i64 0 (by simp only [lo, hi]; omega) (at_int .i64 3 (by simp only [lo, hi]; omega) ?_)))
  exact at_return (.tuple #[.int .i64 0, .int .i64 3]) [1, 0] hS Tryz.results177 (.cons (.tmp rfl) (.cons (.tmp rfl) .nil)) rfl rfl ⟨rfl, rfl⟩
 replace hr := ineg h1125 hr
 refine at_on rfl rfl (decide_eq_false (by first | exact h1125 | omega)) ?_
 refine s_mv rfl ?_
 refine at_on rfl rfl (decide_eq_false (by first | exact h1125 | omega)) ?_
 refine at_lt (lt_eql rfl rfl) rfl ?_
 refine at_lt (lt_pick false rfl (decide_eq_false (by first | exact h1125 | omega)) rfl) rfl ?_
 refine s_mv rfl ?_
 by_cases h1126 : x1116 = 179
 ·replace hr := ipos h1126 hr
  refine at_off rfl rfl (decide_eq_true (by first | exact h1126 | omega)) rfl ?_
  refine at_off rfl rfl (decide_eq_true (by first | exact h1126 | omega)) rfl ?_
  refine at_lt (lt_pick true rfl (decide_eq_true (by first | exact h1126 | omega)) rfl) rfl ?_
  refine s_as rfl (s_nt (at_true rfl rfl (s_sr (s_as rfl (s_as rfl (s_nt (at_ret ?_)))))))
  have hq := oinj hr
  clear hr
  subst hq
  refine at_in_ret (at_then_ret (at_int .i64 0 (by simp only [lo, hi]; omega) (at_int .i64 3 (by simp only [lo, hi]; omega) ?_)))
  exact at_return (.tuple #[.int .i64 0, .int .i64 3]) [1, 0] hS Tryz.results177 (.cons (.tmp rfl) (.cons (.tmp rfl) .nil)) rfl rfl ⟨rfl, rfl⟩
 replace hr := ineg h1126 hr
 refine at_on rfl rfl (decide_eq_false (by first | exact h1126 | omega)) ?_
 refine s_mv rfl ?_
 refine at_on rfl rfl (decide_eq_false (by first | exact h1126 | omega)) ?_
 refine at_lt (lt_eql rfl rfl) rfl ?_
 refine at_lt (lt_pick false rfl (decide_eq_false (by first | exact h1126 | omega)) rfl) rfl ?_
 refine s_as rfl (s_nt ?_)
 by_cases h1127 : x1116 = 185
 ·replace hr := ipos h1127 hr
  refine at_true rfl (decide_eq_true (by first | exact h1127 | omega)) ?_
  refine s_sr (s_as rfl (s_as rfl (s_nt (at_ret ?_))))
  have hq := oinj hr
  clear hr
  subst hq
  refine at_in_ret (at_then_ret (at_int .i64 0 (by simp only [lo, hi]; omega) (at_int .i64 3 (by simp only [lo, hi]; omega) ?_)))
  exact at_return (.tuple #[.int .i64 0, .int .i64 3]) [1, 0] hS Tryz.results177 (.cons (.tmp rfl) (.cons (.tmp rfl) .nil)) rfl rfl ⟨rfl, rfl⟩
 replace hr := ineg h1127 hr
 refine at_false rfl (decide_eq_false (by first | exact h1127 | omega)) ?_
 refine s_sr (s_mv rfl ?_)
 replace hr := obind hr
 obtain ⟨x1128, h1129, hr⟩ := hr
 refine at_int .i64 65 (by simp only [lo, hi]; omega) (at_int .i64 90 (by simp only [lo, hi]; omega) (at_hv rfl (hv_call0 [4, 1, 0] (f196_spec h1129) rfl rfl rfl rfl ?_)))
 rintro _ _ ⟨rfl, rfl⟩
 refine s_mv rfl ?_
 by_cases h1130 : x1128 = true
 ·replace hr := ipos h1130 hr
  refine at_off rfl rfl h1130 rfl (at_off rfl rfl h1130 rfl (at_lt (lt_pick true rfl h1130 rfl) rfl (s_mv rfl (at_off rfl rfl rfl rfl (at_off rfl rfl rfl rfl (at_lt (lt_pick true rfl rfl rfl) rfl (s_mv rfl (at_off rfl rfl rfl rfl (at_off rfl rfl rfl rfl ?_)))))))))
  refine at_lt (lt_pick true rfl rfl rfl) rfl (s_mv rfl (at_off rfl rfl rfl rfl (at_off rfl rfl rfl rfl (at_lt (lt_pick true rfl rfl rfl) rfl (s_mv rfl (at_off rfl rfl rfl rfl (at_off rfl rfl rfl rfl (at_lt (lt_pick true rfl rfl rfl) rfl (s_as rfl ?_)))))))))
  refine s_nt (at_true rfl rfl (s_sr (s_as rfl (s_as rfl (s_nt (at_ret ?_))))))
  have hq := oinj hr
  clear hr
  subst hq
  refine at_in_ret (at_then_ret (at_int .i64 1 (by simp only [lo, hi]; omega) ?_))
  exact at_return (.tuple #[.int .i64 1, .int .i64 1]) [0, 0] hS Tryz.results177 (.cons (.tmp rfl) (.cons (.tmp rfl) .nil)) rfl rfl ⟨rfl, rfl⟩
 replace hr := ineg h1130 hr
 refine at_on rfl rfl (bf h1130) (s_mv rfl ?_)
 replace hr := obind hr
 obtain ⟨x1131, h1132, hr⟩ := hr
 refine at_int .i64 97 (by simp only [lo, hi]; omega) (at_int .i64 122 (by simp only [lo, hi]; omega) (at_on rfl rfl (bf h1130) (at_hv rfl (hv_call0 [6, 1, 0] (f196_spec h1132) rfl rfl rfl rfl ?_))))
 rintro _ _ ⟨rfl, rfl⟩
 refine at_lt (lt_pick false rfl (bf h1130) rfl) rfl (s_mv rfl ?_)
 by_cases h1133 : x1131 = true
 ·replace hr := ipos h1133 hr
  refine at_off rfl rfl h1133 rfl (at_off rfl rfl h1133 rfl (at_lt (lt_pick true rfl h1133 rfl) rfl (s_mv rfl (at_off rfl rfl rfl rfl (at_off rfl rfl rfl rfl (at_lt (lt_pick true rfl rfl rfl) rfl (s_mv rfl (at_off rfl rfl rfl rfl (at_off rfl rfl rfl rfl ?_)))))))))
  refine at_lt (lt_pick true rfl rfl rfl) rfl (s_mv rfl (at_off rfl rfl rfl rfl (at_off rfl rfl rfl rfl (at_lt (lt_pick true rfl rfl rfl) rfl (s_as rfl (s_nt (at_true rfl rfl (s_sr (s_as rfl ?_)))))))))
  refine s_as rfl (s_nt (at_ret ?_))
  have hq := oinj hr
  clear hr
  subst hq
  refine at_in_ret (at_then_ret (at_int .i64 1 (by simp only [lo, hi]; omega) ?_))
  exact at_return (.tuple #[.int .i64 1, .int .i64 1]) [0, 0] hS Tryz.results177 (.cons (.tmp rfl) (.cons (.tmp rfl) .nil)) rfl rfl ⟨rfl, rfl⟩
 replace hr := ineg h1133 hr
 refine at_on rfl rfl (bf h1133) (s_mv rfl (at_on rfl rfl (bf h1133) (at_lt (lt_eql rfl rfl) rfl (at_lt (lt_pick false rfl (bf h1133) rfl) rfl (s_mv rfl ?_)))))
 by_cases h1134 : x1116 = 383
 ·replace hr := ipos h1134 hr
  refine at_off rfl rfl (decide_eq_true (by first | exact h1134 | omega)) rfl ?_
  refine at_off rfl rfl (decide_eq_true (by first | exact h1134 | omega)) rfl ?_
  refine at_lt (lt_pick true rfl (decide_eq_true (by first | exact h1134 | omega)) rfl) rfl ?_
  refine s_mv rfl (at_off rfl rfl rfl rfl (at_off rfl rfl rfl rfl (at_lt (lt_pick true rfl rfl rfl) rfl (s_mv rfl (at_off rfl rfl rfl rfl (at_off rfl rfl rfl rfl (at_lt (lt_pick true rfl rfl rfl) rfl (s_as rfl (s_nt ?_)))))))))
  refine at_true rfl rfl (s_sr (s_as rfl (s_as rfl (s_nt (at_ret ?_)))))
  have hq := oinj hr
  clear hr
  subst hq
  refine at_in_ret (at_then_ret (at_int .i64 1 (by simp only [lo, hi]; omega) ?_))
  exact at_return (.tuple #[.int .i64 1, .int .i64 1]) [0, 0] hS Tryz.results177 (.cons (.tmp rfl) (.cons (.tmp rfl) .nil)) rfl rfl ⟨rfl, rfl⟩
 replace hr := ineg h1134 hr
 refine at_on rfl rfl (decide_eq_false (by first | exact h1134 | omega)) ?_
 refine s_mv rfl ?_
 refine at_on rfl rfl (decide_eq_false (by first | exact h1134 | omega)) ?_
 refine at_lt (lt_eql rfl rfl) rfl ?_
 refine at_lt (lt_pick false rfl (decide_eq_false (by first | exact h1134 | omega)) rfl) rfl ?_
 refine s_mv rfl ?_
 by_cases h1135 : x1116 = 64257
 ·replace hr := ipos h1135 hr
  refine at_off rfl rfl (decide_eq_true (by first | exact h1135 | omega)) rfl ?_
  refine at_off rfl rfl (decide_eq_true (by first | exact h1135 | omega)) rfl ?_
  refine at_lt (lt_pick true rfl (decide_eq_true (by first | exact h1135 | omega)) rfl) rfl ?_
  refine s_mv rfl (at_off rfl rfl rfl rfl (at_off rfl rfl rfl rfl (at_lt (lt_pick true rfl rfl rfl) rfl (s_as rfl (s_nt (at_true rfl rfl (s_sr (s_as rfl (s_as rfl ?_)))))))))
  refine s_nt (at_ret ?_)
  have hq := oinj hr
  clear hr
  subst hq
  refine at_in_ret (at_then_ret (at_int .i64 1 (by simp only [lo, hi]; omega) ?_))
  exact at_return (.tuple #[.int .i64 1, .int .i64 1]) [0, 0] hS Tryz.results177 (.cons (.tmp rfl) (.cons (.tmp rfl) .nil)) rfl rfl ⟨rfl, rfl⟩
 replace hr := ineg h1135 hr
 refine at_on rfl rfl (decide_eq_false (by first | exact h1135 | omega)) ?_
 refine s_mv rfl ?_
 refine at_on rfl rfl (decide_eq_false (by first | exact h1135 | omega)) ?_
 refine at_lt (lt_eql rfl rfl) rfl ?_
 refine at_lt (lt_pick false rfl (decide_eq_false (by first | exact h1135 | omega)) rfl) rfl ?_
 refine s_mv rfl ?_
 by_cases h1136 : x1116 = 64258
 ·replace hr := ipos h1136 hr
  refine at_off rfl rfl (decide_eq_true (by first | exact h1136 | omega)) rfl ?_
  refine at_off rfl rfl (decide_eq_true (by first | exact h1136 | omega)) rfl ?_
  refine at_lt (lt_pick true rfl (decide_eq_true (by first | exact h1136 | omega)) rfl) rfl ?_
  refine s_as rfl (s_nt (at_true rfl rfl (s_sr (s_as rfl (s_as rfl (s_nt (at_ret ?_)))))))
  have hq := oinj hr
  clear hr
  subst hq
  refine at_in_ret (at_then_ret (at_int .i64 1 (by simp only [lo, hi]; omega) ?_))
  exact at_return (.tuple #[.int .i64 1, .int .i64 1]) [0, 0] hS Tryz.results177 (.cons (.tmp rfl) (.cons (.tmp rfl) .nil)) rfl rfl ⟨rfl, rfl⟩
 replace hr := ineg h1136 hr
 refine at_on rfl rfl (decide_eq_false (by first | exact h1136 | omega)) ?_
 refine s_mv rfl ?_
 replace hr := obind hr
 obtain ⟨x1137, h1138, hr⟩ := hr
 refine at_str ([195, 128, 195, 136, 195, 140, 195, 146, 195, 153, 195, 160, 195, 168, 195, 172, 195, 178, 195, 185, 195, 129, 195, 137, 195, 141, 195, 147, 195, 154, 195, 157, 195, 161, 195, 169, 195, 173, 195, 179, 195, 186, 195, 189, 196, 134, 196, 135, 196, 185, 196, 186, 197, 131, 197, 132, 197, 148, 197, 149, 197, 154, 197, 155, 197, 185, 197, 186, 195, 130, 195, 138, 195, 142, 195, 148, 195, 155, 195, 162, 195, 170, 195, 174, 195, 180, 195, 187, 196, 136, 196, 137, 196, 156, 196, 157, 196, 164, 196, 165, 196, 180, 196, 181, 197, 156, 197, 157, 197, 180, 197, 181, 197, 182, 197, 183, 195, 131, 195, 145, 195, 149, 195, 163, 195, 177, 195, 181, 196, 168, 196, 169, 197, 168, 197, 169, 196, 128, 196, 129, 196, 146, 196, 147, 196, 170, 196, 171, 197, 140, 197, 141, 197, 170, 197, 171, 196, 130, 196, 131, 196, 148, 196, 149, 196, 158, 196, 159, 196, 172, 196, 173, 197, 142, 197, 143, 197, 172, 197, 173, 196, 138, 196, 139, 196, 150, 196, 151, 196, 160, 196, 161, 196, 176, 197, 187, 197, 188, 195, 132, 195, 139, 195, 143, 195, 150, 195, 156, 195, 164, 195, 171, 195, 175, 195, 182, 195, 188, 195, 191, 197, 184, 195, 133, 195, 165, 197, 174, 197, 175, 197, 144, 197, 145, 197, 176, 197, 177, 196, 140, 196, 141, 196, 142, 196, 143, 196, 154, 196, 155, 197, 135, 197, 136, 197, 152, 197, 153, 197, 160, 197, 161, 197, 164, 197, 165, 197, 189, 197, 190, 196, 189, 196, 190, 195, 135, 195, 167, 196, 162, 196, 163, 196, 182, 196, 183, 196, 187, 196, 188, 197, 133, 197, 134, 197, 150, 197, 151, 197, 158, 197, 159, 197, 162, 197, 163, 196, 132, 196, 133, 196, 152, 196, 153, 196, 174, 196, 175, 197, 178, 197, 179, 195, 134, 195, 166, 195, 152, 195, 184, 195, 144, 195, 176, 195, 158, 195, 190, 195, 159, 196, 144, 196, 145, 196, 166, 196, 167, 196, 177, 197, 129, 197, 130, 197, 146, 197, 147, 197, 138, 197, 139, 197, 166, 197, 167] : Str) (by decide) ?_
 refine at_on rfl rfl (decide_eq_false (by first | exact h1136 | omega)) ?_
 refine at_hv rfl (hv_call0 [0, 7] (f197_spec h1138) rfl rfl rfl rfl ?_)
 rintro _ _ ⟨rfl, rfl⟩
 refine at_lt (lt_pick false rfl (decide_eq_false (by first | exact h1136 | omega)) rfl) rfl ?_
 refine s_as rfl (s_nt ?_)
 by_cases h1139 : x1137 = true
 ·replace hr := ipos h1139 hr
  refine at_true rfl h1139 (s_sr (s_as rfl (s_as rfl (s_nt (at_ret ?_)))))
  have hq := oinj hr
  clear hr
  subst hq
  refine at_in_ret (at_then_ret (at_int .i64 1 (by simp only [lo, hi]; omega) ?_))
  exact at_return (.tuple #[.int .i64 1, .int .i64 1]) [0, 0] hS Tryz.results177 (.cons (.tmp rfl) (.cons (.tmp rfl) .nil)) rfl rfl ⟨rfl, rfl⟩
 replace hr := ineg h1139 hr
 refine at_false rfl (bf h1139) (s_sr (s_mv rfl ?_))
 replace hr := obind hr
 obtain ⟨x1140, h1141, hr⟩ := hr
 refine at_int .i64 768 (by simp only [lo, hi]; omega) (at_int .i64 772 (by simp only [lo, hi]; omega) (at_hv rfl (hv_call0 [9, 1, 0] (f196_spec h1141) rfl rfl rfl rfl ?_)))
 rintro _ _ ⟨rfl, rfl⟩
 refine s_mv rfl ?_
 by_cases h1142 : x1140 = true
 ·replace hr := ipos h1142 hr
  refine at_off rfl rfl h1142 rfl (at_off rfl rfl h1142 rfl (at_lt (lt_pick true rfl h1142 rfl) rfl (s_mv rfl (at_off rfl rfl rfl rfl (at_off rfl rfl rfl rfl (at_lt (lt_pick true rfl rfl rfl) rfl (s_mv rfl (at_off rfl rfl rfl rfl (at_off rfl rfl rfl rfl ?_)))))))))
  refine at_lt (lt_pick true rfl rfl rfl) rfl (s_mv rfl (at_off rfl rfl rfl rfl (at_off rfl rfl rfl rfl (at_lt (lt_pick true rfl rfl rfl) rfl (s_mv rfl (at_off rfl rfl rfl rfl (at_off rfl rfl rfl rfl (at_lt (lt_pick true rfl rfl rfl) rfl (s_as rfl ?_)))))))))
  refine s_nt (at_true rfl rfl (s_sr (s_as rfl (s_as rfl (s_nt (at_ret ?_))))))
  have hq := oinj hr
  clear hr
  subst hq
  refine at_in_ret (at_then_ret (at_int .i64 0 (by simp only [lo, hi]; omega) (at_int .i64 2 (by simp only [lo, hi]; omega) ?_)))
  exact at_return (.tuple #[.int .i64 0, .int .i64 2]) [1, 0] hS Tryz.results177 (.cons (.tmp rfl) (.cons (.tmp rfl) .nil)) rfl rfl ⟨rfl, rfl⟩
 replace hr := ineg h1142 hr
 refine at_on rfl rfl (bf h1142) (s_mv rfl ?_)
 replace hr := obind hr
 obtain ⟨x1143, h1144, hr⟩ := hr
 refine at_int .i64 774 (by simp only [lo, hi]; omega) (at_int .i64 776 (by simp only [lo, hi]; omega) (at_on rfl rfl (bf h1142) (at_hv rfl (hv_call0 [11, 1, 0] (f196_spec h1144) rfl rfl rfl rfl ?_))))
 rintro _ _ ⟨rfl, rfl⟩
 refine at_lt (lt_pick false rfl (bf h1142) rfl) rfl (s_mv rfl ?_)
 by_cases h1145 : x1143 = true
 ·replace hr := ipos h1145 hr
  refine at_off rfl rfl h1145 rfl (at_off rfl rfl h1145 rfl (at_lt (lt_pick true rfl h1145 rfl) rfl (s_mv rfl (at_off rfl rfl rfl rfl (at_off rfl rfl rfl rfl (at_lt (lt_pick true rfl rfl rfl) rfl (s_mv rfl (at_off rfl rfl rfl rfl (at_off rfl rfl rfl rfl ?_)))))))))
  refine at_lt (lt_pick true rfl rfl rfl) rfl (s_mv rfl (at_off rfl rfl rfl rfl (at_off rfl rfl rfl rfl (at_lt (lt_pick true rfl rfl rfl) rfl (s_as rfl (s_nt (at_true rfl rfl (s_sr (s_as rfl ?_)))))))))
  refine s_as rfl (s_nt (at_ret ?_))
  have hq := oinj hr
  clear hr
  subst hq
  refine at_in_ret (at_then_ret (at_int .i64 0 (by simp only [lo, hi]; omega) (at_int .i64 2 (by simp only [lo, hi]; omega) ?_)))
  exact at_return (.tuple #[.int .i64 0, .int .i64 2]) [1, 0] hS Tryz.results177 (.cons (.tmp rfl) (.cons (.tmp rfl) .nil)) rfl rfl ⟨rfl, rfl⟩
 replace hr := ineg h1145 hr
 refine at_on rfl rfl (bf h1145) (s_mv rfl ?_)
 replace hr := obind hr
 obtain ⟨x1146, h1147, hr⟩ := hr
 refine at_int .i64 778 (by simp only [lo, hi]; omega) (at_int .i64 780 (by simp only [lo, hi]; omega) (at_on rfl rfl (bf h1145) (at_hv rfl (hv_call0 [13, 1, 0] (f196_spec h1147) rfl rfl rfl rfl ?_))))
 rintro _ _ ⟨rfl, rfl⟩
 refine at_lt (lt_pick false rfl (bf h1145) rfl) rfl (s_mv rfl ?_)
 by_cases h1148 : x1146 = true
 ·replace hr := ipos h1148 hr
  refine at_off rfl rfl h1148 rfl (at_off rfl rfl h1148 rfl (at_lt (lt_pick true rfl h1148 rfl) rfl (s_mv rfl (at_off rfl rfl rfl rfl (at_off rfl rfl rfl rfl (at_lt (lt_pick true rfl rfl rfl) rfl (s_mv rfl (at_off rfl rfl rfl rfl (at_off rfl rfl rfl rfl ?_)))))))))
  refine at_lt (lt_pick true rfl rfl rfl) rfl (s_as rfl (s_nt (at_true rfl rfl (s_sr (s_as rfl (s_as rfl (s_nt (at_ret ?_))))))))
  have hq := oinj hr
  clear hr
  subst hq
  refine at_in_ret (at_then_ret (at_int .i64 0 (by simp only [lo, hi]; omega) (at_int .i64 2 (by simp only [lo, hi]; omega) ?_)))
  exact at_return (.tuple #[.int .i64 0, .int .i64 2]) [1, 0] hS Tryz.results177 (.cons (.tmp rfl) (.cons (.tmp rfl) .nil)) rfl rfl ⟨rfl, rfl⟩
 replace hr := ineg h1148 hr
 refine at_on rfl rfl (bf h1148) (s_mv rfl (at_on rfl rfl (bf h1148) (at_lt (lt_eql rfl rfl) rfl (at_lt (lt_pick false rfl (bf h1148) rfl) rfl (s_mv rfl ?_)))))
 by_cases h1149 : x1116 = 803
 ·replace hr := ipos h1149 hr
  refine at_off rfl rfl (decide_eq_true (by first | exact h1149 | omega)) rfl ?_
  refine at_off rfl rfl (decide_eq_true (by first | exact h1149 | omega)) rfl ?_
  refine at_lt (lt_pick true rfl (decide_eq_true (by first | exact h1149 | omega)) rfl) rfl ?_
  refine s_mv rfl (at_off rfl rfl rfl rfl (at_off rfl rfl rfl rfl (at_lt (lt_pick true rfl rfl rfl) rfl (s_as rfl (s_nt (at_true rfl rfl (s_sr (s_as rfl (s_as rfl ?_)))))))))
  refine s_nt (at_ret ?_)
  have hq := oinj hr
  clear hr
  subst hq
  refine at_in_ret (at_then_ret (at_int .i64 0 (by simp only [lo, hi]; omega) (at_int .i64 2 (by simp only [lo, hi]; omega) ?_)))
  exact at_return (.tuple #[.int .i64 0, .int .i64 2]) [1, 0] hS Tryz.results177 (.cons (.tmp rfl) (.cons (.tmp rfl) .nil)) rfl rfl ⟨rfl, rfl⟩
 replace hr := ineg h1149 hr
 refine at_on rfl rfl (decide_eq_false (by first | exact h1149 | omega)) ?_
 refine s_mv rfl ?_
 refine at_on rfl rfl (decide_eq_false (by first | exact h1149 | omega)) ?_
 refine at_lt (lt_eql rfl rfl) rfl ?_
 refine at_lt (lt_pick false rfl (decide_eq_false (by first | exact h1149 | omega)) rfl) rfl ?_
 refine s_mv rfl ?_
 by_cases h1150 : x1116 = 807
 ·replace hr := ipos h1150 hr
  refine at_off rfl rfl (decide_eq_true (by first | exact h1150 | omega)) rfl ?_
  refine at_off rfl rfl (decide_eq_true (by first | exact h1150 | omega)) rfl ?_
  refine at_lt (lt_pick true rfl (decide_eq_true (by first | exact h1150 | omega)) rfl) rfl ?_
  refine s_as rfl (s_nt (at_true rfl rfl (s_sr (s_as rfl (s_as rfl (s_nt (at_ret ?_)))))))
  have hq := oinj hr
  clear hr
  subst hq
  refine at_in_ret (at_then_ret (at_int .i64 0 (by simp only [lo, hi]; omega) (at_int .i64 2 (by simp only [lo, hi]; omega) ?_)))
  exact at_return (.tuple #[.int .i64 0, .int .i64 2]) [1, 0] hS Tryz.results177 (.cons (.tmp rfl) (.cons (.tmp rfl) .nil)) rfl rfl ⟨rfl, rfl⟩
 replace hr := ineg h1150 hr
 refine at_on rfl rfl (decide_eq_false (by first | exact h1150 | omega)) ?_
 refine s_mv rfl ?_
 refine at_on rfl rfl (decide_eq_false (by first | exact h1150 | omega)) ?_
 refine at_lt (lt_eql rfl rfl) rfl ?_
 refine at_lt (lt_pick false rfl (decide_eq_false (by first | exact h1150 | omega)) rfl) rfl ?_
 refine s_as rfl (s_nt ?_)
 by_cases h1151 : x1116 = 808
 ·replace hr := ipos h1151 hr
  refine at_true rfl (decide_eq_true (by first | exact h1151 | omega)) ?_
  refine s_sr (s_as rfl (s_as rfl (s_nt (at_ret ?_))))
  have hq := oinj hr
  clear hr
  subst hq
  refine at_in_ret (at_then_ret (at_int .i64 0 (by simp only [lo, hi]; omega) (at_int .i64 2 (by simp only [lo, hi]; omega) ?_)))
  exact at_return (.tuple #[.int .i64 0, .int .i64 2]) [1, 0] hS Tryz.results177 (.cons (.tmp rfl) (.cons (.tmp rfl) .nil)) rfl rfl ⟨rfl, rfl⟩
 replace hr := ineg h1151 hr
 refine at_false rfl (decide_eq_false (by first | exact h1151 | omega)) ?_
 refine s_sr (s_mv rfl ?_)
 replace hr := obind hr
 obtain ⟨x1152, h1153, hr⟩ := hr
 refine at_int .i64 913 (by simp only [lo, hi]; omega) (at_int .i64 929 (by simp only [lo, hi]; omega) (at_hv rfl (hv_call0 [15, 1, 0] (f196_spec h1153) rfl rfl rfl rfl ?_)))
 rintro _ _ ⟨rfl, rfl⟩
 refine s_mv rfl ?_
 by_cases h1154 : x1152 = true
 ·replace hr := ipos h1154 hr
  refine at_off rfl rfl h1154 rfl (at_off rfl rfl h1154 rfl (at_lt (lt_pick true rfl h1154 rfl) rfl (s_mv rfl (at_off rfl rfl rfl rfl (at_off rfl rfl rfl rfl (at_lt (lt_pick true rfl rfl rfl) rfl (s_mv rfl (at_off rfl rfl rfl rfl (at_off rfl rfl rfl rfl ?_)))))))))
  refine at_lt (lt_pick true rfl rfl rfl) rfl (s_as rfl (s_nt (at_true rfl rfl (s_sr (s_as rfl (s_as rfl (s_nt (at_ret ?_))))))))
  have hq := oinj hr
  clear hr
  subst hq
  refine at_in_ret (at_then_ret (at_int .i64 2 (by simp only [lo, hi]; omega) (at_int .i64 1 (by simp only [lo, hi]; omega) ?_)))
  exact at_return (.tuple #[.int .i64 2, .int .i64 1]) [1, 0] hS Tryz.results177 (.cons (.tmp rfl) (.cons (.tmp rfl) .nil)) rfl rfl ⟨rfl, rfl⟩
 replace hr := ineg h1154 hr
 refine at_on rfl rfl (bf h1154) (s_mv rfl ?_)
 replace hr := obind hr
 obtain ⟨x1155, h1156, hr⟩ := hr
 refine at_int .i64 931 (by simp only [lo, hi]; omega) (at_int .i64 937 (by simp only [lo, hi]; omega) (at_on rfl rfl (bf h1154) (at_hv rfl (hv_call0 [17, 1, 0] (f196_spec h1156) rfl rfl rfl rfl ?_))))
 rintro _ _ ⟨rfl, rfl⟩
 refine at_lt (lt_pick false rfl (bf h1154) rfl) rfl (s_mv rfl ?_)
 by_cases h1157 : x1155 = true
 ·replace hr := ipos h1157 hr
  refine at_off rfl rfl h1157 rfl (at_off rfl rfl h1157 rfl (at_lt (lt_pick true rfl h1157 rfl) rfl (s_mv rfl (at_off rfl rfl rfl rfl (at_off rfl rfl rfl rfl (at_lt (lt_pick true rfl rfl rfl) rfl (s_as rfl (s_nt (at_true rfl rfl ?_)))))))))
  refine s_sr (s_as rfl (s_as rfl (s_nt (at_ret ?_))))
  have hq := oinj hr
  clear hr
  subst hq
  refine at_in_ret (at_then_ret (at_int .i64 2 (by simp only [lo, hi]; omega) (at_int .i64 1 (by simp only [lo, hi]; omega) ?_)))
  exact at_return (.tuple #[.int .i64 2, .int .i64 1]) [1, 0] hS Tryz.results177 (.cons (.tmp rfl) (.cons (.tmp rfl) .nil)) rfl rfl ⟨rfl, rfl⟩
 replace hr := ineg h1157 hr
 refine at_on rfl rfl (bf h1157) (s_mv rfl ?_)
 replace hr := obind hr
 obtain ⟨x1158, h1159, hr⟩ := hr
 refine at_int .i64 945 (by simp only [lo, hi]; omega) (at_int .i64 969 (by simp only [lo, hi]; omega) (at_on rfl rfl (bf h1157) (at_hv rfl (hv_call0 [19, 1, 0] (f196_spec h1159) rfl rfl rfl rfl ?_))))
 rintro _ _ ⟨rfl, rfl⟩
 refine at_lt (lt_pick false rfl (bf h1157) rfl) rfl (s_mv rfl ?_)
 by_cases h1160 : x1158 = true
 ·replace hr := ipos h1160 hr
  refine at_off rfl rfl h1160 rfl (at_off rfl rfl h1160 rfl (at_lt (lt_pick true rfl h1160 rfl) rfl (s_as rfl (s_nt (at_true rfl rfl (s_sr (s_as rfl (s_as rfl (s_nt ?_)))))))))
  refine at_ret ?_
  have hq := oinj hr
  clear hr
  subst hq
  refine at_in_ret (at_then_ret (at_int .i64 2 (by simp only [lo, hi]; omega) (at_int .i64 1 (by simp only [lo, hi]; omega) ?_)))
  exact at_return (.tuple #[.int .i64 2, .int .i64 1]) [1, 0] hS Tryz.results177 (.cons (.tmp rfl) (.cons (.tmp rfl) .nil)) rfl rfl ⟨rfl, rfl⟩
 replace hr := ineg h1160 hr
 refine at_on rfl rfl (bf h1160) (s_mv rfl ?_)
 replace hr := obind hr
 obtain ⟨x1161, h1162, hr⟩ := hr
 refine at_str ([206, 134, 206, 136, 206, 137, 206, 138, 206, 140, 206, 142, 206, 143, 206, 172, 206, 173, 206, 174, 206, 175, 207, 140, 207, 141, 207, 142, 206, 170, 206, 171, 207, 138, 207, 139] : Str) (by decide) ?_
 refine at_on rfl rfl (bf h1160) (at_hv rfl (hv_call0 [0, 20] (f197_spec h1162) rfl rfl rfl rfl ?_))
 rintro _ _ ⟨rfl, rfl⟩
 refine at_lt (lt_pick false rfl (bf h1160) rfl) rfl (s_as rfl (s_nt ?_))
 by_cases h1163 : x1161 = true
 ·replace hr := ipos h1163 hr
  refine at_true rfl h1163 (s_sr (s_as rfl (s_as rfl (s_nt (at_ret ?_)))))
  have hq := oinj hr
  clear hr
  subst hq
  refine at_in_ret (at_then_ret (at_int .i64 2 (by simp only [lo, hi]; omega) (at_int .i64 1 (by simp only [lo, hi]; omega) ?_)))
  exact at_return (.tuple #[.int .i64 2, .int .i64 1]) [1, 0] hS Tryz.results177 (.cons (.tmp rfl) (.cons (.tmp rfl) .nil)) rfl rfl ⟨rfl, rfl⟩
 replace hr := ineg h1163 hr
 refine at_false rfl (bf h1163) (s_sr (s_mv rfl ?_))
 replace hr := obind hr
 obtain ⟨x1164, h1165, hr⟩ := hr
 refine at_int .i64 1040 (by simp only [lo, hi]; omega) (at_int .i64 1103 (by simp only [lo, hi]; omega) (at_hv rfl (hv_call0 [22, 1, 0] (f196_spec h1165) rfl rfl rfl rfl ?_)))
 rintro _ _ ⟨rfl, rfl⟩
 refine s_mv rfl ?_
 by_cases h1166 : x1164 = true
 ·replace hr := ipos h1166 hr
  refine at_off rfl rfl h1166 rfl (at_off rfl rfl h1166 rfl (at_lt (lt_pick true rfl h1166 rfl) rfl (s_as rfl (s_nt (at_true rfl rfl (s_sr (s_as rfl (s_as rfl (s_nt ?_)))))))))
  refine at_ret ?_
  have hq := oinj hr
  clear hr
  subst hq
  refine at_in_ret (at_then_ret (at_int .i64 3 (by simp only [lo, hi]; omega) (at_int .i64 1 (by simp only [lo, hi]; omega) ?_)))
  exact at_return (.tuple #[.int .i64 3, .int .i64 1]) [1, 0] hS Tryz.results177 (.cons (.tmp rfl) (.cons (.tmp rfl) .nil)) rfl rfl ⟨rfl, rfl⟩
 replace hr := ineg h1166 hr
 refine at_on rfl rfl (bf h1166) (s_mv rfl ?_)
 replace hr := obind hr
 obtain ⟨x1167, h1168, hr⟩ := hr
 refine at_str ([208, 129, 209, 145, 208, 135, 209, 151, 208, 132, 209, 148, 210, 144, 210, 145, 208, 142, 209, 158, 208, 134, 209, 150] : Str) (by decide) ?_
 refine at_on rfl rfl (bf h1166) (at_hv rfl (hv_call0 [0, 23] (f197_spec h1168) rfl rfl rfl rfl ?_))
 rintro _ _ ⟨rfl, rfl⟩
 refine at_lt (lt_pick false rfl (bf h1166) rfl) rfl (s_as rfl (s_nt ?_))
 by_cases h1169 : x1167 = true
 ·replace hr := ipos h1169 hr
  refine at_true rfl h1169 (s_sr (s_as rfl (s_as rfl (s_nt (at_ret ?_)))))
  have hq := oinj hr
  clear hr
  subst hq
  refine at_in_ret (at_then_ret (at_int .i64 3 (by simp only [lo, hi]; omega) (at_int .i64 1 (by simp only [lo, hi]; omega) ?_)))
  exact at_return (.tuple #[.int .i64 3, .int .i64 1]) [1, 0] hS Tryz.results177 (.cons (.tmp rfl) (.cons (.tmp rfl) .nil)) rfl rfl ⟨rfl, rfl⟩
 replace hr := ineg h1169 hr
 refine at_false rfl (bf h1169) (s_sr (s_mv rfl ?_))
 replace hr := obind hr
 obtain ⟨x1170, h1171, hr⟩ := hr
 refine at_int .i64 33 (by simp only [lo, hi]; omega) (at_int .i64 126 (by simp only [lo, hi]; omega) (at_hv rfl (hv_call0 [25, 1, 0] (f196_spec h1171) rfl rfl rfl rfl ?_)))
 rintro _ _ ⟨rfl, rfl⟩
 refine s_as rfl (s_nt ?_)
 by_cases h1172 : x1170 = true
 ·replace hr := ipos h1172 hr
  refine at_true rfl h1172 (s_sr (s_as rfl (s_as rfl (s_nt (at_ret ?_)))))
  have hq := oinj hr
  clear hr
  subst hq
  refine at_in_ret (at_then_ret (at_int .i64 0 (by simp only [lo, hi]; omega) (at_int .i64 5 (by simp only [lo, hi]; omega) ?_)))
  exact at_return (.tuple #[.int .i64 0, .int .i64 5]) [1, 0] hS Tryz.results177 (.cons (.tmp rfl) (.cons (.tmp rfl) .nil)) rfl rfl ⟨rfl, rfl⟩
 replace hr := ineg h1172 hr
 refine at_false rfl (bf h1172) (at_skip (at_in (s_tsr (s_as rfl (s_as rfl (s_nt (at_ret ?_)))))))
 have hq := oinj hr
 clear hr
 subst hq
 refine at_int .i64 0 (by simp only [lo, hi]; omega) ?_
 exact at_return (.tuple #[.int .i64 0, .int .i64 0]) [0, 0] hS Tryz.results177 (.cons (.tmp rfl) (.cons (.tmp rfl) .nil)) rfl rfl ⟨rfl, rfl⟩
def m152 (a0 : Int) : Option Bool :=
  (m177 a0).bind fun x1174 =>
  some (!decide (x1174.2 = 0))
def post152 (r : Bool) (v : Value) (fs : List Fact) : Prop := v = .bool r ∧ fs = []
theorem en152 : Enters Tryz.prog 152 := ⟨_, Tryz.func152, by kernel_rfl, rfl⟩
theorem f152_spec {a0 : Int} {r : Bool} (hr : m152 a0 = some r) : Spec Tryz.prog 152 [.int .i64 a0] [((Ty.int .i64).fact a0 [.int .i64 a0])] (post152 r) := by
 refine spec_start (N := 12) Tryz.func152 (by kernel_rfl) rfl rfl rfl ?_
 intro g hS
 unfold m152 at hr
 refine at_inv 0 rfl (fun l1173 => ?_)
 replace l1173 : (-9223372036854775808) ≤ a0 ∧ a0 ≤ 9223372036854775807 := l1173
 refine s_sr (s_as rfl (s_ntsr (s_mv rfl ?_)))
 replace hr := obind hr
 obtain ⟨x1174, h1175, hr⟩ := hr
 refine at_hv rfl (hv_call0 [0] (f177_spec h1175) rfl rfl rfl rfl ?_)
 rintro _ _ ⟨rfl, rfl⟩
 refine at_inv 0 rfl (fun l1176 => ?_)
 replace l1176 : (-9223372036854775808) ≤ x1174.1 ∧ x1174.1 ≤ 9223372036854775807 := l1176
 refine at_inv 1 rfl (fun l1177 => ?_)
 replace l1177 : (-9223372036854775808) ≤ x1174.2 ∧ x1174.2 ≤ 9223372036854775807 := l1177
 refine s_mv rfl (at_lt (lt_extract rfl rfl) rfl (at_lt (lt_extract rfl rfl) rfl (s_as rfl (s_as rfl (s_ntsr (s_mv rfl (at_lt (lt_neq rfl rfl) rfl (s_as rfl (s_nt ?_)))))))))
 refine at_ret ?_
 have hq := oinj hr
 clear hr
 subst hq
 exact at_return (.bool (!decide (x1174.2 = 0))) [] hS Tryz.results152 (.cons (.tmp rfl) .nil) rfl rfl ⟨rfl, rfl⟩
def m127_l1 (a0 : Str) : Nat → (List Int) → Int → Option (Fl ((List Int) × Bool) (List Int))
  | 0, _, _ => none
  | k + 1, x1178, x1179 =>
    if x1179 < (a0.length : Int) then
     (m151 a0 x1179).bind fun x1193 =>
     if x1193.2 = 0 then
      some (Fl.ret (([] : (List Int)), false))
     else
      (m152 x1193.1).bind fun x1198 =>
      if x1198 = true then
       if x1178.length + 1 ≤ 17592186044416 then
        m127_l1 a0 k (x1178 ++ [x1193.1]) (IntKind.i64.wrap (x1179 + x1193.2))
       else none
      else
       some (Fl.ret (([] : (List Int)), false))
    else
     some (Fl.go x1178)
def m127 (a0 : Str) : Option ((List Int) × Bool) :=
  (m127_l1 a0 (a0.length + 1) ([] : (List Int)) 0).bind fun r => match r with
  | .ret x => some x
  | .go x1183 =>
   some (x1183, true)
def post127 (r : ((List Int) × Bool)) (v : Value) (fs : List Fact) : Prop := ∃ s1206 : Value, v = .tuple #[s1206, .bool r.2] ∧ fs = [((Ty.slice (Ty.int .i64)).fact r.1 [s1206])]
theorem en127 : Enters Tryz.prog 127 := ⟨_, Tryz.func127, by kernel_rfl, rfl⟩
theorem f127_spec {a0 : Str} {r : ((List Int) × Bool)} (hr : m127 a0 = some r) : Spec Tryz.prog 127 [str a0] [(Ty.str.fact a0 [str a0])] (post127 r) := by
 refine spec_start (N := 33) Tryz.func127 (by kernel_rfl) rfl rfl rfl ?_
 intro g hS
 unfold m127 at hr
 refine s_sr (s_as rfl (s_as rfl (s_ntsr (s_as rfl (s_nt (at_seq (s_sr (s_as rfl (s_nt ?_)))))))))
 refine at_rownew none 3 1 (at_rownil (Ty.int .i64) ?_)
 refine at_mkpure (q := (([] : (List Int)).length * (Ty.int .i64).bytes ≤ 140737488355328)) (by simp only [List.nil_append, List.cons_append, List.length_cons, List.length_nil, Ty.int_bytes, Ty.u8_bytes, Ty.str_bytes, Ty.slice_bytes, Ty.bool_bytes, nb] <;> omega) ?_
 refine at_int .i64 0 (by simp only [lo, hi]; omega) ?_
 replace hr := obind hr
 obtain ⟨r1187, hl1188, hk1189⟩ := hr
 refine at_cutP (V := ((List Int)) × (Value × Nat × (List Value))) (fun v => r1187 = Fl.go v.1) (fun v => (⟨[(4, v.2.1)], [], [⟨v.2.1, 3, 1, v.2.2.1, v.2.2.2⟩], [((Ty.int .i64).row v.1 v.2.2.2), (pureF (v.1.length * (Ty.int .i64).bytes ≤ 140737488355328))]⟩ : St)) ?_ ?_
 ·refine at_block ?_
  refine at_loopW (σ := ((List Int) × Int)) (V := Value × Nat × (List Value)) (r := r1187) (fun n s => m127_l1 a0 n s.1 s.2) (fun s e => (⟨[(0, str a0), (4, e.1), (5, .int .i64 s.2)], [], [⟨e.1, 3, 1, e.2.1, e.2.2⟩], [((Ty.int .i64).row s.1 e.2.2), (pureF (s.1.length * (Ty.int .i64).bytes ≤ 140737488355328)), ((Ty.int .i64).fact s.2 [.int .i64 s.2]), (Ty.str.fact a0 [str a0])]⟩ : St)) (fun _ => rfl) _ (([] : (List Int)), 0) ((.slice none 0 0), 0, []) hl1188 ⟨⟨rfl, ⟨rfl, ⟨rfl, trivial⟩⟩⟩, ⟨[], rfl⟩, ⟨[true], rfl⟩, ⟨[2, 1, 0, 3], rfl⟩⟩ ?_
  clear hl1188
  intro n s hr e
  obtain ⟨x1178, x1179⟩ := s
  obtain ⟨v1180, n1181, i1182⟩ := e
  change m127_l1 a0 (n + 1) x1178 x1179 = some r1187 at hr
  change At _ _ (⟨[(0, str a0), (4, v1180), (5, .int .i64 x1179)], [], [⟨v1180, 3, 1, n1181, i1182⟩], [((Ty.int .i64).row x1178 i1182), (pureF (x1178.length * (Ty.int .i64).bytes ≤ 140737488355328)), ((Ty.int .i64).fact x1179 [.int .i64 x1179]), (Ty.str.fact a0 [str a0])]⟩ : St) _
  rw [m127_l1] at hr
  refine at_inv 2 rfl (fun l1190 => ?_)
  replace l1190 : (-9223372036854775808) ≤ x1179 ∧ x1179 ≤ 9223372036854775807 := l1190
  refine at_seq (s_sr (s_mv rfl (s_mv rfl ?_)))
  refine at_inv 3 rfl (fun l1191 => ?_)
  replace l1191 : a0.length ≤ 9223372036854775807 := l1191
  refine at_lt (lt_slen rfl und9) rfl (at_lt (lt_lss rfl rfl) rfl (s_nt ?_))
  by_cases h1192 : x1179 < (a0.length : Int)
  ·replace hr := ipos h1192 hr
   refine at_true rfl (decide_eq_true (by first | exact h1192 | omega)) ?_
   refine at_skip (at_then (at_block (s_sr (s_mv rfl (s_mv rfl ?_)))))
   replace hr := obind hr
   obtain ⟨x1193, h1194, hr⟩ := hr
   refine at_hv rfl (hv_call0 [3, 2] (f151_spec h1194) rfl rfl rfl rfl ?_)
   rintro _ _ ⟨rfl, rfl⟩
   refine at_inv 0 rfl (fun l1195 => ?_)
   replace l1195 : (-9223372036854775808) ≤ x1193.1 ∧ x1193.1 ≤ 9223372036854775807 := l1195
   refine at_inv 1 rfl (fun l1196 => ?_)
   replace l1196 : (-9223372036854775808) ≤ x1193.2 ∧ x1193.2 ≤ 9223372036854775807 := l1196
   refine s_mv rfl (at_lt (lt_extract rfl rfl) rfl (at_lt (lt_extract rfl rfl) rfl (s_as rfl (s_as rfl (s_nt (at_seq (s_sr (s_mv rfl (at_lt (lt_eql rfl rfl) rfl ?_)))))))))
   refine s_mv rfl ?_
   by_cases h1197 : x1193.2 = 0
   ·replace hr := ipos h1197 hr
    refine at_off rfl rfl (decide_eq_true (by first | exact h1197 | omega)) rfl ?_
    refine at_off rfl rfl (decide_eq_true (by first | exact h1197 | omega)) rfl ?_
    refine at_off rfl rfl (decide_eq_true (by first | exact h1197 | omega)) rfl ?_
    refine at_lt (lt_pick true rfl (decide_eq_true (by first | exact h1197 | omega)) rfl) rfl ?_
    refine s_nt (at_true rfl rfl (s_sr (s_as rfl (s_as rfl (s_nt (at_ret ?_))))))
    have hq := oinj hr
    clear hr
    subst hq
    have hq := oinj hk1189
    clear hk1189
    subst hq
    refine at_then_ret (at_in_ret (at_then_ret (at_in_ret (at_then_ret (at_then_ret (at_fnil (Ty.int .i64) none ?_))))))
    exact at_return (.tuple #[(.slice none 0 0), .bool false]) [0] hS Tryz.results127 (.cons (.tmp rfl) (.cons (.tmp rfl) .nil)) rfl rfl ⟨((.slice none 0 0)), rfl, rfl⟩
   replace hr := ineg h1197 hr
   refine at_on rfl rfl (decide_eq_false (by first | exact h1197 | omega)) ?_
   refine s_mv rfl ?_
   replace hr := obind hr
   obtain ⟨x1198, h1199, hr⟩ := hr
   refine at_on rfl rfl (decide_eq_false (by first | exact h1197 | omega)) ?_
   refine at_hv rfl (hv_call0 [0] (f152_spec h1199) rfl rfl rfl rfl ?_)
   rintro _ _ ⟨rfl, rfl⟩
   refine at_on rfl rfl (decide_eq_false (by first | exact h1197 | omega)) ?_
   refine at_lt (lt_not rfl) rfl ?_
   refine at_lt (lt_pick false rfl (decide_eq_false (by first | exact h1197 | omega)) rfl) rfl ?_
   refine s_nt ?_
   by_cases h1200 : x1198 = true
   ·replace hr := ipos h1200 hr
    refine at_false rfl (nt h1200) (at_skip (s_tsr (s_mv rfl (s_mv rfl (at_hv rfl ?_)))))
    refine hv_bslice (cs := [.int .i64 x1193.1]) rfl und140 ti3 rfl rfl rfl rfl rfl (fun s1201 => ?_)
    replace hr := imust hr
    obtain ⟨h1202, hr⟩ := hr
    refine at_rown 1 2 rfl rfl rfl (fun hn1204 => ?_)
    refine at_hv rfl ?_
    refine hv_append 1 0 rfl rfl rfl rfl und140 ti3 rfl rfl rfl (by omega) (by omega) rfl (fun s1203 => ?_)
    refine at_rowsnoc 2 0 rfl rfl (s_as rfl (at_nil (s_tr (s_mv rfl (s_mv rfl (at_lt (lt_addw rfl rfl) rfl (s_as rfl (at_nil (at_in ?_)))))))))
    refine at_mkpure (q := ((x1178 ++ [x1193.1]).length * (Ty.int .i64).bytes ≤ 140737488355328)) (by simp only [List.length_append, List.length_cons, List.length_nil, Ty.int_bytes, Ty.u8_bytes, Ty.str_bytes, Ty.slice_bytes, Ty.bool_bytes, nb] <;> omega) ?_
    refine at_int .i64 (IntKind.i64.wrap (x1179 + x1193.2)) (wrap_bd .i64 _) ?_
    exact at_again (σ := ((List Int) × Int)) (V := Value × Nat × (List Value)) (lp := fun n s => m127_l1 a0 n s.1 s.2) (S := fun s e => (⟨[(0, str a0), (4, e.1), (5, .int .i64 s.2)], [], [⟨e.1, 3, 1, e.2.1, e.2.2⟩], [((Ty.int .i64).row s.1 e.2.2), (pureF (s.1.length * (Ty.int .i64).bytes ≤ 140737488355328)), ((Ty.int .i64).fact s.2 [.int .i64 s.2]), (Ty.str.fact a0 [str a0])]⟩ : St)) (x1178 ++ [x1193.1], IntKind.i64.wrap (x1179 + x1193.2)) (s1203, n1181 + 1, i1182 ++ [.int .i64 x1193.1]) hr ⟨⟨rfl, ⟨rfl, ⟨rfl, trivial⟩⟩⟩, ⟨[], rfl⟩, ⟨[false, true], rfl⟩, ⟨[2, 1, 0, 8], rfl⟩⟩
   replace hr := ineg h1200 hr
   refine at_true rfl (nf (bf h1200)) (s_sr (s_as rfl (s_as rfl (s_nt (at_ret ?_)))))
   have hq := oinj hr
   clear hr
   subst hq
   have hq := oinj hk1189
   clear hk1189
   subst hq
   refine at_then_ret (at_in_ret (at_then_ret (at_in_ret (at_then_ret (at_then_ret (at_fnil (Ty.int .i64) none ?_))))))
   exact at_return (.tuple #[(.slice none 0 0), .bool false]) [0] hS Tryz.results127 (.cons (.tmp rfl) (.cons (.tmp rfl) .nil)) rfl rfl ⟨((.slice none 0 0)), rfl, rfl⟩
  replace hr := ineg h1192 hr
  refine at_false rfl (decide_eq_false (by first | exact h1192 | omega)) ?_
  refine at_exit (at_then_exit (at_then_exit (at_in_exit ?_)))
  have hq := oinj hr
  clear hr
  subst hq
  exact at_leafP (x1178, (v1180, n1181, i1182)) rfl ⟨⟨rfl, trivial⟩, ⟨[], rfl⟩, ⟨[true], rfl⟩, ⟨[0, 1], rfl⟩⟩
 rintro ⟨x1183, ⟨v1184, n1185, i1186⟩⟩ hp
 replace hr := hk1189
 subst hp
 clear hl1188
 change At _ _ (⟨[(4, v1184)], [], [⟨v1184, 3, 1, n1185, i1186⟩], [((Ty.int .i64).row x1183 i1186), (pureF (x1183.length * (Ty.int .i64).bytes ≤ 140737488355328))]⟩ : St) _
 refine s_tsr (s_mv rfl (s_as rfl (s_as rfl (s_nt (at_ret ?_)))))
 have hq := oinj hr
 clear hr
 subst hq
 refine at_pure 1 rfl (fun hb1205 => ?_)
 refine at_release 0 0 rfl rfl rfl hb1205 ?_
 exact at_return (.tuple #[v1184, .bool true]) [0] hS Tryz.results127 (.cons (.tmp rfl) (.cons (.tmp rfl) .nil)) rfl rfl ⟨v1184, rfl, rfl⟩
def m80 (a0 : Str) : Option Bool :=
  if a0.length < 1 then
   some false
  else
   if 400 < a0.length then
    some false
   else
    (a0[0]?).bind fun c1210 =>
    if c1210.toNat = 32 then
     some false
    else
     (at? a0 ((a0.length : Int) - 1)).bind fun c1213 =>
     if c1213.toNat = 32 then
      some false
     else
      (m127 a0).bind fun x1216 =>
      some x1216.2
def post80 (r : Bool) (v : Value) (fs : List Fact) : Prop := v = .bool r ∧ fs = []
theorem en80 : Enters Tryz.prog 80 := ⟨_, Tryz.func80, by kernel_rfl, rfl⟩
theorem f80_spec {a0 : Str} {r : Bool} (hr : m80 a0 = some r) : Spec Tryz.prog 80 [str a0] [(Ty.str.fact a0 [str a0])] (post80 r) := by
 refine spec_start (N := 32) Tryz.func80 (by kernel_rfl) rfl rfl rfl ?_
 intro g hS
 unfold m80 at hr
 refine s_sr (s_as rfl (s_nt (at_seq (s_sr (s_mv rfl ?_)))))
 refine at_inv 0 rfl (fun l1207 => ?_)
 replace l1207 : a0.length ≤ 9223372036854775807 := l1207
 refine at_lt (lt_slen rfl und9) rfl (at_lt (lt_lss rfl rfl) rfl (s_mv rfl ?_))
 by_cases h1208 : a0.length < 1
 ·replace hr := ipos h1208 hr
  refine at_off rfl rfl (decide_eq_true (by omega)) rfl ?_
  refine at_off rfl rfl (decide_eq_true (by omega)) rfl ?_
  refine at_off rfl rfl (decide_eq_true (by omega)) rfl ?_
  refine at_lt (lt_pick true rfl (decide_eq_true (by omega)) rfl) rfl ?_
  refine s_mv rfl (at_off rfl rfl rfl rfl (at_off rfl rfl rfl rfl (at_off rfl rfl rfl rfl (at_lt (lt_pick true rfl rfl rfl) rfl (s_mv rfl (at_off rfl rfl rfl rfl (at_off rfl rfl rfl rfl (at_off rfl rfl rfl rfl (at_off rfl rfl rfl rfl ?_)))))))))
  refine at_off rfl rfl rfl rfl (at_off rfl rfl rfl rfl (at_lt (lt_pick true rfl rfl rfl) rfl (s_nt (at_true rfl rfl (s_sr (s_as rfl (s_nt (at_ret ?_))))))))
  have hq := oinj hr
  clear hr
  subst hq
  refine at_then_ret ?_
  exact at_return (.bool false) [] hS Tryz.results80 (.cons (.tmp rfl) .nil) rfl rfl ⟨rfl, rfl⟩
 replace hr := ineg h1208 hr
 refine at_on rfl rfl (decide_eq_false (by omega)) ?_
 refine s_mv rfl ?_
 refine at_on rfl rfl (decide_eq_false (by omega)) ?_
 refine at_lt (lt_slen rfl und9) rfl ?_
 refine at_on rfl rfl (decide_eq_false (by omega)) ?_
 refine at_lt (lt_gtr rfl rfl) rfl ?_
 refine at_lt (lt_pick false rfl (decide_eq_false (by omega)) rfl) rfl ?_
 refine s_mv rfl ?_
 by_cases h1209 : 400 < a0.length
 ·replace hr := ipos h1209 hr
  refine at_off rfl rfl (decide_eq_true (by omega)) rfl ?_
  refine at_off rfl rfl (decide_eq_true (by omega)) rfl ?_
  refine at_off rfl rfl (decide_eq_true (by omega)) rfl ?_
  refine at_lt (lt_pick true rfl (decide_eq_true (by omega)) rfl) rfl ?_
  refine s_mv rfl (at_off rfl rfl rfl rfl (at_off rfl rfl rfl rfl (at_off rfl rfl rfl rfl (at_off rfl rfl rfl rfl (at_off rfl rfl rfl rfl (at_off rfl rfl rfl rfl (at_lt (lt_pick true rfl rfl rfl) rfl (s_nt (at_true rfl rfl ?_)))))))))
  refine s_sr (s_as rfl (s_nt (at_ret ?_)))
  have hq := oinj hr
  clear hr
  subst hq
  refine at_then_ret ?_
  exact at_return (.bool false) [] hS Tryz.results80 (.cons (.tmp rfl) .nil) rfl rfl ⟨rfl, rfl⟩
 replace hr := ineg h1209 hr
 refine at_on rfl rfl (decide_eq_false (by omega)) ?_
 refine s_mv rfl ?_
 replace hr := obind hr
 obtain ⟨c1210, h1211, hr⟩ := hr
 have := (List.getElem?_eq_some_iff.1 h1211).1
 have := c1210.toNat_lt
 refine at_on rfl rfl (decide_eq_false (by omega)) ?_
 refine at_lt (lt_sidx rfl rfl und9 (by omega) h1211) rfl ?_
 refine at_on rfl rfl (decide_eq_false (by omega)) ?_
 refine at_lt (lt_eql rfl rfl) rfl ?_
 refine at_lt (lt_pick false rfl (decide_eq_false (by omega)) rfl) rfl ?_
 refine s_mv rfl ?_
 by_cases h1212 : c1210.toNat = 32
 ·replace hr := ipos h1212 hr
  refine at_off rfl rfl (decide_eq_true (by omega)) rfl ?_
  refine at_off rfl rfl (decide_eq_true (by omega)) rfl ?_
  refine at_off rfl rfl (decide_eq_true (by omega)) rfl ?_
  refine at_off rfl rfl (decide_eq_true (by omega)) rfl ?_
  refine at_off rfl rfl (decide_eq_true (by omega)) rfl ?_
  refine at_off rfl rfl (decide_eq_true (by omega)) rfl ?_
  refine at_lt (lt_pick true rfl (decide_eq_true (by omega)) rfl) rfl ?_
  refine s_nt (at_true rfl rfl (s_sr (s_as rfl (s_nt (at_ret ?_)))))
  have hq := oinj hr
  clear hr
  subst hq
  refine at_then_ret ?_
  exact at_return (.bool false) [] hS Tryz.results80 (.cons (.tmp rfl) .nil) rfl rfl ⟨rfl, rfl⟩
 replace hr := ineg h1212 hr
 refine at_on rfl rfl (decide_eq_false (by omega)) ?_
 refine s_mv rfl ?_
 refine at_on rfl rfl (decide_eq_false (by omega)) ?_
 refine s_mv rfl ?_
 refine at_on rfl rfl (decide_eq_false (by omega)) ?_
 refine at_lt (lt_slen rfl und9) rfl ?_
 refine at_on rfl rfl (decide_eq_false (by omega)) ?_
 refine at_lt (lt_sub rfl rfl (by simp only [lo, hi]; omega)) rfl ?_
 replace hr := obind hr
 obtain ⟨c1213, h1214, hr⟩ := hr
 have := at?_lt h1214
 have := c1213.toNat_lt
 refine at_on rfl rfl (decide_eq_false (by omega)) ?_
 refine at_lt (lt_sidx rfl rfl und9 (at?_lt h1214).1 (at?_get h1214)) rfl ?_
 refine at_on rfl rfl (decide_eq_false (by omega)) ?_
 refine at_lt (lt_eql rfl rfl) rfl ?_
 refine at_lt (lt_pick false rfl (decide_eq_false (by omega)) rfl) rfl ?_
 refine s_nt ?_
 by_cases h1215 : c1213.toNat = 32
 ·replace hr := ipos h1215 hr
  refine at_true rfl (decide_eq_true (by omega)) ?_
  refine s_sr (s_as rfl (s_nt (at_ret ?_)))
  have hq := oinj hr
  clear hr
  subst hq
  refine at_then_ret ?_
  exact at_return (.bool false) [] hS Tryz.results80 (.cons (.tmp rfl) .nil) rfl rfl ⟨rfl, rfl⟩
 replace hr := ineg h1215 hr
 refine at_false rfl (decide_eq_false (by omega)) ?_
 refine at_skip (s_tsr (s_mv rfl ?_))
 replace hr := obind hr
 obtain ⟨x1216, h1217, hr⟩ := hr
 refine at_hv rfl (hv_call0 [0] (f127_spec h1217) rfl rfl rfl rfl ?_)
 rintro _ _ ⟨s1218, rfl, rfl⟩
 refine s_mv rfl (at_lt (lt_extract rfl rfl) rfl (at_lt (lt_extract rfl rfl) rfl (s_as rfl (s_as rfl (s_ntsr (s_mv rfl (s_as rfl (s_nt (at_ret ?_)))))))))
 have hq := oinj hr
 clear hr
 subst hq
 exact at_return (.bool x1216.2) [] hS Tryz.results80 (.cons (.tmp rfl) .nil) rfl rfl ⟨rfl, rfl⟩
def m36_l1 (a0 : D_api_Field) : Nat → Nat → Option (Fl Bool Unit)
  | 0, _ => none
  | k + 1, x1228 =>
    if x1228 < 2 then
     Option.bind (α := Bool) (
      if x1228 = 0 then
       if a0.Ind_0.toNat = 32 then
        some false
       else
        (m79 a0.Ind_0).bind fun x1237 =>
        some (!x1237)
      else
       if x1228 = 1 then
        if a0.Ind_1.toNat = 32 then
         some false
        else
         (m79 a0.Ind_1).bind fun x1241 =>
         some (!x1241)
       else
        none
     ) fun x1233 =>
     if x1233 = true then
      some (Fl.ret false)
     else
      if x1228 + 1 ≤ 9223372036854775807 then
       m36_l1 a0 k (x1228 + 1)
      else none
    else
     some (Fl.go ())
def m36_l2 (a0 : D_api_Field) : Nat → Nat → Option (Fl Bool Unit)
  | 0, _ => none
  | k + 1, x1245 =>
    if x1245 < a0.Subs.length then
     (a0.Subs[x1245]?).bind fun x1250 =>
     (m79 x1250.Code).bind fun x1254 =>
     if x1254 = true then
      (a0.Subs[x1245]?).bind fun x1257 =>
      (m80 x1257.Value).bind fun x1261 =>
      if x1261 = true then
       m36_l2 a0 k (x1245 + 1)
      else
       some (Fl.ret false)
     else
      some (Fl.ret false)
    else
     some (Fl.go ())
def m36 (a0 : D_api_Field) : Option Bool :=
  (m39 a0.Tag).bind fun x1221 =>
  if x1221 = true then
   if a0.Subs.length < 1 then
    some false
   else
    if 20 < a0.Subs.length then
     some false
    else
     (m36_l1 a0 (2 + 1) 0).bind fun r => match r with
     | .ret x => some x
     | .go _ =>
      (m36_l2 a0 (a0.Subs.length + 1) 0).bind fun r => match r with
      | .ret x => some x
      | .go _ =>
       some true
  else
   some false
def post36 (r : Bool) (v : Value) (fs : List Fact) : Prop := v = .bool r ∧ fs = []
theorem en36 : Enters Tryz.prog 36 := ⟨_, Tryz.func36, by kernel_rfl, rfl⟩
theorem f36_spec {a0 : D_api_Field} {s1219 : Value} {r : Bool} (hr : m36 a0 = some r) : Spec Tryz.prog 36 [.agg #[str a0.Tag, .int .u8 (a0.Ind_0.toNat : Int), .int .u8 (a0.Ind_1.toNat : Int), s1219]] [(ty59.fact a0 [str a0.Tag, .int .u8 (a0.Ind_0.toNat : Int), .int .u8 (a0.Ind_1.toNat : Int), s1219])] (post36 r) := by
 refine spec_start (N := 63) Tryz.func36 (by kernel_rfl) rfl rfl rfl ?_
 intro g hS
 unfold m36 at hr
 refine at_open (A := Unit) 0 rfl (fun _ => True) (fun _ => [(Ty.str.fact a0.Tag [str a0.Tag]), ((Ty.slice ty67).fact a0.Subs [s1219])]) (fun F w h => ⟨(), trivial, ex59 h⟩) (fun _ _ => ?_)
 refine s_sr (at_hv rfl ?_)
 refine hv_box (cs := [str a0.Tag, .int .u8 (a0.Ind_0.toNat : Int), .int .u8 (a0.Ind_1.toNat : Int), s1219]) rfl rfl rfl (fun b1220 => ?_)
 refine s_as rfl (s_nt (at_seq (s_sr (at_lt (lt_fieldAddr 0 rfl fld59_0 rfl) rfl (at_lt (lt_load_box 0 rfl ti9 rfl rfl rfl rfl rfl) rfl ?_)))))
 replace hr := obind hr
 obtain ⟨x1221, h1222, hr⟩ := hr
 refine at_hv rfl (hv_call0 [0] (f39_spec h1222) rfl rfl rfl rfl ?_)
 rintro _ _ ⟨rfl, rfl⟩
 refine at_lt (lt_not rfl) rfl (s_mv rfl ?_)
 by_cases h1223 : x1221 = true
 ·replace hr := ipos h1223 hr
  refine at_on rfl rfl (nt h1223) (at_lt (lt_fieldAddr 3 rfl fld59_2 rfl) rfl (at_on rfl rfl (nt h1223) (at_lt (lt_load_box 0 rfl ti57 rfl rfl rfl rfl rfl) rfl ?_)))
  refine at_inv 1 rfl (fun i1224 => ?_)
  have l1225 := slice_len i1224
  refine at_on rfl rfl (nt h1223) (at_lt (lt_flen 1 rfl rfl und57) rfl (at_on rfl rfl (nt h1223) (at_lt (lt_lss rfl rfl) rfl (at_lt (lt_pick false rfl (nt h1223) rfl) rfl (s_mv rfl ?_)))))
  by_cases h1226 : a0.Subs.length < 1
  ·replace hr := ipos h1226 hr
   refine at_off rfl rfl (decide_eq_true (by omega)) rfl ?_
   refine at_off rfl rfl (decide_eq_true (by omega)) rfl ?_
   refine at_off rfl rfl (decide_eq_true (by omega)) rfl ?_
   refine at_off rfl rfl (decide_eq_true (by omega)) rfl ?_
   refine at_lt (lt_pick true rfl (decide_eq_true (by omega)) rfl) rfl ?_
   refine s_nt (at_true rfl rfl (s_sr (s_as rfl (s_nt (at_ret ?_)))))
   have hq := oinj hr
   clear hr
   subst hq
   refine at_then_ret ?_
   exact at_return (.bool false) [] hS Tryz.results36 (.cons (.tmp rfl) .nil) rfl rfl ⟨rfl, rfl⟩
  replace hr := ineg h1226 hr
  refine at_on rfl rfl (decide_eq_false (by omega)) ?_
  refine at_lt (lt_fieldAddr 3 rfl fld59_2 rfl) rfl ?_
  refine at_on rfl rfl (decide_eq_false (by omega)) ?_
  refine at_lt (lt_load_box 0 rfl ti57 rfl rfl rfl rfl rfl) rfl ?_
  refine at_on rfl rfl (decide_eq_false (by omega)) ?_
  refine at_lt (lt_flen 1 rfl rfl und57) rfl ?_
  refine at_on rfl rfl (decide_eq_false (by omega)) ?_
  refine at_lt (lt_gtr rfl rfl) rfl ?_
  refine at_lt (lt_pick false rfl (decide_eq_false (by omega)) rfl) rfl ?_
  refine s_nt ?_
  by_cases h1227 : 20 < a0.Subs.length
  ·replace hr := ipos h1227 hr
   refine at_true rfl (decide_eq_true (by omega)) ?_
   refine s_sr (s_as rfl (s_nt (at_ret ?_)))
   have hq := oinj hr
   clear hr
   subst hq
   refine at_then_ret ?_
   exact at_return (.bool false) [] hS Tryz.results36 (.cons (.tmp rfl) .nil) rfl rfl ⟨rfl, rfl⟩
  replace hr := ineg h1227 hr
  refine at_false rfl (decide_eq_false (by omega)) ?_
  refine at_skip (at_then (at_seq (s_sr (s_as rfl (s_nt (at_int .i64 0 (by simp only [lo, hi]; omega) ?_))))))
  replace hr := obind hr
  obtain ⟨r1229, hl1230, hk1231⟩ := hr
  refine at_cutP (V := (Unit) × (Unit)) (fun v => r1229 = Fl.go v.1) (fun v => (⟨[(1, .pointer (some (Addr.add ⟨b1220, 0, none⟩ 0)))], [⟨b1220, [str a0.Tag, .int .u8 (a0.Ind_0.toNat : Int), .int .u8 (a0.Ind_1.toNat : Int), s1219], 59⟩], [], [(Ty.str.fact a0.Tag [str a0.Tag]), ((Ty.slice ty67).fact a0.Subs [s1219])]⟩ : St)) ?_ ?_
  ·refine at_block ?_
   refine at_loopW (σ := Nat) (V := Unit) (r := r1229) (fun n s => m36_l1 a0 n s) (fun s e => (⟨[(1, .pointer (some (Addr.add ⟨b1220, 0, none⟩ 0))), (3, .int .i64 (s : Int))], [⟨b1220, [str a0.Tag, .int .u8 (a0.Ind_0.toNat : Int), .int .u8 (a0.Ind_1.toNat : Int), s1219], 59⟩], [], [((Ty.int .i64).fact (s : Int) [.int .i64 (s : Int)]), (Ty.str.fact a0.Tag [str a0.Tag]), ((Ty.slice ty67).fact a0.Subs [s1219])]⟩ : St)) (fun _ => rfl) _ 0 () hl1230 ⟨⟨rfl, ⟨rfl, trivial⟩⟩, ⟨[true], rfl⟩, ⟨[], rfl⟩, ⟨[0, 1, 2], rfl⟩⟩ ?_
   clear hl1230
   intro n x1228 hr e
   skip
   skip
   change m36_l1 a0 (n + 1) x1228 = some r1229 at hr
   change At _ _ (⟨[(1, .pointer (some (Addr.add ⟨b1220, 0, none⟩ 0))), (3, .int .i64 (x1228 : Int))], [⟨b1220, [str a0.Tag, .int .u8 (a0.Ind_0.toNat : Int), .int .u8 (a0.Ind_1.toNat : Int), s1219], 59⟩], [], [((Ty.int .i64).fact (x1228 : Int) [.int .i64 (x1228 : Int)]), (Ty.str.fact a0.Tag [str a0.Tag]), ((Ty.slice ty67).fact a0.Subs [s1219])]⟩ : St) _
   rw [m36_l1] at hr
   refine at_seq (s_sr (s_mv rfl (at_lt (lt_lss rfl rfl) rfl (s_nt ?_))))
   by_cases h1232 : x1228 < 2
   ·replace hr := ipos h1232 hr
    refine at_true rfl (decide_eq_true (by omega)) ?_
    refine at_skip (at_then (at_seq (at_block (at_seq ?_))))
    replace hr := obind hr
    obtain ⟨x1233, hc1234, hr⟩ := hr
    refine at_cut (V := Unit) (fun e => (⟨[(1, .pointer (some (Addr.add ⟨b1220, 0, none⟩ 0))), (3, .int .i64 (x1228 : Int)), (37, .bool x1233)], [⟨b1220, [str a0.Tag, .int .u8 (a0.Ind_0.toNat : Int), .int .u8 (a0.Ind_1.toNat : Int), s1219], 59⟩], [], [((Ty.int .i64).fact (x1228 : Int) [.int .i64 (x1228 : Int)]), (Ty.str.fact a0.Tag [str a0.Tag]), ((Ty.slice ty67).fact a0.Subs [s1219])]⟩ : St)) ?_ ?_
    ·clear hr
     have hr := hc1234
     clear hc1234
     refine at_region (s_mv rfl (at_lt (lt_fieldAddr 1 rfl fld59_1 rfl) rfl ?_))
     by_cases h1235 : x1228 = 0
     ·replace hr := ipos h1235 hr
      refine at_lt (lt_aidx 0 rfl rfl (by omega) rfl und56 ti5 rfl) rfl ?_
      refine at_lt (lt_load_box 0 rfl ti5 rfl rfl rfl rfl rfl) rfl (at_lt (lt_neq rfl rfl) rfl (s_mv rfl ?_))
      by_cases h1236 : a0.Ind_0.toNat = 32
      ·replace hr := ipos h1236 hr
       refine at_off rfl rfl (nt (decide_eq_true (by omega))) rfl ?_
       refine at_off rfl rfl (nt (decide_eq_true (by omega))) rfl ?_
       refine at_off rfl rfl (nt (decide_eq_true (by omega))) rfl ?_
       refine at_off rfl rfl (nt (decide_eq_true (by omega))) rfl ?_
       refine at_off rfl rfl (nt (decide_eq_true (by omega))) rfl ?_
       refine at_off rfl rfl (nt (decide_eq_true (by omega))) rfl ?_
       refine at_lt (lt_pick false rfl (nt (decide_eq_true (by omega))) rfl) rfl ?_
       refine at_nil ?_
       have hq := oinj hr
       clear hr
       subst hq
       exact at_leaf () ⟨⟨rfl, ⟨rfl, ⟨rfl, trivial⟩⟩⟩, ⟨[true], rfl⟩, ⟨[], rfl⟩, ⟨[0, 1, 2], rfl⟩⟩
      replace hr := ineg h1236 hr
      refine at_on rfl rfl (nf (decide_eq_false (by omega))) ?_
      refine s_mv rfl ?_
      refine at_on rfl rfl (nf (decide_eq_false (by omega))) ?_
      refine at_lt (lt_fieldAddr 1 rfl fld59_1 rfl) rfl ?_
      refine at_on rfl rfl (nf (decide_eq_false (by omega))) ?_
      refine at_lt (lt_aidx 0 rfl rfl (by omega) rfl und56 ti5 rfl) rfl ?_
      refine at_on rfl rfl (nf (decide_eq_false (by omega))) ?_
      refine at_lt (lt_load_box 0 rfl ti5 rfl rfl rfl rfl rfl) rfl ?_
      replace hr := obind hr
      obtain ⟨x1237, h1238, hr⟩ := hr
      refine at_on rfl rfl (nf (decide_eq_false (by omega))) ?_
      refine at_hv rfl (hv_call0 [] (f79_spec h1238) rfl rfl rfl rfl ?_)
      rintro _ _ ⟨rfl, rfl⟩
      refine at_on rfl rfl (nf (decide_eq_false (by omega))) ?_
      refine at_lt (lt_not rfl) rfl ?_
      refine at_lt (lt_pick true rfl (nf (decide_eq_false (by omega))) rfl) rfl ?_
      refine at_nil ?_
      have hq := oinj hr
      clear hr
      subst hq
      exact at_leaf () ⟨⟨rfl, ⟨rfl, ⟨rfl, trivial⟩⟩⟩, ⟨[true], rfl⟩, ⟨[], rfl⟩, ⟨[0, 1, 2], rfl⟩⟩
     replace hr := ineg h1235 hr
     by_cases h1239 : x1228 = 1
     ·replace hr := ipos h1239 hr
      refine at_lt (lt_aidx 1 rfl rfl (by omega) rfl und56 ti5 rfl) rfl ?_
      refine at_lt (lt_load_box 0 rfl ti5 rfl rfl rfl rfl rfl) rfl (at_lt (lt_neq rfl rfl) rfl (s_mv rfl ?_))
      by_cases h1240 : a0.Ind_1.toNat = 32
      ·replace hr := ipos h1240 hr
       refine at_off rfl rfl (nt (decide_eq_true (by omega))) rfl ?_
       refine at_off rfl rfl (nt (decide_eq_true (by omega))) rfl ?_
       refine at_off rfl rfl (nt (decide_eq_true (by omega))) rfl ?_
       refine at_off rfl rfl (nt (decide_eq_true (by omega))) rfl ?_
       refine at_off rfl rfl (nt (decide_eq_true (by omega))) rfl ?_
       refine at_off rfl rfl (nt (decide_eq_true (by omega))) rfl ?_
       refine at_lt (lt_pick false rfl (nt (decide_eq_true (by omega))) rfl) rfl ?_
       refine at_nil ?_
       have hq := oinj hr
       clear hr
       subst hq
       exact at_leaf () ⟨⟨rfl, ⟨rfl, ⟨rfl, trivial⟩⟩⟩, ⟨[true], rfl⟩, ⟨[], rfl⟩, ⟨[0, 1, 2], rfl⟩⟩
      replace hr := ineg h1240 hr
      refine at_on rfl rfl (nf (decide_eq_false (by omega))) ?_
      refine s_mv rfl ?_
      refine at_on rfl rfl (nf (decide_eq_false (by omega))) ?_
      refine at_lt (lt_fieldAddr 1 rfl fld59_1 rfl) rfl ?_
      refine at_on rfl rfl (nf (decide_eq_false (by omega))) ?_
      refine at_lt (lt_aidx 1 rfl rfl (by omega) rfl und56 ti5 rfl) rfl ?_
      refine at_on rfl rfl (nf (decide_eq_false (by omega))) ?_
      refine at_lt (lt_load_box 0 rfl ti5 rfl rfl rfl rfl rfl) rfl ?_
      replace hr := obind hr
      obtain ⟨x1241, h1242, hr⟩ := hr
      refine at_on rfl rfl (nf (decide_eq_false (by omega))) ?_
      refine at_hv rfl (hv_call0 [] (f79_spec h1242) rfl rfl rfl rfl ?_)
      rintro _ _ ⟨rfl, rfl⟩
      refine at_on rfl rfl (nf (decide_eq_false (by omega))) ?_
      refine at_lt (lt_not rfl) rfl ?_
      refine at_lt (lt_pick true rfl (nf (decide_eq_false (by omega))) rfl) rfl ?_
      refine at_nil ?_
      have hq := oinj hr
      clear hr
      subst hq
      exact at_leaf () ⟨⟨rfl, ⟨rfl, ⟨rfl, trivial⟩⟩⟩, ⟨[true], rfl⟩, ⟨[], rfl⟩, ⟨[0, 1, 2], rfl⟩⟩
     replace hr := ineg h1239 hr
     cases hr
    clear hc1234
    intro _
    change At _ _ (⟨[(1, .pointer (some (Addr.add ⟨b1220, 0, none⟩ 0))), (3, .int .i64 (x1228 : Int)), (37, .bool x1233)], [⟨b1220, [str a0.Tag, .int .u8 (a0.Ind_0.toNat : Int), .int .u8 (a0.Ind_1.toNat : Int), s1219], 59⟩], [], [((Ty.int .i64).fact (x1228 : Int) [.int .i64 (x1228 : Int)]), (Ty.str.fact a0.Tag [str a0.Tag]), ((Ty.slice ty67).fact a0.Subs [s1219])]⟩ : St) _
    refine at_then ?_
    by_cases h1243 : x1233 = true
    ·replace hr := ipos h1243 hr
     refine at_true rfl h1243 (s_sr (s_as rfl (s_nt (at_ret ?_))))
     have hq := oinj hr
     clear hr
     subst hq
     have hq := oinj hk1231
     clear hk1231
     subst hq
     refine at_in_ret (at_then_ret (at_then_ret (at_in_ret (at_then_ret (at_then_ret ?_)))))
     exact at_return (.bool false) [] hS Tryz.results36 (.cons (.tmp rfl) .nil) rfl rfl ⟨rfl, rfl⟩
    replace hr := ineg h1243 hr
    refine at_false rfl (bf h1243) (at_skip (at_in (s_tr (s_mv rfl ?_))))
    replace hr := imust hr
    obtain ⟨h1244, hr⟩ := hr
    refine at_lt (lt_add rfl rfl (by simp only [lo, hi]; omega)) rfl (s_as rfl (at_nil (at_int .i64 (x1228 + 1 : Int) (by simp only [lo, hi]; omega) ?_)))
    exact at_again (σ := Nat) (V := Unit) (lp := fun n s => m36_l1 a0 n s) (S := fun s e => (⟨[(1, .pointer (some (Addr.add ⟨b1220, 0, none⟩ 0))), (3, .int .i64 (s : Int))], [⟨b1220, [str a0.Tag, .int .u8 (a0.Ind_0.toNat : Int), .int .u8 (a0.Ind_1.toNat : Int), s1219], 59⟩], [], [((Ty.int .i64).fact (s : Int) [.int .i64 (s : Int)]), (Ty.str.fact a0.Tag [str a0.Tag]), ((Ty.slice ty67).fact a0.Subs [s1219])]⟩ : St)) (x1228 + 1) () hr ⟨⟨rfl, ⟨rfl, trivial⟩⟩, ⟨[true], rfl⟩, ⟨[], rfl⟩, ⟨[0, 2, 3], rfl⟩⟩
   replace hr := ineg h1232 hr
   refine at_false rfl (decide_eq_false (by omega)) ?_
   refine at_exit (at_then_exit (at_then_exit (at_in_exit ?_)))
   have hq := oinj hr
   clear hr
   subst hq
   exact at_leafP ((), ()) rfl ⟨⟨rfl, trivial⟩, ⟨[true], rfl⟩, ⟨[], rfl⟩, ⟨[1, 2], rfl⟩⟩
  rintro ⟨_, _⟩ hp
  replace hr := hk1231
  subst hp
  clear hl1230
  change At _ _ (⟨[(1, .pointer (some (Addr.add ⟨b1220, 0, none⟩ 0)))], [⟨b1220, [str a0.Tag, .int .u8 (a0.Ind_0.toNat : Int), .int .u8 (a0.Ind_1.toNat : Int), s1219], 59⟩], [], [(Ty.str.fact a0.Tag [str a0.Tag]), ((Ty.slice ty67).fact a0.Subs [s1219])]⟩ : St) _
  refine at_then (at_seq (s_sr (s_as rfl (s_nt (at_int .i64 0 (by simp only [lo, hi]; omega) ?_)))))
  replace hr := obind hr
  obtain ⟨r1246, hl1247, hk1248⟩ := hr
  refine at_cutP (V := (Unit) × (Unit)) (fun v => r1246 = Fl.go v.1) (fun v => (⟨[], [], [], []⟩ : St)) ?_ ?_
  ·refine at_block ?_
   refine at_loopW (σ := Nat) (V := Unit) (r := r1246) (fun n s => m36_l2 a0 n s) (fun s e => (⟨[(1, .pointer (some (Addr.add ⟨b1220, 0, none⟩ 0))), (4, .int .i64 (s : Int))], [⟨b1220, [str a0.Tag, .int .u8 (a0.Ind_0.toNat : Int), .int .u8 (a0.Ind_1.toNat : Int), s1219], 59⟩], [], [((Ty.int .i64).fact (s : Int) [.int .i64 (s : Int)]), (Ty.str.fact a0.Tag [str a0.Tag]), ((Ty.slice ty67).fact a0.Subs [s1219])]⟩ : St)) (fun _ => rfl) _ 0 () hl1247 ⟨⟨rfl, ⟨rfl, trivial⟩⟩, ⟨[true], rfl⟩, ⟨[], rfl⟩, ⟨[0, 1, 2], rfl⟩⟩ ?_
   clear hl1247
   intro n x1245 hr e
   skip
   skip
   change m36_l2 a0 (n + 1) x1245 = some r1246 at hr
   change At _ _ (⟨[(1, .pointer (some (Addr.add ⟨b1220, 0, none⟩ 0))), (4, .int .i64 (x1245 : Int))], [⟨b1220, [str a0.Tag, .int .u8 (a0.Ind_0.toNat : Int), .int .u8 (a0.Ind_1.toNat : Int), s1219], 59⟩], [], [((Ty.int .i64).fact (x1245 : Int) [.int .i64 (x1245 : Int)]), (Ty.str.fact a0.Tag [str a0.Tag]), ((Ty.slice ty67).fact a0.Subs [s1219])]⟩ : St) _
   rw [m36_l2] at hr
   refine at_seq (s_sr (s_mv rfl (at_lt (lt_fieldAddr 3 rfl fld59_2 rfl) rfl (at_lt (lt_load_box 0 rfl ti57 rfl rfl rfl rfl rfl) rfl (at_lt (lt_flen 2 rfl rfl und57) rfl (at_lt (lt_lss rfl rfl) rfl (s_nt ?_)))))))
   by_cases h1249 : x1245 < a0.Subs.length
   ·replace hr := ipos h1249 hr
    refine at_true rfl (decide_eq_true (by omega)) ?_
    refine at_skip (at_then (at_seq (at_block (s_sr (at_lt (lt_fieldAddr 3 rfl fld59_2 rfl) rfl (at_lt (lt_load_box 0 rfl ti57 rfl rfl rfl rfl rfl) rfl (s_mv rfl ?_)))))))
    replace hr := obind hr
    obtain ⟨x1250, h1251, hr⟩ := hr
    have := (List.getElem?_eq_some_iff.1 h1251).1
    refine at_elem 2 rfl (nat_at' h1251) (fun p1252 ec pa1253 => ?_)
    refine at_open (A := Unit) 0 rfl _ _ (fun F w h => op67 h) ?_
    rintro _ rfl
    refine at_lt (lt_idx rfl rfl pa1253 und57 ti67) rfl (at_lt (lt_fieldAddr 0 rfl fld67_0 rfl) rfl (at_lt (lt_load_peek 2 rfl ti5 rfl rfl rfl rfl rfl) rfl ?_))
    replace hr := obind hr
    obtain ⟨x1254, h1255, hr⟩ := hr
    refine at_hv rfl (hv_call0 [] (f79_spec h1255) rfl rfl rfl rfl ?_)
    rintro _ _ ⟨rfl, rfl⟩
    refine at_lt (lt_not rfl) rfl (s_mv rfl ?_)
    by_cases h1256 : x1254 = true
    ·replace hr := ipos h1256 hr
     refine at_on rfl rfl (nt h1256) (at_lt (lt_fieldAddr 3 rfl fld59_2 rfl) rfl (at_on rfl rfl (nt h1256) (at_lt (lt_load_box 0 rfl ti57 rfl rfl rfl rfl rfl) rfl (at_on rfl rfl (nt h1256) (s_mv rfl ?_)))))
     replace hr := obind hr
     obtain ⟨x1257, h1258, hr⟩ := hr
     have := (List.getElem?_eq_some_iff.1 h1258).1
     refine at_elem 5 rfl (nat_at' h1258) (fun p1259 ec pa1260 => ?_)
     refine at_open (A := Unit) 0 rfl _ _ (fun F w h => op67 h) ?_
     rintro _ rfl
     refine at_on rfl rfl (nt h1256) (at_lt (lt_idx rfl rfl pa1260 und57 ti67) rfl (at_on rfl rfl (nt h1256) (at_lt (lt_fieldAddr 1 rfl fld67_1 rfl) rfl (at_on rfl rfl (nt h1256) (at_lt (lt_load_peek 2 rfl ti9 rfl rfl rfl rfl rfl) rfl ?_)))))
     replace hr := obind hr
     obtain ⟨x1261, h1262, hr⟩ := hr
     refine at_on rfl rfl (nt h1256) (at_hv rfl (hv_call0 [0] (f80_spec h1262) rfl rfl rfl rfl ?_))
     rintro _ _ ⟨rfl, rfl⟩
     refine at_on rfl rfl (nt h1256) (at_lt (lt_not rfl) rfl (at_lt (lt_pick false rfl (nt h1256) rfl) rfl (s_nt ?_)))
     by_cases h1263 : x1261 = true
     ·replace hr := ipos h1263 hr
      refine at_false rfl (nt h1263) (at_skip (at_in (s_tr (s_mv rfl (at_lt (lt_add rfl rfl (by simp only [lo, hi]; omega)) rfl (s_as rfl (at_nil (at_int .i64 (x1245 + 1 : Int) (by simp only [lo, hi]; omega) ?_))))))))
      exact at_again (σ := Nat) (V := Unit) (lp := fun n s => m36_l2 a0 n s) (S := fun s e => (⟨[(1, .pointer (some (Addr.add ⟨b1220, 0, none⟩ 0))), (4, .int .i64 (s : Int))], [⟨b1220, [str a0.Tag, .int .u8 (a0.Ind_0.toNat : Int), .int .u8 (a0.Ind_1.toNat : Int), s1219], 59⟩], [], [((Ty.int .i64).fact (s : Int) [.int .i64 (s : Int)]), (Ty.str.fact a0.Tag [str a0.Tag]), ((Ty.slice ty67).fact a0.Subs [s1219])]⟩ : St)) (x1245 + 1) () hr ⟨⟨rfl, ⟨rfl, trivial⟩⟩, ⟨[true], rfl⟩, ⟨[], rfl⟩, ⟨[0, 8, 9], rfl⟩⟩
     replace hr := ineg h1263 hr
     refine at_true rfl (nf (bf h1263)) (s_sr (s_as rfl (s_nt (at_ret ?_))))
     have hq := oinj hr
     clear hr
     subst hq
     have hq := oinj hk1248
     clear hk1248
     subst hq
     refine at_in_ret (at_then_ret (at_then_ret (at_in_ret (at_then_ret (at_then_ret ?_)))))
     exact at_return (.bool false) [] hS Tryz.results36 (.cons (.tmp rfl) .nil) rfl rfl ⟨rfl, rfl⟩
    replace hr := ineg h1256 hr
    refine at_off rfl rfl (nf (bf h1256)) rfl (at_off rfl rfl (nf (bf h1256)) rfl (at_off rfl rfl (nf (bf h1256)) rfl (at_off rfl rfl (nf (bf h1256)) rfl (at_off rfl rfl (nf (bf h1256)) rfl (at_off rfl rfl (nf (bf h1256)) rfl (at_off rfl rfl (nf (bf h1256)) rfl (at_off rfl rfl (nf (bf h1256)) rfl (at_lt (lt_pick true rfl (nf (bf h1256)) rfl) rfl (s_nt ?_)))))))))
    refine at_true rfl rfl (s_sr (s_as rfl (s_nt (at_ret ?_))))
    have hq := oinj hr
    clear hr
    subst hq
    have hq := oinj hk1248
    clear hk1248
    subst hq
    refine at_in_ret (at_then_ret (at_then_ret (at_in_ret (at_then_ret (at_then_ret ?_)))))
    exact at_return (.bool false) [] hS Tryz.results36 (.cons (.tmp rfl) .nil) rfl rfl ⟨rfl, rfl⟩
   replace hr := ineg h1249 hr
   refine at_false rfl (decide_eq_false (by omega)) ?_
   refine at_exit (at_then_exit (at_then_exit (at_in_exit ?_)))
   have hq := oinj hr
   clear hr
   subst hq
   exact at_leafP ((), ()) rfl ⟨trivial, ⟨[false], rfl⟩, ⟨[], rfl⟩, ⟨[], rfl⟩⟩
  rintro ⟨_, _⟩ hp
  replace hr := hk1248
  subst hp
  clear hl1247
  change At _ _ (⟨[], [], [], []⟩ : St) _
  refine s_tsr (s_as rfl (s_nt (at_ret ?_)))
  have hq := oinj hr
  clear hr
  subst hq
  exact at_return (.bool true) [] hS Tryz.results36 (.cons (.tmp rfl) .nil) rfl rfl ⟨rfl, rfl⟩
 replace hr := ineg h1223 hr
 refine at_off rfl rfl (nf (bf h1223)) rfl (at_off rfl rfl (nf (bf h1223)) rfl (at_off rfl rfl (nf (bf h1223)) rfl (at_off rfl rfl (nf (bf h1223)) rfl (at_lt (lt_pick true rfl (nf (bf h1223)) rfl) rfl (s_mv rfl (at_off rfl rfl rfl rfl (at_off rfl rfl rfl rfl (at_off rfl rfl rfl rfl (at_off rfl rfl rfl rfl ?_)))))))))
 refine at_lt (lt_pick true rfl rfl rfl) rfl (s_nt (at_true rfl rfl (s_sr (s_as rfl (s_nt (at_ret ?_))))))
 have hq := oinj hr
 clear hr
 subst hq
 refine at_then_ret ?_
 exact at_return (.bool false) [] hS Tryz.results36 (.cons (.tmp rfl) .nil) rfl rfl ⟨rfl, rfl⟩
def m27_l1 (a0 : D_api_Record) : Nat → Nat → Option (Fl Bool Unit)
  | 0, _ => none
  | k + 1, x1273 =>
    if x1273 < a0.Fields.length then
     (a0.Fields[x1273]?).bind fun x1278 =>
     (m36 x1278).bind fun x1283 =>
     if x1283 = true then
      m27_l1 a0 k (x1273 + 1)
     else
      some (Fl.ret false)
    else
     some (Fl.go ())
def m27 (a0 : D_api_Record) : Option Bool :=
  if a0.ID < 1 then
   some false
  else
   if (1000000000 : Int) < a0.ID then
    some false
   else
    if a0.Fields.length < 1 then
     some false
    else
     if 60 < a0.Fields.length then
      some false
     else
      (m27_l1 a0 (a0.Fields.length + 1) 0).bind fun r => match r with
      | .ret x => some x
      | .go _ =>
       some true
def post27 (r : Bool) (v : Value) (fs : List Fact) : Prop := v = .bool r ∧ fs = []
theorem en27 : Enters Tryz.prog 27 := ⟨_, Tryz.func27, by kernel_rfl, rfl⟩
theorem f27_spec {a0 : D_api_Record} {s1264 : Value} {r : Bool} (hr : m27 a0 = some r) : Spec Tryz.prog 27 [.agg #[.int .i64 a0.ID, s1264]] [(ty24.fact a0 [.int .i64 a0.ID, s1264])] (post27 r) := by
 refine spec_start (N := 38) Tryz.func27 (by kernel_rfl) rfl rfl rfl ?_
 intro g hS
 unfold m27 at hr
 refine at_open (A := Unit) 0 rfl (fun _ => True) (fun _ => [((Ty.int .i64).fact a0.ID [.int .i64 a0.ID]), ((Ty.slice ty59).fact a0.Fields [s1264])]) (fun F w h => ⟨(), trivial, ex24 h⟩) (fun _ _ => ?_)
 refine at_inv 0 rfl (fun l1265 => ?_)
 replace l1265 : (-9223372036854775808) ≤ a0.ID ∧ a0.ID ≤ 9223372036854775807 := l1265
 refine s_sr (at_hv rfl ?_)
 refine hv_box (cs := [.int .i64 a0.ID, s1264]) rfl rfl rfl (fun b1266 => ?_)
 refine s_as rfl (s_nt (at_seq (s_sr (at_lt (lt_fieldAddr 0 rfl fld24_0 rfl) rfl (at_lt (lt_load_box 0 rfl ti3 rfl rfl rfl rfl rfl) rfl (at_lt (lt_lss rfl rfl) rfl (s_mv rfl ?_)))))))
 by_cases h1267 : a0.ID < 1
 ·replace hr := ipos h1267 hr
  refine at_off rfl rfl (decide_eq_true (by first | exact h1267 | omega)) rfl ?_
  refine at_off rfl rfl (decide_eq_true (by first | exact h1267 | omega)) rfl ?_
  refine at_off rfl rfl (decide_eq_true (by first | exact h1267 | omega)) rfl ?_
  refine at_lt (lt_pick true rfl (decide_eq_true (by first | exact h1267 | omega)) rfl) rfl ?_
  refine s_mv rfl (at_off rfl rfl rfl rfl (at_off rfl rfl rfl rfl (at_off rfl rfl rfl rfl (at_off rfl rfl rfl rfl (at_lt (lt_pick true rfl rfl rfl) rfl (s_mv rfl (at_off rfl rfl rfl rfl (at_off rfl rfl rfl rfl (at_off rfl rfl rfl rfl ?_)))))))))
  refine at_off rfl rfl rfl rfl (at_lt (lt_pick true rfl rfl rfl) rfl (s_nt (at_true rfl rfl (s_sr (s_as rfl (s_nt (at_ret ?_)))))))
  have hq := oinj hr
  clear hr
  subst hq
  refine at_then_ret ?_
  exact at_return (.bool false) [] hS Tryz.results27 (.cons (.tmp rfl) .nil) rfl rfl ⟨rfl, rfl⟩
 replace hr := ineg h1267 hr
 refine at_on rfl rfl (decide_eq_false (by first | exact h1267 | omega)) ?_
 refine at_lt (lt_fieldAddr 0 rfl fld24_0 rfl) rfl ?_
 refine at_on rfl rfl (decide_eq_false (by first | exact h1267 | omega)) ?_
 refine at_lt (lt_load_box 0 rfl ti3 rfl rfl rfl rfl rfl) rfl ?_
 refine at_on rfl rfl (decide_eq_false (by first | exact h1267 | omega)) ?_
 refine at_lt (lt_gtr rfl rfl) rfl ?_
 refine at_lt (lt_pick false rfl (decide_eq_false (by first | exact h1267 | omega)) rfl) rfl ?_
 refine s_mv rfl ?_
 by_cases h1268 : (1000000000 : Int) < a0.ID
 ·replace hr := ipos h1268 hr
  refine at_off rfl rfl (decide_eq_true (by first | exact h1268 | omega)) rfl ?_
  refine at_off rfl rfl (decide_eq_true (by first | exact h1268 | omega)) rfl ?_
  refine at_off rfl rfl (decide_eq_true (by first | exact h1268 | omega)) rfl ?_
  refine at_off rfl rfl (decide_eq_true (by first | exact h1268 | omega)) rfl ?_
  refine at_lt (lt_pick true rfl (decide_eq_true (by first | exact h1268 | omega)) rfl) rfl ?_
  refine s_mv rfl (at_off rfl rfl rfl rfl (at_off rfl rfl rfl rfl (at_off rfl rfl rfl rfl (at_off rfl rfl rfl rfl (at_lt (lt_pick true rfl rfl rfl) rfl (s_nt (at_true rfl rfl (s_sr (s_as rfl ?_)))))))))
  refine s_nt (at_ret ?_)
  have hq := oinj hr
  clear hr
  subst hq
  refine at_then_ret ?_
  exact at_return (.bool false) [] hS Tryz.results27 (.cons (.tmp rfl) .nil) rfl rfl ⟨rfl, rfl⟩
 replace hr := ineg h1268 hr
 refine at_on rfl rfl (decide_eq_false (by first | exact h1268 | omega)) ?_
 refine at_lt (lt_fieldAddr 1 rfl fld24_1 rfl) rfl ?_
 refine at_on rfl rfl (decide_eq_false (by first | exact h1268 | omega)) ?_
 refine at_lt (lt_load_box 0 rfl ti22 rfl rfl rfl rfl rfl) rfl ?_
 refine at_inv 1 rfl (fun i1269 => ?_)
 have l1270 := slice_len i1269
 refine at_on rfl rfl (decide_eq_false (by first | exact h1268 | omega)) ?_
 refine at_lt (lt_flen 1 rfl rfl und22) rfl ?_
 refine at_on rfl rfl (decide_eq_false (by first | exact h1268 | omega)) ?_
 refine at_lt (lt_lss rfl rfl) rfl ?_
 refine at_lt (lt_pick false rfl (decide_eq_false (by first | exact h1268 | omega)) rfl) rfl ?_
 refine s_mv rfl ?_
 by_cases h1271 : a0.Fields.length < 1
 ·replace hr := ipos h1271 hr
  refine at_off rfl rfl (decide_eq_true (by omega)) rfl ?_
  refine at_off rfl rfl (decide_eq_true (by omega)) rfl ?_
  refine at_off rfl rfl (decide_eq_true (by omega)) rfl ?_
  refine at_off rfl rfl (decide_eq_true (by omega)) rfl ?_
  refine at_lt (lt_pick true rfl (decide_eq_true (by omega)) rfl) rfl ?_
  refine s_nt (at_true rfl rfl (s_sr (s_as rfl (s_nt (at_ret ?_)))))
  have hq := oinj hr
  clear hr
  subst hq
  refine at_then_ret ?_
  exact at_return (.bool false) [] hS Tryz.results27 (.cons (.tmp rfl) .nil) rfl rfl ⟨rfl, rfl⟩
 replace hr := ineg h1271 hr
 refine at_on rfl rfl (decide_eq_false (by omega)) ?_
 refine at_lt (lt_fieldAddr 1 rfl fld24_1 rfl) rfl ?_
 refine at_on rfl rfl (decide_eq_false (by omega)) ?_
 refine at_lt (lt_load_box 0 rfl ti22 rfl rfl rfl rfl rfl) rfl ?_
 refine at_on rfl rfl (decide_eq_false (by omega)) ?_
 refine at_lt (lt_flen 1 rfl rfl und22) rfl ?_
 refine at_on rfl rfl (decide_eq_false (by omega)) ?_
 refine at_lt (lt_gtr rfl rfl) rfl ?_
 refine at_lt (lt_pick false rfl (decide_eq_false (by omega)) rfl) rfl ?_
 refine s_nt ?_
 by_cases h1272 : 60 < a0.Fields.length
 ·replace hr := ipos h1272 hr
  refine at_true rfl (decide_eq_true (by omega)) ?_
  refine s_sr (s_as rfl (s_nt (at_ret ?_)))
  have hq := oinj hr
  clear hr
  subst hq
  refine at_then_ret ?_
  exact at_return (.bool false) [] hS Tryz.results27 (.cons (.tmp rfl) .nil) rfl rfl ⟨rfl, rfl⟩
 replace hr := ineg h1272 hr
 refine at_false rfl (decide_eq_false (by omega)) ?_
 refine at_skip (at_then (at_seq (s_sr (s_as rfl (s_nt (at_int .i64 0 (by simp only [lo, hi]; omega) ?_))))))
 replace hr := obind hr
 obtain ⟨r1274, hl1275, hk1276⟩ := hr
 refine at_cutP (V := (Unit) × (Unit)) (fun v => r1274 = Fl.go v.1) (fun v => (⟨[], [], [], []⟩ : St)) ?_ ?_
 ·refine at_block ?_
  refine at_loopW (σ := Nat) (V := Unit) (r := r1274) (fun n s => m27_l1 a0 n s) (fun s e => (⟨[(1, .pointer (some (Addr.add ⟨b1266, 0, none⟩ 0))), (3, .int .i64 (s : Int))], [⟨b1266, [.int .i64 a0.ID, s1264], 24⟩], [], [((Ty.int .i64).fact (s : Int) [.int .i64 (s : Int)]), ((Ty.int .i64).fact a0.ID [.int .i64 a0.ID]), ((Ty.slice ty59).fact a0.Fields [s1264])]⟩ : St)) (fun _ => rfl) _ 0 () hl1275 ⟨⟨rfl, ⟨rfl, trivial⟩⟩, ⟨[true], rfl⟩, ⟨[], rfl⟩, ⟨[0, 1, 2], rfl⟩⟩ ?_
  clear hl1275
  intro n x1273 hr e
  skip
  skip
  change m27_l1 a0 (n + 1) x1273 = some r1274 at hr
  change At _ _ (⟨[(1, .pointer (some (Addr.add ⟨b1266, 0, none⟩ 0))), (3, .int .i64 (x1273 : Int))], [⟨b1266, [.int .i64 a0.ID, s1264], 24⟩], [], [((Ty.int .i64).fact (x1273 : Int) [.int .i64 (x1273 : Int)]), ((Ty.int .i64).fact a0.ID [.int .i64 a0.ID]), ((Ty.slice ty59).fact a0.Fields [s1264])]⟩ : St) _
  rw [m27_l1] at hr
  refine at_seq (s_sr (s_mv rfl (at_lt (lt_fieldAddr 1 rfl fld24_1 rfl) rfl (at_lt (lt_load_box 0 rfl ti22 rfl rfl rfl rfl rfl) rfl (at_lt (lt_flen 2 rfl rfl und22) rfl (at_lt (lt_lss rfl rfl) rfl (s_nt ?_)))))))
  by_cases h1277 : x1273 < a0.Fields.length
  ·replace hr := ipos h1277 hr
   refine at_true rfl (decide_eq_true (by omega)) ?_
   refine at_skip (at_then (at_seq (at_block (s_sr (at_lt (lt_fieldAddr 1 rfl fld24_1 rfl) rfl (at_lt (lt_load_box 0 rfl ti22 rfl rfl rfl rfl rfl) rfl (s_mv rfl ?_)))))))
   replace hr := obind hr
   obtain ⟨x1278, h1279, hr⟩ := hr
   have := (List.getElem?_eq_some_iff.1 h1279).1
   refine at_elem 2 rfl (nat_at' h1279) (fun p1281 ec pa1282 => ?_)
   refine at_open (A := Value) 0 rfl _ _ (fun F w h => op59 h) ?_
   rintro s1280 rfl
   refine at_lt (lt_idx rfl rfl pa1282 und22 ti59) rfl (at_lt (lt_load_peek 3 rfl ti59 rfl rfl rfl rfl rfl) rfl ?_)
   replace hr := obind hr
   obtain ⟨x1283, h1284, hr⟩ := hr
   refine at_hv rfl (hv_call0 [2] (f36_spec h1284) rfl rfl rfl rfl ?_)
   rintro _ _ ⟨rfl, rfl⟩
   refine at_lt (lt_not rfl) rfl (s_nt ?_)
   by_cases h1285 : x1283 = true
   ·replace hr := ipos h1285 hr
    refine at_false rfl (nt h1285) (at_skip (at_in (s_tr (s_mv rfl (at_lt (lt_add rfl rfl (by simp only [lo, hi]; omega)) rfl (s_as rfl (at_nil (at_int .i64 (x1273 + 1 : Int) (by simp only [lo, hi]; omega) ?_))))))))
    exact at_again (σ := Nat) (V := Unit) (lp := fun n s => m27_l1 a0 n s) (S := fun s e => (⟨[(1, .pointer (some (Addr.add ⟨b1266, 0, none⟩ 0))), (3, .int .i64 (s : Int))], [⟨b1266, [.int .i64 a0.ID, s1264], 24⟩], [], [((Ty.int .i64).fact (s : Int) [.int .i64 (s : Int)]), ((Ty.int .i64).fact a0.ID [.int .i64 a0.ID]), ((Ty.slice ty59).fact a0.Fields [s1264])]⟩ : St)) (x1273 + 1) () hr ⟨⟨rfl, ⟨rfl, trivial⟩⟩, ⟨[true], rfl⟩, ⟨[], rfl⟩, ⟨[0, 6, 7], rfl⟩⟩
   replace hr := ineg h1285 hr
   refine at_true rfl (nf (bf h1285)) (s_sr (s_as rfl (s_nt (at_ret ?_))))
   have hq := oinj hr
   clear hr
   subst hq
   have hq := oinj hk1276
   clear hk1276
   subst hq
   refine at_in_ret (at_then_ret (at_then_ret (at_in_ret (at_then_ret (at_then_ret ?_)))))
   exact at_return (.bool false) [] hS Tryz.results27 (.cons (.tmp rfl) .nil) rfl rfl ⟨rfl, rfl⟩
  replace hr := ineg h1277 hr
  refine at_false rfl (decide_eq_false (by omega)) ?_
  refine at_exit (at_then_exit (at_then_exit (at_in_exit ?_)))
  have hq := oinj hr
  clear hr
  subst hq
  exact at_leafP ((), ()) rfl ⟨trivial, ⟨[false], rfl⟩, ⟨[], rfl⟩, ⟨[], rfl⟩⟩
 rintro ⟨_, _⟩ hp
 replace hr := hk1276
 subst hp
 clear hl1275
 change At _ _ (⟨[], [], [], []⟩ : St) _
 refine s_tsr (s_as rfl (s_nt (at_ret ?_)))
 have hq := oinj hr
 clear hr
 subst hq
 exact at_return (.bool true) [] hS Tryz.results27 (.cons (.tmp rfl) .nil) rfl rfl ⟨rfl, rfl⟩
def m51_l1 : Nat → Int → Str → Bool → Option Str
  | 0, _, _, _ => none
  | k + 1, x1290, x1291, x1292 =>
    if x1292 = true then
     Option.bind (α := Int) (
      if Int.tmod x1290 10 < 0 then
       some (IntKind.i64.wrap (0 - (Int.tmod x1290 10)))
      else
       some (Int.tmod x1290 10)
     ) fun x1298 =>
     if ([w8 (IntKind.i64.wrap (48 + x1298))] : Str).length + x1291.length ≤ 9223372036854775807 then
      m51_l1 k (IntKind.i64.wrap (Int.tdiv x1290 10)) (([w8 (IntKind.i64.wrap (48 + x1298))] : Str) ++ x1291) (!decide (IntKind.i64.wrap (Int.tdiv x1290 10) = 0))
     else none
    else
     some x1291
def m51 (a0 : Int) : Option Str :=
  Option.bind (α := Str) (
   if a0 < 0 then
    some ([45] : Str)
   else
    some ([] : Str)
  ) fun x1287 =>
  (m51_l1 9223372036854775808 a0 ([] : Str) true).bind fun x1293 =>
  if x1287.length + x1293.length ≤ 9223372036854775807 then
   some (x1287 ++ x1293)
  else none
def post51 (r : Str) (v : Value) (fs : List Fact) : Prop := v = str r ∧ fs = [(Ty.str.fact r [str r])]
theorem en51 : Enters Tryz.prog 51 := ⟨_, Tryz.func51, by kernel_rfl, rfl⟩
theorem f51_spec {a0 : Int} {r : Str} (hr : m51 a0 = some r) : Spec Tryz.prog 51 [.int .i64 a0] [((Ty.int .i64).fact a0 [.int .i64 a0])] (post51 r) := by
 refine spec_start (N := 30) Tryz.func51 (by kernel_rfl) rfl rfl rfl ?_
 intro g hS
 unfold m51 at hr
 refine at_inv 0 rfl (fun l1286 => ?_)
 replace l1286 : (-9223372036854775808) ≤ a0 ∧ a0 ≤ 9223372036854775807 := l1286
 refine s_sr (s_as rfl (s_ntsr (s_as rfl (s_as rfl (s_nt (at_seq (s_sr (s_mv rfl (at_lt (lt_lss rfl rfl) rfl ?_)))))))))
 refine s_nt ?_
 replace hr := obind hr
 obtain ⟨x1287, hc1288, hr⟩ := hr
 refine at_cut (V := Unit) (fun e => (⟨[(0, .int .i64 a0), (3, str ([] : Str)), (4, str x1287)], [], [], [(Ty.str.fact x1287 [str x1287]), ((Ty.int .i64).fact a0 [.int .i64 a0])]⟩ : St)) ?_ ?_
 ·clear hr
  have hr := hc1288
  clear hc1288
  by_cases h1289 : a0 < 0
  ·replace hr := ipos h1289 hr
   refine at_true rfl (decide_eq_true (by first | exact h1289 | omega)) ?_
   refine at_region (s_as rfl (at_nil ?_))
   have hq := oinj hr
   clear hr
   subst hq
   refine at_str ([45] : Str) (by decide) ?_
   exact at_leaf () ⟨⟨rfl, ⟨rfl, ⟨rfl, trivial⟩⟩⟩, ⟨[], rfl⟩, ⟨[], rfl⟩, ⟨[0, 1], rfl⟩⟩
  replace hr := ineg h1289 hr
  refine at_false rfl (decide_eq_false (by first | exact h1289 | omega)) ?_
  refine at_skip ?_
  have hq := oinj hr
  clear hr
  subst hq
  refine at_str ([] : Str) (by decide) ?_
  exact at_leaf () ⟨⟨rfl, ⟨rfl, ⟨rfl, trivial⟩⟩⟩, ⟨[], rfl⟩, ⟨[], rfl⟩, ⟨[0, 1], rfl⟩⟩
 clear hc1288
 intro _
 change At _ _ (⟨[(0, .int .i64 a0), (3, str ([] : Str)), (4, str x1287)], [], [], [(Ty.str.fact x1287 [str x1287]), ((Ty.int .i64).fact a0 [.int .i64 a0])]⟩ : St) _
 refine at_then (at_seq (s_sr (s_as rfl (s_nt ?_))))
 refine at_str ([] : Str) (by decide) ?_
 replace hr := obind hr
 obtain ⟨x1293, hl1294, hr⟩ := hr
 refine at_cut (V := Unit) (fun e => (⟨[(3, str x1293), (4, str x1287)], [], [], [(Ty.str.fact x1293 [str x1293]), (Ty.str.fact x1287 [str x1287])]⟩ : St)) ?_ ?_
 ·refine at_block ?_
  refine at_loopW (σ := (Int × Str × Bool)) (V := Unit) (r := x1293) (fun n s => m51_l1 n s.1 s.2.1 s.2.2) (fun s e => (⟨[(0, .int .i64 s.1), (3, str s.2.1), (4, str x1287), (5, .bool s.2.2)], [], [], [((Ty.int .i64).fact s.1 [.int .i64 s.1]), (Ty.str.fact s.2.1 [str s.2.1]), (Ty.str.fact x1287 [str x1287])]⟩ : St)) (fun _ => rfl) _ (a0, ([] : Str), true) () hl1294 ⟨⟨rfl, ⟨rfl, ⟨rfl, ⟨rfl, trivial⟩⟩⟩⟩, ⟨[], rfl⟩, ⟨[], rfl⟩, ⟨[2, 0, 1], rfl⟩⟩ ?_
  clear hr hl1294
  intro n s hr e
  obtain ⟨x1290, x1291, x1292⟩ := s
  skip
  change m51_l1 (n + 1) x1290 x1291 x1292 = some x1293 at hr
  change At _ _ (⟨[(0, .int .i64 x1290), (3, str x1291), (4, str x1287), (5, .bool x1292)], [], [], [((Ty.int .i64).fact x1290 [.int .i64 x1290]), (Ty.str.fact x1291 [str x1291]), (Ty.str.fact x1287 [str x1287])]⟩ : St) _
  rw [m51_l1] at hr
  refine at_inv 0 rfl (fun l1296 => ?_)
  replace l1296 : (-9223372036854775808) ≤ x1290 ∧ x1290 ≤ 9223372036854775807 := l1296
  refine at_seq (s_sr (s_mv rfl (s_nt ?_)))
  by_cases h1297 : x1292 = true
  ·replace hr := ipos h1297 hr
   refine at_true rfl h1297 (at_skip (at_then (at_seq (at_block (s_sr (s_mv rfl ?_))))))
   refine at_lt (lt_rem rfl rfl (by decide)) rfl ?_
   refine s_as rfl (s_nt (at_seq (s_sr (s_mv rfl (at_lt (lt_lss rfl rfl) rfl (s_nt ?_))))))
   replace hr := obind hr
   obtain ⟨x1298, hc1299, hr⟩ := hr
   refine at_cut (V := Unit) (fun e => (⟨[(0, .int .i64 x1290), (3, str x1291), (4, str x1287), (6, .int .i64 x1298)], [], [], [((Ty.int .i64).fact x1298 [.int .i64 x1298]), ((Ty.int .i64).fact x1290 [.int .i64 x1290]), (Ty.str.fact x1291 [str x1291]), (Ty.str.fact x1287 [str x1287])]⟩ : St)) ?_ ?_
   ·clear hr
    have hr := hc1299
    clear hc1299
    by_cases h1300 : Int.tmod x1290 10 < 0
    ·replace hr := ipos h1300 hr
     refine at_true rfl (decide_eq_true (by first | exact h1300 | omega)) ?_
     refine at_region (s_mv rfl (at_lt (lt_neg rfl) rfl (s_as rfl (at_nil ?_))))
     have hq := oinj hr
     clear hr
     subst hq
     refine at_int .i64 (IntKind.i64.wrap (0 - (Int.tmod x1290 10))) (wrap_bd .i64 _) ?_
     exact at_leaf () ⟨⟨rfl, ⟨rfl, ⟨rfl, ⟨rfl, trivial⟩⟩⟩⟩, ⟨[], rfl⟩, ⟨[], rfl⟩, ⟨[0, 1, 2, 3], rfl⟩⟩
    replace hr := ineg h1300 hr
    refine at_false rfl (decide_eq_false (by first | exact h1300 | omega)) ?_
    refine at_skip ?_
    have hq := oinj hr
    clear hr
    subst hq
    refine at_int .i64 (Int.tmod x1290 10) (tmod_bd (by simp only [lo, hi]; omega)) ?_
    exact at_leaf () ⟨⟨rfl, ⟨rfl, ⟨rfl, ⟨rfl, trivial⟩⟩⟩⟩, ⟨[], rfl⟩, ⟨[], rfl⟩, ⟨[0, 1, 2, 3], rfl⟩⟩
   clear hc1299
   intro _
   change At _ _ (⟨[(0, .int .i64 x1290), (3, str x1291), (4, str x1287), (6, .int .i64 x1298)], [], [], [((Ty.int .i64).fact x1298 [.int .i64 x1298]), ((Ty.int .i64).fact x1290 [.int .i64 x1290]), (Ty.str.fact x1291 [str x1291]), (Ty.str.fact x1287 [str x1287])]⟩ : St) _
   refine at_inv 0 rfl (fun l1301 => ?_)
   replace l1301 : (-9223372036854775808) ≤ x1298 ∧ x1298 ≤ 9223372036854775807 := l1301
   refine s_tsr (s_mv rfl (at_lt (lt_addw rfl rfl) rfl (at_lt (lt_convu8 rfl (iso und3) und5) rfl (at_hv rfl ?_))))
   refine hv_bslice (cs := [.int .u8 ((w8 (IntKind.i64.wrap (48 + x1298))).toNat : Int)]) rfl und48 ti5 rfl rfl rfl rfl rfl (fun s1302 => ?_)
   refine at_hv rfl (lt_bstr 0 [w8 (IntKind.i64.wrap (48 + x1298))] rfl rfl rfl und48 und5 und9 rfl (s_mv rfl ?_))
   replace hr := imust hr
   obtain ⟨h1303, hr⟩ := hr
   refine at_lt (lt_sadd rfl rfl h1303) rfl (s_as rfl (at_nil (s_tr (s_mv rfl ?_))))
   refine at_inv 2 rfl (fun l1304 => ?_)
   replace l1304 : x1291.length ≤ 9223372036854775807 := l1304
   refine at_lt (lt_quo rfl rfl (by decide)) rfl ?_
   refine s_as rfl (at_nil (at_in (s_tr (s_mv rfl (at_lt (lt_neq rfl rfl) rfl (s_as rfl (at_nil (at_int .i64 (IntKind.i64.wrap (Int.tdiv x1290 10)) (wrap_bd .i64 _) ?_))))))))
   refine at_str (([w8 (IntKind.i64.wrap (48 + x1298))] : Str) ++ x1291) (by rw [List.length_append]; exact h1303) ?_
   exact at_again (σ := (Int × Str × Bool)) (V := Unit) (lp := fun n s => m51_l1 n s.1 s.2.1 s.2.2) (S := fun s e => (⟨[(0, .int .i64 s.1), (3, str s.2.1), (4, str x1287), (5, .bool s.2.2)], [], [], [((Ty.int .i64).fact s.1 [.int .i64 s.1]), (Ty.str.fact s.2.1 [str s.2.1]), (Ty.str.fact x1287 [str x1287])]⟩ : St)) (IntKind.i64.wrap (Int.tdiv x1290 10), ([w8 (IntKind.i64.wrap (48 + x1298))] : Str) ++ x1291, !decide (IntKind.i64.wrap (Int.tdiv x1290 10) = 0)) () hr ⟨⟨rfl, ⟨rfl, ⟨rfl, ⟨rfl, trivial⟩⟩⟩⟩, ⟨[], rfl⟩, ⟨[false], rfl⟩, ⟨[1, 0, 5], rfl⟩⟩
  replace hr := ineg h1297 hr
  refine at_false rfl (bf h1297) (at_exit (at_then_exit (at_then_exit (at_in_exit ?_))))
  have hq := oinj hr
  clear hr
  subst hq
  exact at_leaf () ⟨⟨rfl, ⟨rfl, trivial⟩⟩, ⟨[], rfl⟩, ⟨[], rfl⟩, ⟨[1, 2], rfl⟩⟩
 clear hl1294
 intro e
 change At _ _ (⟨[(3, str x1293), (4, str x1287)], [], [], [(Ty.str.fact x1293 [str x1293]), (Ty.str.fact x1287 [str x1287])]⟩ : St) _
 refine s_tsr (s_mv rfl (s_mv rfl ?_))
 replace hr := imust hr
 obtain ⟨h1305, hr⟩ := hr
 refine at_lt (lt_sadd rfl rfl h1305) rfl (s_as rfl (s_nt (at_ret ?_)))
 have hq := oinj hr
 clear hr
 subst hq
 refine at_str (x1287 ++ x1293) (by rw [List.length_append]; exact h1305) ?_
 exact at_return (str (x1287 ++ x1293)) [0] hS Tryz.results51 (.cons (.tmp rfl) .nil) rfl rfl ⟨rfl, rfl⟩
end Go.WK.S
