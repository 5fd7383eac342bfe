
/- What functions of this program compute: a model of each, and the proof that it is kept. -/
import Derived.Test.YteljaomifdnkkaaGreatDoorReadF02
import Derived.KernelRfl
set_option linter.unusedSimpArgs false
set_option linter.unusedVariables false
namespace Go.WK.S
open Go Go.Proofs Go.WK Go.RowKit
set_option linter.unusedVariables false
set_option maxRecDepth 100000
set_option maxHeartbeats 4000000
def m12_l2 (x934 : D_api_Field) : Nat → Nat → Option (Fl (Fl Bool Unit) Unit)
  | 0, _ => none
  | k + 1, x947 =>
    if x947 < x934.Subs.length then
     (x934.Subs[x947]?).bind fun x952 =>
     if 80 < x952.Value.length then
      (x934.Subs[x947]?).bind fun x958 =>
      if x958.Value.length < 400 then
       some (Fl.ret (Fl.ret false))
      else
       (x934.Subs[x947]?).bind fun x964 =>
       if 402 < x964.Value.length then
        some (Fl.ret (Fl.ret false))
       else
        m12_l2 x934 k (x947 + 1)
     else
      (x934.Subs[x947]?).bind fun x970 =>
      if 402 < x970.Value.length then
       some (Fl.ret (Fl.ret false))
      else
       m12_l2 x934 k (x947 + 1)
    else
     some (Fl.go ())
def m12_l3 (x934 : D_api_Field) : Nat → Nat → Option (Fl (Fl Bool Unit) Unit)
  | 0, _ => none
  | k + 1, x979 =>
    if x979 < x934.Subs.length then
     (x934.Subs[x979]?).bind fun x984 =>
     if 80 < x984.Value.length then
      (x934.Subs[x979]?).bind fun x990 =>
      if x990.Value.length < 400 then
       some (Fl.ret (Fl.ret false))
      else
       (x934.Subs[x979]?).bind fun x996 =>
       if 402 < x996.Value.length then
        some (Fl.ret (Fl.ret false))
       else
        m12_l3 x934 k (x979 + 1)
     else
      (x934.Subs[x979]?).bind fun x1002 =>
      if 402 < x1002.Value.length then
       some (Fl.ret (Fl.ret false))
      else
       m12_l3 x934 k (x979 + 1)
    else
     some (Fl.go ())
def m12_l4 (x934 : D_api_Field) : Nat → Nat → Option (Fl (Fl Bool Unit) Unit)
  | 0, _ => none
  | k + 1, x1010 =>
    if x1010 < x934.Subs.length then
     (x934.Subs[x1010]?).bind fun x1015 =>
     if 80 < x1015.Value.length then
      (x934.Subs[x1010]?).bind fun x1021 =>
      if x1021.Value.length < 400 then
       some (Fl.ret (Fl.ret false))
      else
       (x934.Subs[x1010]?).bind fun x1027 =>
       if 402 < x1027.Value.length then
        some (Fl.ret (Fl.ret false))
       else
        m12_l4 x934 k (x1010 + 1)
     else
      (x934.Subs[x1010]?).bind fun x1033 =>
      if 402 < x1033.Value.length then
       some (Fl.ret (Fl.ret false))
      else
       m12_l4 x934 k (x1010 + 1)
    else
     some (Fl.go ())
def m12_l1 (a0 : D_api_Record) : Nat → Nat → Option (Fl Bool Unit)
  | 0, _ => none
  | k + 1, x927 =>
    if x927 < a0.Fields.length then
     (a0.Fields[x927]?).bind fun x934 =>
     if 8 < x934.Subs.length then
      if x934.Subs.length = 20 then
       if 20 < x934.Tag.length then
        some (Fl.ret false)
       else
        (m12_l2 x934 (x934.Subs.length + 1) 0).bind fun r => match r with
        | .ret x => some x
        | .go _ =>
         m12_l1 a0 k (x927 + 1)
      else
       if x934.Subs.length = 21 then
        if 20 < x934.Tag.length then
         some (Fl.ret false)
        else
         (m12_l3 x934 (x934.Subs.length + 1) 0).bind fun r => match r with
         | .ret x => some x
         | .go _ =>
          m12_l1 a0 k (x927 + 1)
       else
        some (Fl.ret false)
     else
      if 20 < x934.Tag.length then
       some (Fl.ret false)
      else
       (m12_l4 x934 (x934.Subs.length + 1) 0).bind fun r => match r with
       | .ret x => some x
       | .go _ =>
        m12_l1 a0 k (x927 + 1)
    else
     some (Fl.go ())
def m12 (a0 : D_api_Record) (a1 : Int) : Option Bool :=
  (m12_l1 a0 (a0.Fields.length + 1) 0).bind fun r => match r with
  | .ret x => some x
  | .go _ =>
   some (decide ((a0.Fields.length : Int) ≤ a1))
def post12 (r : Bool) (v : Value) (fs : List Fact) : Prop := v = .bool r ∧ fs = []
theorem en12 : Enters Tryz.prog 12 := ⟨_, Tryz.func12, by kernel_rfl, rfl⟩
theorem f12_spec {a0 : D_api_Record} {a1 : Int} {s923 : Value} {r : Bool} (hr : m12 a0 a1 = some r) : Spec Tryz.prog 12 [.agg #[.int .i64 a0.ID, s923], .int .i64 a1] [(ty24.fact a0 [.int .i64 a0.ID, s923]), ((Ty.int .i64).fact a1 [.int .i64 a1])] (post12 r) := by
 refine spec_start (N := 82) Tryz.func12 (by kernel_rfl) rfl rfl rfl ?_
 intro g hS
 unfold m12 at hr
 refine at_open (A := Unit) 0 rfl (fun _ => True) (fun _ => [((Ty.int .i64).fact a0.ID [.int .i64 a0.ID]), ((Ty.slice ty59).fact a0.Fields [s923])]) (fun F w h => ⟨(), trivial, ex24 h⟩) (fun _ _ => ?_)
 refine at_inv 0 rfl (fun l924 => ?_)
 replace l924 : (-9223372036854775808) ≤ a0.ID ∧ a0.ID ≤ 9223372036854775807 := l924
 refine at_inv 3 rfl (fun l925 => ?_)
 replace l925 : (-9223372036854775808) ≤ a1 ∧ a1 ≤ 9223372036854775807 := l925
 refine s_sr (at_hv rfl ?_)
 refine hv_box (cs := [.int .i64 a0.ID, s923]) rfl rfl rfl (fun b926 => ?_)
 refine s_as rfl (s_nt (at_seq (s_sr (s_as rfl (s_nt (at_int .i64 0 (by simp only [lo, hi]; omega) ?_))))))
 replace hr := obind hr
 obtain ⟨r928, hl929, hk930⟩ := hr
 refine at_cutP (V := (Unit) × (Unit)) (fun v => r928 = Fl.go v.1) (fun v => (⟨[(1, .int .i64 a1), (2, .pointer (some (Addr.add ⟨b926, 0, none⟩ 0)))], [⟨b926, [.int .i64 a0.ID, s923], 24⟩], [], [((Ty.int .i64).fact a1 [.int .i64 a1]), ((Ty.int .i64).fact a0.ID [.int .i64 a0.ID]), ((Ty.slice ty59).fact a0.Fields [s923])]⟩ : St)) ?_ ?_
 ·refine at_block ?_
  refine at_loopW (σ := Nat) (V := Unit) (r := r928) (fun n s => m12_l1 a0 n s) (fun s e => (⟨[(1, .int .i64 a1), (2, .pointer (some (Addr.add ⟨b926, 0, none⟩ 0))), (5, .int .i64 (s : Int))], [⟨b926, [.int .i64 a0.ID, s923], 24⟩], [], [((Ty.int .i64).fact (s : Int) [.int .i64 (s : Int)]), ((Ty.int .i64).fact a1 [.int .i64 a1]), ((Ty.int .i64).fact a0.ID [.int .i64 a0.ID]), ((Ty.slice ty59).fact a0.Fields [s923])]⟩ : St)) (fun _ => rfl) _ 0 () hl929 ⟨⟨rfl, ⟨rfl, ⟨rfl, trivial⟩⟩⟩, ⟨[true], rfl⟩, ⟨[], rfl⟩, ⟨[0, 4, 1, 2], rfl⟩⟩ ?_
  clear hl929
  intro n x927 hr e
  skip
  skip
  change m12_l1 a0 (n + 1) x927 = some r928 at hr
  change At _ _ (⟨[(1, .int .i64 a1), (2, .pointer (some (Addr.add ⟨b926, 0, none⟩ 0))), (5, .int .i64 (x927 : Int))], [⟨b926, [.int .i64 a0.ID, s923], 24⟩], [], [((Ty.int .i64).fact (x927 : Int) [.int .i64 (x927 : Int)]), ((Ty.int .i64).fact a1 [.int .i64 a1]), ((Ty.int .i64).fact a0.ID [.int .i64 a0.ID]), ((Ty.slice ty59).fact a0.Fields [s923])]⟩ : St) _
  rw [m12_l1] at hr
  refine at_seq (s_sr (s_mv rfl (at_lt (lt_fieldAddr 1 rfl fld24_1 rfl) rfl (at_lt (lt_load_box 0 rfl ti22 rfl rfl rfl rfl rfl) rfl ?_))))
  refine at_inv 3 rfl (fun i931 => ?_)
  have l932 := slice_len i931
  refine at_lt (lt_flen 3 rfl rfl und22) rfl (at_lt (lt_lss rfl rfl) rfl (s_nt ?_))
  by_cases h933 : x927 < a0.Fields.length
  ·replace hr := ipos h933 hr
   refine at_true rfl (decide_eq_true (by omega)) ?_
   refine at_skip (at_then (at_seq (at_block (s_sr (at_lt (lt_fieldAddr 1 rfl fld24_1 rfl) rfl (at_lt (lt_load_box 0 rfl ti22 rfl rfl rfl rfl rfl) rfl (s_mv rfl ?_)))))))
   replace hr := obind hr
   obtain ⟨x934, h935, hr⟩ := hr
   have := (List.getElem?_eq_some_iff.1 h935).1
   refine at_elem 3 rfl (nat_at' h935) (fun p937 ec pa938 => ?_)
   refine at_open (A := Value) 0 rfl _ _ (fun F w h => op59 h) ?_
   rintro s936 rfl
   refine at_lt (lt_idx rfl rfl pa938 und22 ti59) rfl (at_lt (lt_load_peek 3 rfl ti59 rfl rfl rfl rfl rfl) rfl (at_hv rfl ?_))
   refine hv_alloc (cs := [str ([] : Str), .int .u8 0, .int .u8 0, (.slice none 0 0)]) ti59 rfl rfl (fun b939 => ?_)
   refine at_one 1 rfl (fun ho940 => ?_)
   refine at_hv rfl (hv_store_box 0 (cs' := [str x934.Tag, .int .u8 (x934.Ind_0.toNat : Int), .int .u8 (x934.Ind_1.toNat : Int), s936]) rfl rfl ti59 rfl rfl rfl rfl (allc rfl (allc rfl (allc rfl (allc ho940 rfl)))) (s_nt (at_seq (s_sr (at_lt (lt_fieldAddr 3 rfl fld59_2 rfl) rfl (at_lt (lt_load_box 0 rfl ti57 rfl rfl rfl rfl rfl) rfl ?_))))))
   refine at_inv 1 rfl (fun i941 => ?_)
   have l942 := slice_len i941
   refine at_lt (lt_flen 1 rfl rfl und57) rfl (at_lt (lt_gtr rfl rfl) rfl (s_mv rfl ?_))
   by_cases h943 : 8 < x934.Subs.length
   ·replace hr := ipos h943 hr
    refine at_on rfl rfl (decide_eq_true (by omega)) ?_
    refine at_lt (lt_fieldAddr 3 rfl fld59_2 rfl) rfl ?_
    refine at_on rfl rfl (decide_eq_true (by omega)) ?_
    refine at_lt (lt_load_box 0 rfl ti57 rfl rfl rfl rfl rfl) rfl ?_
    refine at_on rfl rfl (decide_eq_true (by omega)) ?_
    refine at_lt (lt_flen 1 rfl rfl und57) rfl ?_
    refine at_on rfl rfl (decide_eq_true (by omega)) ?_
    refine at_lt (lt_neq rfl rfl) rfl ?_
    refine at_lt (lt_pick true rfl (decide_eq_true (by omega)) rfl) rfl ?_
    refine s_mv rfl ?_
    by_cases h944 : x934.Subs.length = 20
    ·replace hr := ipos h944 hr
     refine at_off rfl rfl (nt (decide_eq_true (by omega))) rfl ?_
     refine at_off rfl rfl (nt (decide_eq_true (by omega))) rfl ?_
     refine at_off rfl rfl (nt (decide_eq_true (by omega))) rfl ?_
     refine at_off rfl rfl (nt (decide_eq_true (by omega))) rfl ?_
     refine at_lt (lt_pick false rfl (nt (decide_eq_true (by omega))) rfl) rfl ?_
     refine s_mv rfl (at_on rfl rfl rfl (at_lt (lt_fieldAddr 0 rfl fld59_0 rfl) rfl (at_on rfl rfl rfl (at_lt (lt_load_box 0 rfl ti9 rfl rfl rfl rfl rfl) rfl ?_))))
     refine at_inv 0 rfl (fun l945 => ?_)
     replace l945 : x934.Tag.length ≤ 9223372036854775807 := l945
     refine at_on rfl rfl rfl (at_lt (lt_slen rfl und9) rfl (at_on rfl rfl rfl (at_lt (lt_gtr rfl rfl) rfl (at_lt (lt_pick false rfl rfl rfl) rfl (s_nt ?_)))))
     by_cases h946 : 20 < x934.Tag.length
     ·replace hr := ipos h946 hr
      refine at_true rfl (decide_eq_true (by omega)) ?_
      refine s_sr (s_as rfl (s_nt (at_ret ?_)))
      have hq := oinj hr
      clear hr
      subst hq
      have hq := oinj hk930
      clear hk930
      subst hq
      refine at_then_ret (at_in_ret (at_then_ret (at_then_ret (at_in_ret (at_then_ret (at_then_ret ?_))))))
      exact at_return (.bool false) [] hS Tryz.results12 (.cons (.tmp rfl) .nil) rfl rfl ⟨rfl, rfl⟩
     replace hr := ineg h946 hr
     refine at_false rfl (decide_eq_false (by omega)) ?_
     refine at_skip (s_tsr (s_as rfl (s_nt (at_int .i64 0 (by simp only [lo, hi]; omega) ?_))))
     replace hr := obind hr
     obtain ⟨r948, hl949, hk950⟩ := hr
     refine at_cutP (V := (Unit) × (Unit)) (fun v => r948 = Fl.go v.1) (fun v => (⟨[(1, .int .i64 a1), (2, .pointer (some (Addr.add ⟨b926, 0, none⟩ 0))), (5, .int .i64 (x927 : Int))], [⟨b926, [.int .i64 a0.ID, s923], 24⟩], [], [((Ty.int .i64).fact a1 [.int .i64 a1]), ((Ty.int .i64).fact (x927 : Int) [.int .i64 (x927 : Int)]), ((Ty.int .i64).fact a0.ID [.int .i64 a0.ID]), ((Ty.slice ty59).fact a0.Fields [s923])]⟩ : St)) ?_ ?_
     ·refine at_block ?_
      refine at_loopW (σ := Nat) (V := Unit) (r := r948) (fun n s => m12_l2 x934 n s) (fun s e => (⟨[(1, .int .i64 a1), (2, .pointer (some (Addr.add ⟨b926, 0, none⟩ 0))), (5, .int .i64 (x927 : Int)), (6, .pointer (some (Addr.add ⟨b939, 0, none⟩ 0))), (7, .int .i64 (s : Int))], [⟨b939, [str x934.Tag, .int .u8 (x934.Ind_0.toNat : Int), .int .u8 (x934.Ind_1.toNat : Int), s936], 59⟩, ⟨b926, [.int .i64 a0.ID, s923], 24⟩], [], [((Ty.int .i64).fact (s : Int) [.int .i64 (s : Int)]), ((Ty.int .i64).fact a1 [.int .i64 a1]), ((Ty.int .i64).fact (x927 : Int) [.int .i64 (x927 : Int)]), ((Ty.int .i64).fact a0.ID [.int .i64 a0.ID]), ((Ty.slice ty59).fact a0.Fields [s923]), (Ty.str.fact x934.Tag [str x934.Tag]), ((Ty.slice ty67).fact x934.Subs [s936])]⟩ : St)) (fun _ => rfl) _ 0 () hl949 ⟨⟨rfl, ⟨rfl, ⟨rfl, ⟨rfl, ⟨rfl, trivial⟩⟩⟩⟩⟩, ⟨[true, true], rfl⟩, ⟨[], rfl⟩, ⟨[0, 6, 5, 7, 8, 1, 2], rfl⟩⟩ ?_
      clear hl949
      intro n x947 hr e
      skip
      skip
      change m12_l2 x934 (n + 1) x947 = some r948 at hr
      change At _ _ (⟨[(1, .int .i64 a1), (2, .pointer (some (Addr.add ⟨b926, 0, none⟩ 0))), (5, .int .i64 (x927 : Int)), (6, .pointer (some (Addr.add ⟨b939, 0, none⟩ 0))), (7, .int .i64 (x947 : Int))], [⟨b939, [str x934.Tag, .int .u8 (x934.Ind_0.toNat : Int), .int .u8 (x934.Ind_1.toNat : Int), s936], 59⟩, ⟨b926, [.int .i64 a0.ID, s923], 24⟩], [], [((Ty.int .i64).fact (x947 : Int) [.int .i64 (x947 : Int)]), ((Ty.int .i64).fact a1 [.int .i64 a1]), ((Ty.int .i64).fact (x927 : Int) [.int .i64 (x927 : Int)]), ((Ty.int .i64).fact a0.ID [.int .i64 a0.ID]), ((Ty.slice ty59).fact a0.Fields [s923]), (Ty.str.fact x934.Tag [str x934.Tag]), ((Ty.slice ty67).fact x934.Subs [s936])]⟩ : St) _
      rw [m12_l2] at hr
      refine at_seq (s_sr (s_mv rfl (at_lt (lt_fieldAddr 3 rfl fld59_2 rfl) rfl (at_lt (lt_load_box 0 rfl ti57 rfl rfl rfl rfl rfl) rfl (at_lt (lt_flen 6 rfl rfl und57) rfl (at_lt (lt_lss rfl rfl) rfl (s_nt ?_)))))))
      by_cases h951 : x947 < x934.Subs.length
      ·replace hr := ipos h951 hr
       refine at_true rfl (decide_eq_true (by omega)) ?_
       refine at_skip (at_then (at_seq (at_block (s_sr (at_lt (lt_fieldAddr 3 rfl fld59_2 rfl) rfl (at_lt (lt_load_box 0 rfl ti57 rfl rfl rfl rfl rfl) rfl (s_mv rfl ?_)))))))
       replace hr := obind hr
       obtain ⟨x952, h953, hr⟩ := hr
       have := (List.getElem?_eq_some_iff.1 h953).1
       refine at_elem 6 rfl (nat_at' h953) (fun p954 ec pa955 => ?_)
       refine at_open (A := Unit) 0 rfl _ _ (fun F w h => op67 h) ?_
       rintro _ rfl
       refine at_lt (lt_idx rfl rfl pa955 und57 ti67) rfl (at_lt (lt_fieldAddr 1 rfl fld67_1 rfl) rfl (at_lt (lt_load_peek 2 rfl ti9 rfl rfl rfl rfl rfl) rfl ?_))
       refine at_inv 0 rfl (fun l956 => ?_)
       replace l956 : x952.Value.length ≤ 9223372036854775807 := l956
       refine at_lt (lt_slen rfl und9) rfl (at_lt (lt_gtr rfl rfl) rfl (s_mv rfl ?_))
       by_cases h957 : 80 < x952.Value.length
       ·replace hr := ipos h957 hr
        refine at_on rfl rfl (decide_eq_true (by omega)) ?_
        refine at_lt (lt_fieldAddr 3 rfl fld59_2 rfl) rfl ?_
        refine at_on rfl rfl (decide_eq_true (by omega)) ?_
        refine at_lt (lt_load_box 0 rfl ti57 rfl rfl rfl rfl rfl) rfl ?_
        refine at_on rfl rfl (decide_eq_true (by omega)) ?_
        refine s_mv rfl ?_
        replace hr := obind hr
        obtain ⟨x958, h959, hr⟩ := hr
        have := (List.getElem?_eq_some_iff.1 h959).1
        refine at_elem 9 rfl (nat_at' h959) (fun p960 ec pa961 => ?_)
        refine at_open (A := Unit) 0 rfl _ _ (fun F w h => op67 h) ?_
        rintro _ rfl
        refine at_on rfl rfl (decide_eq_true (by omega)) ?_
        refine at_lt (lt_idx rfl rfl pa961 und57 ti67) rfl ?_
        refine at_on rfl rfl (decide_eq_true (by omega)) ?_
        refine at_lt (lt_fieldAddr 1 rfl fld67_1 rfl) rfl ?_
        refine at_on rfl rfl (decide_eq_true (by omega)) ?_
        refine at_lt (lt_load_peek 2 rfl ti9 rfl rfl rfl rfl rfl) rfl ?_
        refine at_inv 0 rfl (fun l962 => ?_)
        replace l962 : x958.Value.length ≤ 9223372036854775807 := l962
        refine at_on rfl rfl (decide_eq_true (by omega)) ?_
        refine at_lt (lt_slen rfl und9) rfl ?_
        refine at_on rfl rfl (decide_eq_true (by omega)) ?_
        refine at_lt (lt_lss rfl rfl) rfl ?_
        refine at_lt (lt_pick true rfl (decide_eq_true (by omega)) rfl) rfl ?_
        refine s_mv rfl ?_
        by_cases h963 : x958.Value.length < 400
        ·replace hr := ipos h963 hr
         refine at_off rfl rfl (decide_eq_true (by omega)) rfl ?_
         refine at_off rfl rfl (decide_eq_true (by omega)) rfl ?_
         refine at_off rfl rfl (decide_eq_true (by omega)) rfl ?_
         refine at_off rfl rfl (decide_eq_true (by omega)) rfl ?_
         refine at_off rfl rfl (decide_eq_true (by omega)) rfl ?_
         refine at_off rfl rfl (decide_eq_true (by omega)) rfl ?_
         refine at_off rfl rfl (decide_eq_true (by omega)) rfl ?_
         refine at_off rfl rfl (decide_eq_true (by omega)) rfl ?_
         refine at_lt (lt_pick true rfl (decide_eq_true (by omega)) rfl) rfl ?_
         refine s_nt (at_true rfl rfl (s_sr (s_as rfl (s_nt (at_ret ?_)))))
         have hq := oinj hr
         clear hr
         subst hq
         have hq := oinj hk950
         clear hk950
         subst hq
         have hq := oinj hk930
         clear hk930
         subst hq
         refine at_in_ret (at_then_ret (at_then_ret (at_in_ret (at_then_ret (at_in_ret (at_then_ret (at_then_ret (at_in_ret (at_then_ret ?_)))))))))
         refine at_then_ret ?_
         exact at_return (.bool false) [] hS Tryz.results12 (.cons (.tmp rfl) .nil) rfl rfl ⟨rfl, rfl⟩
        replace hr := ineg h963 hr
        refine at_on rfl rfl (decide_eq_false (by omega)) ?_
        refine at_lt (lt_fieldAddr 3 rfl fld59_2 rfl) rfl ?_
        refine at_on rfl rfl (decide_eq_false (by omega)) ?_
        refine at_lt (lt_load_box 0 rfl ti57 rfl rfl rfl rfl rfl) rfl ?_
        refine at_on rfl rfl (decide_eq_false (by omega)) ?_
        refine s_mv rfl ?_
        replace hr := obind hr
        obtain ⟨x964, h965, hr⟩ := hr
        have := (List.getElem?_eq_some_iff.1 h965).1
        refine at_elem 12 rfl (nat_at' h965) (fun p966 ec pa967 => ?_)
        refine at_open (A := Unit) 0 rfl _ _ (fun F w h => op67 h) ?_
        rintro _ rfl
        refine at_on rfl rfl (decide_eq_false (by omega)) ?_
        refine at_lt (lt_idx rfl rfl pa967 und57 ti67) rfl ?_
        refine at_on rfl rfl (decide_eq_false (by omega)) ?_
        refine at_lt (lt_fieldAddr 1 rfl fld67_1 rfl) rfl ?_
        refine at_on rfl rfl (decide_eq_false (by omega)) ?_
        refine at_lt (lt_load_peek 2 rfl ti9 rfl rfl rfl rfl rfl) rfl ?_
        refine at_inv 0 rfl (fun l968 => ?_)
        replace l968 : x964.Value.length ≤ 9223372036854775807 := l968
        refine at_on rfl rfl (decide_eq_false (by omega)) ?_
        refine at_lt (lt_slen rfl und9) rfl ?_
        refine at_on rfl rfl (decide_eq_false (by omega)) ?_
        refine at_lt (lt_gtr rfl rfl) rfl ?_
        refine at_lt (lt_pick false rfl (decide_eq_false (by omega)) rfl) rfl ?_
        refine s_nt ?_
        by_cases h969 : 402 < x964.Value.length
        ·replace hr := ipos h969 hr
         refine at_true rfl (decide_eq_true (by omega)) ?_
         refine s_sr (s_as rfl (s_nt (at_ret ?_)))
         have hq := oinj hr
         clear hr
         subst hq
         have hq := oinj hk950
         clear hk950
         subst hq
         have hq := oinj hk930
         clear hk930
         subst hq
         refine at_in_ret (at_then_ret (at_then_ret (at_in_ret (at_then_ret (at_in_ret (at_then_ret (at_then_ret (at_in_ret (at_then_ret ?_)))))))))
         refine at_then_ret ?_
         exact at_return (.bool false) [] hS Tryz.results12 (.cons (.tmp rfl) .nil) rfl rfl ⟨rfl, rfl⟩
        replace hr := ineg h969 hr
        refine at_false rfl (decide_eq_false (by omega)) ?_
        refine at_skip (at_in (s_tr (s_mv rfl (at_lt (lt_add rfl rfl (by simp only [lo, hi]; omega)) rfl (s_as rfl (at_nil (at_int .i64 (x947 + 1 : Int) (by simp only [lo, hi]; omega) ?_)))))))
        exact at_again (σ := Nat) (V := Unit) (lp := fun n s => m12_l2 x934 n s) (S := fun s e => (⟨[(1, .int .i64 a1), (2, .pointer (some (Addr.add ⟨b926, 0, none⟩ 0))), (5, .int .i64 (x927 : Int)), (6, .pointer (some (Addr.add ⟨b939, 0, none⟩ 0))), (7, .int .i64 (s : Int))], [⟨b939, [str x934.Tag, .int .u8 (x934.Ind_0.toNat : Int), .int .u8 (x934.Ind_1.toNat : Int), s936], 59⟩, ⟨b926, [.int .i64 a0.ID, s923], 24⟩], [], [((Ty.int .i64).fact (s : Int) [.int .i64 (s : Int)]), ((Ty.int .i64).fact a1 [.int .i64 a1]), ((Ty.int .i64).fact (x927 : Int) [.int .i64 (x927 : Int)]), ((Ty.int .i64).fact a0.ID [.int .i64 a0.ID]), ((Ty.slice ty59).fact a0.Fields [s923]), (Ty.str.fact x934.Tag [str x934.Tag]), ((Ty.slice ty67).fact x934.Subs [s936])]⟩ : St)) (x947 + 1) () hr ⟨⟨rfl, ⟨rfl, ⟨rfl, ⟨rfl, ⟨rfl, trivial⟩⟩⟩⟩⟩, ⟨[true, true], rfl⟩, ⟨[], rfl⟩, ⟨[0, 11, 12, 13, 14, 15, 16], rfl⟩⟩
       replace hr := ineg h957 hr
       refine at_off rfl rfl (decide_eq_false (by omega)) rfl ?_
       refine at_off rfl rfl (decide_eq_false (by omega)) rfl ?_
       refine at_off rfl rfl (decide_eq_false (by omega)) rfl ?_
       refine at_off rfl rfl (decide_eq_false (by omega)) rfl ?_
       refine at_off rfl rfl (decide_eq_false (by omega)) rfl ?_
       refine at_off rfl rfl (decide_eq_false (by omega)) rfl ?_
       refine at_off rfl rfl (decide_eq_false (by omega)) rfl ?_
       refine at_off rfl rfl (decide_eq_false (by omega)) rfl ?_
       refine at_lt (lt_pick false rfl (decide_eq_false (by omega)) rfl) rfl ?_
       refine s_mv rfl (at_on rfl rfl rfl (at_lt (lt_fieldAddr 3 rfl fld59_2 rfl) rfl (at_on rfl rfl rfl (at_lt (lt_load_box 0 rfl ti57 rfl rfl rfl rfl rfl) rfl (at_on rfl rfl rfl (s_mv rfl ?_))))))
       replace hr := obind hr
       obtain ⟨x970, h971, hr⟩ := hr
       have := (List.getElem?_eq_some_iff.1 h971).1
       refine at_elem 9 rfl (nat_at' h971) (fun p972 ec pa973 => ?_)
       refine at_open (A := Unit) 0 rfl _ _ (fun F w h => op67 h) ?_
       rintro _ rfl
       refine at_on rfl rfl rfl (at_lt (lt_idx rfl rfl pa973 und57 ti67) rfl (at_on rfl rfl rfl (at_lt (lt_fieldAddr 1 rfl fld67_1 rfl) rfl (at_on rfl rfl rfl (at_lt (lt_load_peek 2 rfl ti9 rfl rfl rfl rfl rfl) rfl ?_)))))
       refine at_inv 0 rfl (fun l974 => ?_)
       replace l974 : x970.Value.length ≤ 9223372036854775807 := l974
       refine at_on rfl rfl rfl (at_lt (lt_slen rfl und9) rfl (at_on rfl rfl rfl (at_lt (lt_gtr rfl rfl) rfl (at_lt (lt_pick false rfl rfl rfl) rfl (s_nt ?_)))))
       by_cases h975 : 402 < x970.Value.length
       ·replace hr := ipos h975 hr
        refine at_true rfl (decide_eq_true (by omega)) ?_
        refine s_sr (s_as rfl (s_nt (at_ret ?_)))
        have hq := oinj hr
        clear hr
        subst hq
        have hq := oinj hk950
        clear hk950
        subst hq
        have hq := oinj hk930
        clear hk930
        subst hq
        refine at_in_ret (at_then_ret (at_then_ret (at_in_ret (at_then_ret (at_in_ret (at_then_ret (at_then_ret (at_in_ret (at_then_ret ?_)))))))))
        refine at_then_ret ?_
        exact at_return (.bool false) [] hS Tryz.results12 (.cons (.tmp rfl) .nil) rfl rfl ⟨rfl, rfl⟩
       replace hr := ineg h975 hr
       refine at_false rfl (decide_eq_false (by omega)) ?_
       refine at_skip (at_in (s_tr (s_mv rfl (at_lt (lt_add rfl rfl (by simp only [lo, hi]; omega)) rfl (s_as rfl (at_nil (at_int .i64 (x947 + 1 : Int) (by simp only [lo, hi]; omega) ?_)))))))
       exact at_again (σ := Nat) (V := Unit) (lp := fun n s => m12_l2 x934 n s) (S := fun s e => (⟨[(1, .int .i64 a1), (2, .pointer (some (Addr.add ⟨b926, 0, none⟩ 0))), (5, .int .i64 (x927 : Int)), (6, .pointer (some (Addr.add ⟨b939, 0, none⟩ 0))), (7, .int .i64 (s : Int))], [⟨b939, [str x934.Tag, .int .u8 (x934.Ind_0.toNat : Int), .int .u8 (x934.Ind_1.toNat : Int), s936], 59⟩, ⟨b926, [.int .i64 a0.ID, s923], 24⟩], [], [((Ty.int .i64).fact (s : Int) [.int .i64 (s : Int)]), ((Ty.int .i64).fact a1 [.int .i64 a1]), ((Ty.int .i64).fact (x927 : Int) [.int .i64 (x927 : Int)]), ((Ty.int .i64).fact a0.ID [.int .i64 a0.ID]), ((Ty.slice ty59).fact a0.Fields [s923]), (Ty.str.fact x934.Tag [str x934.Tag]), ((Ty.slice ty67).fact x934.Subs [s936])]⟩ : St)) (x947 + 1) () hr ⟨⟨rfl, ⟨rfl, ⟨rfl, ⟨rfl, ⟨rfl, trivial⟩⟩⟩⟩⟩, ⟨[true, true], rfl⟩, ⟨[], rfl⟩, ⟨[0, 8, 9, 10, 11, 12, 13], rfl⟩⟩
      replace hr := ineg h951 hr
      refine at_false rfl (decide_eq_false (by omega)) ?_
      refine at_exit (at_then_exit (at_then_exit (at_in_exit ?_)))
      have hq := oinj hr
      clear hr
      subst hq
      exact at_leafP ((), ()) rfl ⟨⟨rfl, ⟨rfl, ⟨rfl, trivial⟩⟩⟩, ⟨[false, true], rfl⟩, ⟨[], rfl⟩, ⟨[1, 2, 3, 4], rfl⟩⟩
     rintro ⟨_, _⟩ hp
     replace hr := hk950
     subst hp
     clear hl949
     change At _ _ (⟨[(1, .int .i64 a1), (2, .pointer (some (Addr.add ⟨b926, 0, none⟩ 0))), (5, .int .i64 (x927 : Int))], [⟨b926, [.int .i64 a0.ID, s923], 24⟩], [], [((Ty.int .i64).fact a1 [.int .i64 a1]), ((Ty.int .i64).fact (x927 : Int) [.int .i64 (x927 : Int)]), ((Ty.int .i64).fact a0.ID [.int .i64 a0.ID]), ((Ty.slice ty59).fact a0.Fields [s923])]⟩ : St) _
     refine at_in (s_tr (s_mv rfl (at_lt (lt_add rfl rfl (by simp only [lo, hi]; omega)) rfl (s_as rfl (at_nil (at_int .i64 (x927 + 1 : Int) (by simp only [lo, hi]; omega) ?_))))))
     exact at_again (σ := Nat) (V := Unit) (lp := fun n s => m12_l1 a0 n s) (S := fun s e => (⟨[(1, .int .i64 a1), (2, .pointer (some (Addr.add ⟨b926, 0, none⟩ 0))), (5, .int .i64 (s : Int))], [⟨b926, [.int .i64 a0.ID, s923], 24⟩], [], [((Ty.int .i64).fact (s : Int) [.int .i64 (s : Int)]), ((Ty.int .i64).fact a1 [.int .i64 a1]), ((Ty.int .i64).fact a0.ID [.int .i64 a0.ID]), ((Ty.slice ty59).fact a0.Fields [s923])]⟩ : St)) (x927 + 1) () hr ⟨⟨rfl, ⟨rfl, ⟨rfl, trivial⟩⟩⟩, ⟨[true], rfl⟩, ⟨[], rfl⟩, ⟨[0, 1, 3, 4], rfl⟩⟩
    replace hr := ineg h944 hr
    refine at_on rfl rfl (nf (decide_eq_false (by omega))) ?_
    refine at_lt (lt_fieldAddr 3 rfl fld59_2 rfl) rfl ?_
    refine at_on rfl rfl (nf (decide_eq_false (by omega))) ?_
    refine at_lt (lt_load_box 0 rfl ti57 rfl rfl rfl rfl rfl) rfl ?_
    refine at_on rfl rfl (nf (decide_eq_false (by omega))) ?_
    refine at_lt (lt_flen 1 rfl rfl und57) rfl ?_
    refine at_on rfl rfl (nf (decide_eq_false (by omega))) ?_
    refine at_lt (lt_neq rfl rfl) rfl ?_
    refine at_lt (lt_pick true rfl (nf (decide_eq_false (by omega))) rfl) rfl ?_
    refine s_mv rfl ?_
    by_cases h976 : x934.Subs.length = 21
    ·replace hr := ipos h976 hr
     refine at_on rfl rfl (nt (decide_eq_true (by omega))) ?_
     refine at_lt (lt_fieldAddr 0 rfl fld59_0 rfl) rfl ?_
     refine at_on rfl rfl (nt (decide_eq_true (by omega))) ?_
     refine at_lt (lt_load_box 0 rfl ti9 rfl rfl rfl rfl rfl) rfl ?_
     refine at_inv 0 rfl (fun l977 => ?_)
     replace l977 : x934.Tag.length ≤ 9223372036854775807 := l977
     refine at_on rfl rfl (nt (decide_eq_true (by omega))) ?_
     refine at_lt (lt_slen rfl und9) rfl ?_
     refine at_on rfl rfl (nt (decide_eq_true (by omega))) ?_
     refine at_lt (lt_gtr rfl rfl) rfl ?_
     refine at_lt (lt_pick false rfl (nt (decide_eq_true (by omega))) rfl) rfl ?_
     refine s_nt ?_
     by_cases h978 : 20 < x934.Tag.length
     ·replace hr := ipos h978 hr
      refine at_true rfl (decide_eq_true (by omega)) ?_
      refine s_sr (s_as rfl (s_nt (at_ret ?_)))
      have hq := oinj hr
      clear hr
      subst hq
      have hq := oinj hk930
      clear hk930
      subst hq
      refine at_then_ret (at_in_ret (at_then_ret (at_then_ret (at_in_ret (at_then_ret (at_then_ret ?_))))))
      exact at_return (.bool false) [] hS Tryz.results12 (.cons (.tmp rfl) .nil) rfl rfl ⟨rfl, rfl⟩
     replace hr := ineg h978 hr
     refine at_false rfl (decide_eq_false (by omega)) ?_
     refine at_skip (s_tsr (s_as rfl (s_nt (at_int .i64 0 (by simp only [lo, hi]; omega) ?_))))
     replace hr := obind hr
     obtain ⟨r980, hl981, hk982⟩ := hr
     refine at_cutP (V := (Unit) × (Unit)) (fun v => r980 = Fl.go v.1) (fun v => (⟨[(1, .int .i64 a1), (2, .pointer (some (Addr.add ⟨b926, 0, none⟩ 0))), (5, .int .i64 (x927 : Int))], [⟨b926, [.int .i64 a0.ID, s923], 24⟩], [], [((Ty.int .i64).fact a1 [.int .i64 a1]), ((Ty.int .i64).fact (x927 : Int) [.int .i64 (x927 : Int)]), ((Ty.int .i64).fact a0.ID [.int .i64 a0.ID]), ((Ty.slice ty59).fact a0.Fields [s923])]⟩ : St)) ?_ ?_
     ·refine at_block ?_
      refine at_loopW (σ := Nat) (V := Unit) (r := r980) (fun n s => m12_l3 x934 n s) (fun s e => (⟨[(1, .int .i64 a1), (2, .pointer (some (Addr.add ⟨b926, 0, none⟩ 0))), (5, .int .i64 (x927 : Int)), (6, .pointer (some (Addr.add ⟨b939, 0, none⟩ 0))), (7, .int .i64 (s : Int))], [⟨b939, [str x934.Tag, .int .u8 (x934.Ind_0.toNat : Int), .int .u8 (x934.Ind_1.toNat : Int), s936], 59⟩, ⟨b926, [.int .i64 a0.ID, s923], 24⟩], [], [((Ty.int .i64).fact (s : Int) [.int .i64 (s : Int)]), ((Ty.int .i64).fact a1 [.int .i64 a1]), ((Ty.int .i64).fact (x927 : Int) [.int .i64 (x927 : Int)]), ((Ty.int .i64).fact a0.ID [.int .i64 a0.ID]), ((Ty.slice ty59).fact a0.Fields [s923]), (Ty.str.fact x934.Tag [str x934.Tag]), ((Ty.slice ty67).fact x934.Subs [s936])]⟩ : St)) (fun _ => rfl) _ 0 () hl981 ⟨⟨rfl, ⟨rfl, ⟨rfl, ⟨rfl, ⟨rfl, trivial⟩⟩⟩⟩⟩, ⟨[true, true], rfl⟩, ⟨[], rfl⟩, ⟨[0, 6, 5, 7, 8, 1, 2], rfl⟩⟩ ?_
      clear hl981
      intro n x979 hr e
      skip
      skip
      change m12_l3 x934 (n + 1) x979 = some r980 at hr
      change At _ _ (⟨[(1, .int .i64 a1), (2, .pointer (some (Addr.add ⟨b926, 0, none⟩ 0))), (5, .int .i64 (x927 : Int)), (6, .pointer (some (Addr.add ⟨b939, 0, none⟩ 0))), (7, .int .i64 (x979 : Int))], [⟨b939, [str x934.Tag, .int .u8 (x934.Ind_0.toNat : Int), .int .u8 (x934.Ind_1.toNat : Int), s936], 59⟩, ⟨b926, [.int .i64 a0.ID, s923], 24⟩], [], [((Ty.int .i64).fact (x979 : Int) [.int .i64 (x979 : Int)]), ((Ty.int .i64).fact a1 [.int .i64 a1]), ((Ty.int .i64).fact (x927 : Int) [.int .i64 (x927 : Int)]), ((Ty.int .i64).fact a0.ID [.int .i64 a0.ID]), ((Ty.slice ty59).fact a0.Fields [s923]), (Ty.str.fact x934.Tag [str x934.Tag]), ((Ty.slice ty67).fact x934.Subs [s936])]⟩ : St) _
      rw [m12_l3] at hr
      refine at_seq (s_sr (s_mv rfl (at_lt (lt_fieldAddr 3 rfl fld59_2 rfl) rfl (at_lt (lt_load_box 0 rfl ti57 rfl rfl rfl rfl rfl) rfl (at_lt (lt_flen 6 rfl rfl und57) rfl (at_lt (lt_lss rfl rfl) rfl (s_nt ?_)))))))
      by_cases h983 : x979 < x934.Subs.length
      ·replace hr := ipos h983 hr
       refine at_true rfl (decide_eq_true (by omega)) ?_
       refine at_skip (at_then (at_seq (at_block (s_sr (at_lt (lt_fieldAddr 3 rfl fld59_2 rfl) rfl (at_lt (lt_load_box 0 rfl ti57 rfl rfl rfl rfl rfl) rfl (s_mv rfl ?_)))))))
       replace hr := obind hr
       obtain ⟨x984, h985, hr⟩ := hr
       have := (List.getElem?_eq_some_iff.1 h985).1
       refine at_elem 6 rfl (nat_at' h985) (fun p986 ec pa987 => ?_)
       refine at_open (A := Unit) 0 rfl _ _ (fun F w h => op67 h) ?_
       rintro _ rfl
       refine at_lt (lt_idx rfl rfl pa987 und57 ti67) rfl (at_lt (lt_fieldAddr 1 rfl fld67_1 rfl) rfl (at_lt (lt_load_peek 2 rfl ti9 rfl rfl rfl rfl rfl) rfl ?_))
       refine at_inv 0 rfl (fun l988 => ?_)
       replace l988 : x984.Value.length ≤ 9223372036854775807 := l988
       refine at_lt (lt_slen rfl und9) rfl (at_lt (lt_gtr rfl rfl) rfl (s_mv rfl ?_))
       by_cases h989 : 80 < x984.Value.length
       ·replace hr := ipos h989 hr
        refine at_on rfl rfl (decide_eq_true (by omega)) ?_
        refine at_lt (lt_fieldAddr 3 rfl fld59_2 rfl) rfl ?_
        refine at_on rfl rfl (decide_eq_true (by omega)) ?_
        refine at_lt (lt_load_box 0 rfl ti57 rfl rfl rfl rfl rfl) rfl ?_
        refine at_on rfl rfl (decide_eq_true (by omega)) ?_
        refine s_mv rfl ?_
        replace hr := obind hr
        obtain ⟨x990, h991, hr⟩ := hr
        have := (List.getElem?_eq_some_iff.1 h991).1
        refine at_elem 9 rfl (nat_at' h991) (fun p992 ec pa993 => ?_)
        refine at_open (A := Unit) 0 rfl _ _ (fun F w h => op67 h) ?_
        rintro _ rfl
        refine at_on rfl rfl (decide_eq_true (by omega)) ?_
        refine at_lt (lt_idx rfl rfl pa993 und57 ti67) rfl ?_
        refine at_on rfl rfl (decide_eq_true (by omega)) ?_
        refine at_lt (lt_fieldAddr 1 rfl fld67_1 rfl) rfl ?_
        refine at_on rfl rfl (decide_eq_true (by omega)) ?_
        refine at_lt (lt_load_peek 2 rfl ti9 rfl rfl rfl rfl rfl) rfl ?_
        refine at_inv 0 rfl (fun l994 => ?_)
        replace l994 : x990.Value.length ≤ 9223372036854775807 := l994
        refine at_on rfl rfl (decide_eq_true (by omega)) ?_
        refine at_lt (lt_slen rfl und9) rfl ?_
        refine at_on rfl rfl (decide_eq_true (by omega)) ?_
        refine at_lt (lt_lss rfl rfl) rfl ?_
        refine at_lt (lt_pick true rfl (decide_eq_true (by omega)) rfl) rfl ?_
        refine s_mv rfl ?_
        by_cases h995 : x990.Value.length < 400
        ·replace hr := ipos h995 hr
         refine at_off rfl rfl (decide_eq_true (by omega)) rfl ?_
         refine at_off rfl rfl (decide_eq_true (by omega)) rfl ?_
         refine at_off rfl rfl (decide_eq_true (by omega)) rfl ?_
         refine at_off rfl rfl (decide_eq_true (by omega)) rfl ?_
         refine at_off rfl rfl (decide_eq_true (by omega)) rfl ?_
         refine at_off rfl rfl (decide_eq_true (by omega)) rfl ?_
         refine at_off rfl rfl (decide_eq_true (by omega)) rfl ?_
         refine at_off rfl rfl (decide_eq_true (by omega)) rfl ?_
         refine at_lt (lt_pick true rfl (decide_eq_true (by omega)) rfl) rfl ?_
         refine s_nt (at_true rfl rfl (s_sr (s_as rfl (s_nt (at_ret ?_)))))
         have hq := oinj hr
         clear hr
         subst hq
         have hq := oinj hk982
         clear hk982
         subst hq
         have hq := oinj hk930
         clear hk930
         subst hq
         refine at_in_ret (at_then_ret (at_then_ret (at_in_ret (at_then_ret (at_in_ret (at_then_ret (at_then_ret (at_in_ret (at_then_ret ?_)))))))))
         refine at_then_ret ?_
         exact at_return (.bool false) [] hS Tryz.results12 (.cons (.tmp rfl) .nil) rfl rfl ⟨rfl, rfl⟩
        replace hr := ineg h995 hr
        refine at_on rfl rfl (decide_eq_false (by omega)) ?_
        refine at_lt (lt_fieldAddr 3 rfl fld59_2 rfl) rfl ?_
        refine at_on rfl rfl (decide_eq_false (by omega)) ?_
        refine at_lt (lt_load_box 0 rfl ti57 rfl rfl rfl rfl rfl) rfl ?_
        refine at_on rfl rfl (decide_eq_false (by omega)) ?_
        refine s_mv rfl ?_
        replace hr := obind hr
        obtain ⟨x996, h997, hr⟩ := hr
        have := (List.getElem?_eq_some_iff.1 h997).1
        refine at_elem 12 rfl (nat_at' h997) (fun p998 ec pa999 => ?_)
        refine at_open (A := Unit) 0 rfl _ _ (fun F w h => op67 h) ?_
        rintro _ rfl
        refine at_on rfl rfl (decide_eq_false (by omega)) ?_
        refine at_lt (lt_idx rfl rfl pa999 und57 ti67) rfl ?_
        refine at_on rfl rfl (decide_eq_false (by omega)) ?_
        refine at_lt (lt_fieldAddr 1 rfl fld67_1 rfl) rfl ?_
        refine at_on rfl rfl (decide_eq_false (by omega)) ?_
        refine at_lt (lt_load_peek 2 rfl ti9 rfl rfl rfl rfl rfl) rfl ?_
        refine at_inv 0 rfl (fun l1000 => ?_)
        replace l1000 : x996.Value.length ≤ 9223372036854775807 := l1000
        refine at_on rfl rfl (decide_eq_false (by omega)) ?_
        refine at_lt (lt_slen rfl und9) rfl ?_
        refine at_on rfl rfl (decide_eq_false (by omega)) ?_
        refine at_lt (lt_gtr rfl rfl) rfl ?_
        refine at_lt (lt_pick false rfl (decide_eq_false (by omega)) rfl) rfl ?_
        refine s_nt ?_
        by_cases h1001 : 402 < x996.Value.length
        ·replace hr := ipos h1001 hr
         refine at_true rfl (decide_eq_true (by omega)) ?_
         refine s_sr (s_as rfl (s_nt (at_ret ?_)))
         have hq := oinj hr
         clear hr
         subst hq
         have hq := oinj hk982
         clear hk982
         subst hq
         have hq := oinj hk930
         clear hk930
         subst hq
         refine at_in_ret (at_then_ret (at_then_ret (at_in_ret (at_then_ret (at_in_ret (at_then_ret (at_then_ret (at_in_ret (at_then_ret ?_)))))))))
         refine at_then_ret ?_
         exact at_return (.bool false) [] hS Tryz.results12 (.cons (.tmp rfl) .nil) rfl rfl ⟨rfl, rfl⟩
        replace hr := ineg h1001 hr
        refine at_false rfl (decide_eq_false (by omega)) ?_
        refine at_skip (at_in (s_tr (s_mv rfl (at_lt (lt_add rfl rfl (by simp only [lo, hi]; omega)) rfl (s_as rfl (at_nil (at_int .i64 (x979 + 1 : Int) (by simp only [lo, hi]; omega) ?_)))))))
        exact at_again (σ := Nat) (V := Unit) (lp := fun n s => m12_l3 x934 n s) (S := fun s e => (⟨[(1, .int .i64 a1), (2, .pointer (some (Addr.add ⟨b926, 0, none⟩ 0))), (5, .int .i64 (x927 : Int)), (6, .pointer (some (Addr.add ⟨b939, 0, none⟩ 0))), (7, .int .i64 (s : Int))], [⟨b939, [str x934.Tag, .int .u8 (x934.Ind_0.toNat : Int), .int .u8 (x934.Ind_1.toNat : Int), s936], 59⟩, ⟨b926, [.int .i64 a0.ID, s923], 24⟩], [], [((Ty.int .i64).fact (s : Int) [.int .i64 (s : Int)]), ((Ty.int .i64).fact a1 [.int .i64 a1]), ((Ty.int .i64).fact (x927 : Int) [.int .i64 (x927 : Int)]), ((Ty.int .i64).fact a0.ID [.int .i64 a0.ID]), ((Ty.slice ty59).fact a0.Fields [s923]), (Ty.str.fact x934.Tag [str x934.Tag]), ((Ty.slice ty67).fact x934.Subs [s936])]⟩ : St)) (x979 + 1) () hr ⟨⟨rfl, ⟨rfl, ⟨rfl, ⟨rfl, ⟨rfl, trivial⟩⟩⟩⟩⟩, ⟨[true, true], rfl⟩, ⟨[], rfl⟩, ⟨[0, 11, 12, 13, 14, 15, 16], rfl⟩⟩
       replace hr := ineg h989 hr
       refine at_off rfl rfl (decide_eq_false (by omega)) rfl ?_
       refine at_off rfl rfl (decide_eq_false (by omega)) rfl ?_
       refine at_off rfl rfl (decide_eq_false (by omega)) rfl ?_
       refine at_off rfl rfl (decide_eq_false (by omega)) rfl ?_
       refine at_off rfl rfl (decide_eq_false (by omega)) rfl ?_
       refine at_off rfl rfl (decide_eq_false (by omega)) rfl ?_
       refine at_off rfl rfl (decide_eq_false (by omega)) rfl ?_
       refine at_off rfl rfl (decide_eq_false (by omega)) rfl ?_
       refine at_lt (lt_pick false rfl (decide_eq_false (by omega)) rfl) rfl ?_
       refine s_mv rfl (at_on rfl rfl rfl (at_lt (lt_fieldAddr 3 rfl fld59_2 rfl) rfl (at_on rfl rfl rfl (at_lt (lt_load_box 0 rfl ti57 rfl rfl rfl rfl rfl) rfl (at_on rfl rfl rfl (s_mv rfl ?_))))))
       replace hr := obind hr
       obtain ⟨x1002, h1003, hr⟩ := hr
       have := (List.getElem?_eq_some_iff.1 h1003).1
       refine at_elem 9 rfl (nat_at' h1003) (fun p1004 ec pa1005 => ?_)
       refine at_open (A := Unit) 0 rfl _ _ (fun F w h => op67 h) ?_
       rintro _ rfl
       refine at_on rfl rfl rfl (at_lt (lt_idx rfl rfl pa1005 und57 ti67) rfl (at_on rfl rfl rfl (at_lt (lt_fieldAddr 1 rfl fld67_1 rfl) rfl (at_on rfl rfl rfl (at_lt (lt_load_peek 2 rfl ti9 rfl rfl rfl rfl rfl) rfl ?_)))))
       refine at_inv 0 rfl (fun l1006 => ?_)
       replace l1006 : x1002.Value.length ≤ 9223372036854775807 := l1006
       refine at_on rfl rfl rfl (at_lt (lt_slen rfl und9) rfl (at_on rfl rfl rfl (at_lt (lt_gtr rfl rfl) rfl (at_lt (lt_pick false rfl rfl rfl) rfl (s_nt ?_)))))
       by_cases h1007 : 402 < x1002.Value.length
       ·replace hr := ipos h1007 hr
        refine at_true rfl (decide_eq_true (by omega)) ?_
        refine s_sr (s_as rfl (s_nt (at_ret ?_)))
        have hq := oinj hr
        clear hr
        subst hq
        have hq := oinj hk982
        clear hk982
        subst hq
        have hq := oinj hk930
        clear hk930
        subst hq
        refine at_in_ret (at_then_ret (at_then_ret (at_in_ret (at_then_ret (at_in_ret (at_then_ret (at_then_ret (at_in_ret (at_then_ret ?_)))))))))
        refine at_then_ret ?_
        exact at_return (.bool false) [] hS Tryz.results12 (.cons (.tmp rfl) .nil) rfl rfl ⟨rfl, rfl⟩
       replace hr := ineg h1007 hr
       refine at_false rfl (decide_eq_false (by omega)) ?_
       refine at_skip (at_in (s_tr (s_mv rfl (at_lt (lt_add rfl rfl (by simp only [lo, hi]; omega)) rfl (s_as rfl (at_nil (at_int .i64 (x979 + 1 : Int) (by simp only [lo, hi]; omega) ?_)))))))
       exact at_again (σ := Nat) (V := Unit) (lp := fun n s => m12_l3 x934 n s) (S := fun s e => (⟨[(1, .int .i64 a1), (2, .pointer (some (Addr.add ⟨b926, 0, none⟩ 0))), (5, .int .i64 (x927 : Int)), (6, .pointer (some (Addr.add ⟨b939, 0, none⟩ 0))), (7, .int .i64 (s : Int))], [⟨b939, [str x934.Tag, .int .u8 (x934.Ind_0.toNat : Int), .int .u8 (x934.Ind_1.toNat : Int), s936], 59⟩, ⟨b926, [.int .i64 a0.ID, s923], 24⟩], [], [((Ty.int .i64).fact (s : Int) [.int .i64 (s : Int)]), ((Ty.int .i64).fact a1 [.int .i64 a1]), ((Ty.int .i64).fact (x927 : Int) [.int .i64 (x927 : Int)]), ((Ty.int .i64).fact a0.ID [.int .i64 a0.ID]), ((Ty.slice ty59).fact a0.Fields [s923]), (Ty.str.fact x934.Tag [str x934.Tag]), ((Ty.slice ty67).fact x934.Subs [s936])]⟩ : St)) (x979 + 1) () hr ⟨⟨rfl, ⟨rfl, ⟨rfl, ⟨rfl, ⟨rfl, trivial⟩⟩⟩⟩⟩, ⟨[true, true], rfl⟩, ⟨[], rfl⟩, ⟨[0, 8, 9, 10, 11, 12, 13], rfl⟩⟩
      replace hr := ineg h983 hr
      refine at_false rfl (decide_eq_false (by omega)) ?_
      refine at_exit (at_then_exit (at_then_exit (at_in_exit ?_)))
      have hq := oinj hr
      clear hr
      subst hq
      exact at_leafP ((), ()) rfl ⟨⟨rfl, ⟨rfl, ⟨rfl, trivial⟩⟩⟩, ⟨[false, true], rfl⟩, ⟨[], rfl⟩, ⟨[1, 2, 3, 4], rfl⟩⟩
     rintro ⟨_, _⟩ hp
     replace hr := hk982
     subst hp
     clear hl981
     change At _ _ (⟨[(1, .int .i64 a1), (2, .pointer (some (Addr.add ⟨b926, 0, none⟩ 0))), (5, .int .i64 (x927 : Int))], [⟨b926, [.int .i64 a0.ID, s923], 24⟩], [], [((Ty.int .i64).fact a1 [.int .i64 a1]), ((Ty.int .i64).fact (x927 : Int) [.int .i64 (x927 : Int)]), ((Ty.int .i64).fact a0.ID [.int .i64 a0.ID]), ((Ty.slice ty59).fact a0.Fields [s923])]⟩ : St) _
     refine at_in (s_tr (s_mv rfl (at_lt (lt_add rfl rfl (by simp only [lo, hi]; omega)) rfl (s_as rfl (at_nil (at_int .i64 (x927 + 1 : Int) (by simp only [lo, hi]; omega) ?_))))))
     exact at_again (σ := Nat) (V := Unit) (lp := fun n s => m12_l1 a0 n s) (S := fun s e => (⟨[(1, .int .i64 a1), (2, .pointer (some (Addr.add ⟨b926, 0, none⟩ 0))), (5, .int .i64 (s : Int))], [⟨b926, [.int .i64 a0.ID, s923], 24⟩], [], [((Ty.int .i64).fact (s : Int) [.int .i64 (s : Int)]), ((Ty.int .i64).fact a1 [.int .i64 a1]), ((Ty.int .i64).fact a0.ID [.int .i64 a0.ID]), ((Ty.slice ty59).fact a0.Fields [s923])]⟩ : St)) (x927 + 1) () hr ⟨⟨rfl, ⟨rfl, ⟨rfl, trivial⟩⟩⟩, ⟨[true], rfl⟩, ⟨[], rfl⟩, ⟨[0, 1, 3, 4], rfl⟩⟩
    replace hr := ineg h976 hr
    refine at_off rfl rfl (nf (decide_eq_false (by omega))) rfl ?_
    refine at_off rfl rfl (nf (decide_eq_false (by omega))) rfl ?_
    refine at_off rfl rfl (nf (decide_eq_false (by omega))) rfl ?_
    refine at_off rfl rfl (nf (decide_eq_false (by omega))) rfl ?_
    refine at_lt (lt_pick true rfl (nf (decide_eq_false (by omega))) rfl) rfl ?_
    refine s_nt (at_true rfl rfl (s_sr (s_as rfl (s_nt (at_ret ?_)))))
    have hq := oinj hr
    clear hr
    subst hq
    have hq := oinj hk930
    clear hk930
    subst hq
    refine at_then_ret (at_in_ret (at_then_ret (at_then_ret (at_in_ret (at_then_ret (at_then_ret ?_))))))
    exact at_return (.bool false) [] hS Tryz.results12 (.cons (.tmp rfl) .nil) rfl rfl ⟨rfl, rfl⟩
   replace hr := ineg h943 hr
   refine at_off rfl rfl (decide_eq_false (by omega)) rfl ?_
   refine at_off rfl rfl (decide_eq_false (by omega)) rfl ?_
   refine at_off rfl rfl (decide_eq_false (by omega)) rfl ?_
   refine at_off rfl rfl (decide_eq_false (by omega)) rfl ?_
   refine at_lt (lt_pick false rfl (decide_eq_false (by omega)) rfl) rfl ?_
   refine s_mv rfl (at_off rfl rfl rfl rfl (at_off rfl rfl rfl rfl (at_off rfl rfl rfl rfl (at_off rfl rfl rfl rfl (at_lt (lt_pick false rfl rfl rfl) rfl (s_mv rfl (at_on rfl rfl rfl (at_lt (lt_fieldAddr 0 rfl fld59_0 rfl) rfl (at_on rfl rfl rfl ?_)))))))))
   refine at_lt (lt_load_box 0 rfl ti9 rfl rfl rfl rfl rfl) rfl ?_
   refine at_inv 0 rfl (fun l1008 => ?_)
   replace l1008 : x934.Tag.length ≤ 9223372036854775807 := l1008
   refine at_on rfl rfl rfl (at_lt (lt_slen rfl und9) rfl (at_on rfl rfl rfl (at_lt (lt_gtr rfl rfl) rfl (at_lt (lt_pick false rfl rfl rfl) rfl (s_nt ?_)))))
   by_cases h1009 : 20 < x934.Tag.length
   ·replace hr := ipos h1009 hr
    refine at_true rfl (decide_eq_true (by omega)) ?_
    refine s_sr (s_as rfl (s_nt (at_ret ?_)))
    have hq := oinj hr
    clear hr
    subst hq
    have hq := oinj hk930
    clear hk930
    subst hq
    refine at_then_ret (at_in_ret (at_then_ret (at_then_ret (at_in_ret (at_then_ret (at_then_ret ?_))))))
    exact at_return (.bool false) [] hS Tryz.results12 (.cons (.tmp rfl) .nil) rfl rfl ⟨rfl, rfl⟩
   replace hr := ineg h1009 hr
   refine at_false rfl (decide_eq_false (by omega)) ?_
   refine at_skip (s_tsr (s_as rfl (s_nt (at_int .i64 0 (by simp only [lo, hi]; omega) ?_))))
   replace hr := obind hr
   obtain ⟨r1011, hl1012, hk1013⟩ := hr
   refine at_cutP (V := (Unit) × (Unit)) (fun v => r1011 = Fl.go v.1) (fun v => (⟨[(1, .int .i64 a1), (2, .pointer (some (Addr.add ⟨b926, 0, none⟩ 0))), (5, .int .i64 (x927 : Int))], [⟨b926, [.int .i64 a0.ID, s923], 24⟩], [], [((Ty.int .i64).fact a1 [.int .i64 a1]), ((Ty.int .i64).fact (x927 : Int) [.int .i64 (x927 : Int)]), ((Ty.int .i64).fact a0.ID [.int .i64 a0.ID]), ((Ty.slice ty59).fact a0.Fields [s923])]⟩ : St)) ?_ ?_
   ·refine at_block ?_
    refine at_loopW (σ := Nat) (V := Unit) (r := r1011) (fun n s => m12_l4 x934 n s) (fun s e => (⟨[(1, .int .i64 a1), (2, .pointer (some (Addr.add ⟨b926, 0, none⟩ 0))), (5, .int .i64 (x927 : Int)), (6, .pointer (some (Addr.add ⟨b939, 0, none⟩ 0))), (7, .int .i64 (s : Int))], [⟨b939, [str x934.Tag, .int .u8 (x934.Ind_0.toNat : Int), .int .u8 (x934.Ind_1.toNat : Int), s936], 59⟩, ⟨b926, [.int .i64 a0.ID, s923], 24⟩], [], [((Ty.int .i64).fact (s : Int) [.int .i64 (s : Int)]), ((Ty.int .i64).fact a1 [.int .i64 a1]), ((Ty.int .i64).fact (x927 : Int) [.int .i64 (x927 : Int)]), ((Ty.int .i64).fact a0.ID [.int .i64 a0.ID]), ((Ty.slice ty59).fact a0.Fields [s923]), (Ty.str.fact x934.Tag [str x934.Tag]), ((Ty.slice ty67).fact x934.Subs [s936])]⟩ : St)) (fun _ => rfl) _ 0 () hl1012 ⟨⟨rfl, ⟨rfl, ⟨rfl, ⟨rfl, ⟨rfl, trivial⟩⟩⟩⟩⟩, ⟨[true, true], rfl⟩, ⟨[], rfl⟩, ⟨[0, 6, 5, 7, 8, 1, 2], rfl⟩⟩ ?_
    clear hl1012
    intro n x1010 hr e
    skip
    skip
    change m12_l4 x934 (n + 1) x1010 = some r1011 at hr
    change At _ _ (⟨[(1, .int .i64 a1), (2, .pointer (some (Addr.add ⟨b926, 0, none⟩ 0))), (5, .int .i64 (x927 : Int)), (6, .pointer (some (Addr.add ⟨b939, 0, none⟩ 0))), (7, .int .i64 (x1010 : Int))], [⟨b939, [str x934.Tag, .int .u8 (x934.Ind_0.toNat : Int), .int .u8 (x934.Ind_1.toNat : Int), s936], 59⟩, ⟨b926, [.int .i64 a0.ID, s923], 24⟩], [], [((Ty.int .i64).fact (x1010 : Int) [.int .i64 (x1010 : Int)]), ((Ty.int .i64).fact a1 [.int .i64 a1]), ((Ty.int .i64).fact (x927 : Int) [.int .i64 (x927 : Int)]), ((Ty.int .i64).fact a0.ID [.int .i64 a0.ID]), ((Ty.slice ty59).fact a0.Fields [s923]), (Ty.str.fact x934.Tag [str x934.Tag]), ((Ty.slice ty67).fact x934.Subs [s936])]⟩ : St) _
    rw [m12_l4] at hr
    refine at_seq (s_sr (s_mv rfl (at_lt (lt_fieldAddr 3 rfl fld59_2 rfl) rfl (at_lt (lt_load_box 0 rfl ti57 rfl rfl rfl rfl rfl) rfl (at_lt (lt_flen 6 rfl rfl und57) rfl (at_lt (lt_lss rfl rfl) rfl (s_nt ?_)))))))
    by_cases h1014 : x1010 < x934.Subs.length
    ·replace hr := ipos h1014 hr
     refine at_true rfl (decide_eq_true (by omega)) ?_
     refine at_skip (at_then (at_seq (at_block (s_sr (at_lt (lt_fieldAddr 3 rfl fld59_2 rfl) rfl (at_lt (lt_load_box 0 rfl ti57 rfl rfl rfl rfl rfl) rfl (s_mv rfl ?_)))))))
     replace hr := obind hr
     obtain ⟨x1015, h1016, hr⟩ := hr
     have := (List.getElem?_eq_some_iff.1 h1016).1
     refine at_elem 6 rfl (nat_at' h1016) (fun p1017 ec pa1018 => ?_)
     refine at_open (A := Unit) 0 rfl _ _ (fun F w h => op67 h) ?_
     rintro _ rfl
     refine at_lt (lt_idx rfl rfl pa1018 und57 ti67) rfl (at_lt (lt_fieldAddr 1 rfl fld67_1 rfl) rfl (at_lt (lt_load_peek 2 rfl ti9 rfl rfl rfl rfl rfl) rfl ?_))
     refine at_inv 0 rfl (fun l1019 => ?_)
     replace l1019 : x1015.Value.length ≤ 9223372036854775807 := l1019
     refine at_lt (lt_slen rfl und9) rfl (at_lt (lt_gtr rfl rfl) rfl (s_mv rfl ?_))
     by_cases h1020 : 80 < x1015.Value.length
     ·replace hr := ipos h1020 hr
      refine at_on rfl rfl (decide_eq_true (by omega)) ?_
      refine at_lt (lt_fieldAddr 3 rfl fld59_2 rfl) rfl ?_
      refine at_on rfl rfl (decide_eq_true (by omega)) ?_
      refine at_lt (lt_load_box 0 rfl ti57 rfl rfl rfl rfl rfl) rfl ?_
      refine at_on rfl rfl (decide_eq_true (by omega)) ?_
      refine s_mv rfl ?_
      replace hr := obind hr
      obtain ⟨x1021, h1022, hr⟩ := hr
      have := (List.getElem?_eq_some_iff.1 h1022).1
      refine at_elem 9 rfl (nat_at' h1022) (fun p1023 ec pa1024 => ?_)
      refine at_open (A := Unit) 0 rfl _ _ (fun F w h => op67 h) ?_
      rintro _ rfl
      refine at_on rfl rfl (decide_eq_true (by omega)) ?_
      refine at_lt (lt_idx rfl rfl pa1024 und57 ti67) rfl ?_
      refine at_on rfl rfl (decide_eq_true (by omega)) ?_
      refine at_lt (lt_fieldAddr 1 rfl fld67_1 rfl) rfl ?_
      refine at_on rfl rfl (decide_eq_true (by omega)) ?_
      refine at_lt (lt_load_peek 2 rfl ti9 rfl rfl rfl rfl rfl) rfl ?_
      refine at_inv 0 rfl (fun l1025 => ?_)
      replace l1025 : x1021.Value.length ≤ 9223372036854775807 := l1025
      refine at_on rfl rfl (decide_eq_true (by omega)) ?_
      refine at_lt (lt_slen rfl und9) rfl ?_
      refine at_on rfl rfl (decide_eq_true (by omega)) ?_
      refine at_lt (lt_lss rfl rfl) rfl ?_
      refine at_lt (lt_pick true rfl (decide_eq_true (by omega)) rfl) rfl ?_
      refine s_mv rfl ?_
      by_cases h1026 : x1021.Value.length < 400
      ·replace hr := ipos h1026 hr
       refine at_off rfl rfl (decide_eq_true (by omega)) rfl ?_
       refine at_off rfl rfl (decide_eq_true (by omega)) rfl ?_
       refine at_off rfl rfl (decide_eq_true (by omega)) rfl ?_
       refine at_off rfl rfl (decide_eq_true (by omega)) rfl ?_
       refine at_off rfl rfl (decide_eq_true (by omega)) rfl ?_
       refine at_off rfl rfl (decide_eq_true (by omega)) rfl ?_
       refine at_off rfl rfl (decide_eq_true (by omega)) rfl ?_
       refine at_off rfl rfl (decide_eq_true (by omega)) rfl ?_
       refine at_lt (lt_pick true rfl (decide_eq_true (by omega)) rfl) rfl ?_
       refine s_nt (at_true rfl rfl (s_sr (s_as rfl (s_nt (at_ret ?_)))))
       have hq := oinj hr
       clear hr
       subst hq
       have hq := oinj hk1013
       clear hk1013
       subst hq
       have hq := oinj hk930
       clear hk930
       subst hq
       refine at_in_ret (at_then_ret (at_then_ret (at_in_ret (at_then_ret (at_in_ret (at_then_ret (at_then_ret (at_in_ret (at_then_ret ?_)))))))))
       refine at_then_ret ?_
       exact at_return (.bool false) [] hS Tryz.results12 (.cons (.tmp rfl) .nil) rfl rfl ⟨rfl, rfl⟩
      replace hr := ineg h1026 hr
      refine at_on rfl rfl (decide_eq_false (by omega)) ?_
      refine at_lt (lt_fieldAddr 3 rfl fld59_2 rfl) rfl ?_
      refine at_on rfl rfl (decide_eq_false (by omega)) ?_
      refine at_lt (lt_load_box 0 rfl ti57 rfl rfl rfl rfl rfl) rfl ?_
      refine at_on rfl rfl (decide_eq_false (by omega)) ?_
      refine s_mv rfl ?_
      replace hr := obind hr
      obtain ⟨x1027, h1028, hr⟩ := hr
      have := (List.getElem?_eq_some_iff.1 h1028).1
      refine at_elem 12 rfl (nat_at' h1028) (fun p1029 ec pa1030 => ?_)
      refine at_open (A := Unit) 0 rfl _ _ (fun F w h => op67 h) ?_
      rintro _ rfl
      refine at_on rfl rfl (decide_eq_false (by omega)) ?_
      refine at_lt (lt_idx rfl rfl pa1030 und57 ti67) rfl ?_
      refine at_on rfl rfl (decide_eq_false (by omega)) ?_
      refine at_lt (lt_fieldAddr 1 rfl fld67_1 rfl) rfl ?_
      refine at_on rfl rfl (decide_eq_false (by omega)) ?_
      refine at_lt (lt_load_peek 2 rfl ti9 rfl rfl rfl rfl rfl) rfl ?_
      refine at_inv 0 rfl (fun l1031 => ?_)
      replace l1031 : x1027.Value.length ≤ 9223372036854775807 := l1031
      refine at_on rfl rfl (decide_eq_false (by omega)) ?_
      refine at_lt (lt_slen rfl und9) rfl ?_
      refine at_on rfl rfl (decide_eq_false (by omega)) ?_
      refine at_lt (lt_gtr rfl rfl) rfl ?_
      refine at_lt (lt_pick false rfl (decide_eq_false (by omega)) rfl) rfl ?_
      refine s_nt ?_
      by_cases h1032 : 402 < x1027.Value.length
      ·replace hr := ipos h1032 hr
       refine at_true rfl (decide_eq_true (by omega)) ?_
       refine s_sr (s_as rfl (s_nt (at_ret ?_)))
       have hq := oinj hr
       clear hr
       subst hq
       have hq := oinj hk1013
       clear hk1013
       subst hq
       have hq := oinj hk930
       clear hk930
       subst hq
       refine at_in_ret (at_then_ret (at_then_ret (at_in_ret (at_then_ret (at_in_ret (at_then_ret (at_then_ret (at_in_ret (at_then_ret ?_)))))))))
       refine at_then_ret ?_
       exact at_return (.bool false) [] hS Tryz.results12 (.cons (.tmp rfl) .nil) rfl rfl ⟨rfl, rfl⟩
      replace hr := ineg h1032 hr
      refine at_false rfl (decide_eq_false (by omega)) ?_
      refine at_skip (at_in (s_tr (s_mv rfl (at_lt (lt_add rfl rfl (by simp only [lo, hi]; omega)) rfl (s_as rfl (at_nil (at_int .i64 (x1010 + 1 : Int) (by simp only [lo, hi]; omega) ?_)))))))
      exact at_again (σ := Nat) (V := Unit) (lp := fun n s => m12_l4 x934 n s) (S := fun s e => (⟨[(1, .int .i64 a1), (2, .pointer (some (Addr.add ⟨b926, 0, none⟩ 0))), (5, .int .i64 (x927 : Int)), (6, .pointer (some (Addr.add ⟨b939, 0, none⟩ 0))), (7, .int .i64 (s : Int))], [⟨b939, [str x934.Tag, .int .u8 (x934.Ind_0.toNat : Int), .int .u8 (x934.Ind_1.toNat : Int), s936], 59⟩, ⟨b926, [.int .i64 a0.ID, s923], 24⟩], [], [((Ty.int .i64).fact (s : Int) [.int .i64 (s : Int)]), ((Ty.int .i64).fact a1 [.int .i64 a1]), ((Ty.int .i64).fact (x927 : Int) [.int .i64 (x927 : Int)]), ((Ty.int .i64).fact a0.ID [.int .i64 a0.ID]), ((Ty.slice ty59).fact a0.Fields [s923]), (Ty.str.fact x934.Tag [str x934.Tag]), ((Ty.slice ty67).fact x934.Subs [s936])]⟩ : St)) (x1010 + 1) () hr ⟨⟨rfl, ⟨rfl, ⟨rfl, ⟨rfl, ⟨rfl, trivial⟩⟩⟩⟩⟩, ⟨[true, true], rfl⟩, ⟨[], rfl⟩, ⟨[0, 11, 12, 13, 14, 15, 16], rfl⟩⟩
     replace hr := ineg h1020 hr
     refine at_off rfl rfl (decide_eq_false (by omega)) rfl ?_
     refine at_off rfl rfl (decide_eq_false (by omega)) rfl ?_
     refine at_off rfl rfl (decide_eq_false (by omega)) rfl ?_
     refine at_off rfl rfl (decide_eq_false (by omega)) rfl ?_
     refine at_off rfl rfl (decide_eq_false (by omega)) rfl ?_
     refine at_off rfl rfl (decide_eq_false (by omega)) rfl ?_
     refine at_off rfl rfl (decide_eq_false (by omega)) rfl ?_
     refine at_off rfl rfl (decide_eq_false (by omega)) rfl ?_
     refine at_lt (lt_pick false rfl (decide_eq_false (by omega)) rfl) rfl ?_
     refine s_mv rfl (at_on rfl rfl rfl (at_lt (lt_fieldAddr 3 rfl fld59_2 rfl) rfl (at_on rfl rfl rfl (at_lt (lt_load_box 0 rfl ti57 rfl rfl rfl rfl rfl) rfl (at_on rfl rfl rfl (s_mv rfl ?_))))))
     replace hr := obind hr
     obtain ⟨x1033, h1034, hr⟩ := hr
     have := (List.getElem?_eq_some_iff.1 h1034).1
     refine at_elem 9 rfl (nat_at' h1034) (fun p1035 ec pa1036 => ?_)
     refine at_open (A := Unit) 0 rfl _ _ (fun F w h => op67 h) ?_
     rintro _ rfl
     refine at_on rfl rfl rfl (at_lt (lt_idx rfl rfl pa1036 und57 ti67) rfl (at_on rfl rfl rfl (at_lt (lt_fieldAddr 1 rfl fld67_1 rfl) rfl (at_on rfl rfl rfl (at_lt (lt_load_peek 2 rfl ti9 rfl rfl rfl rfl rfl) rfl ?_)))))
     refine at_inv 0 rfl (fun l1037 => ?_)
     replace l1037 : x1033.Value.length ≤ 9223372036854775807 := l1037
     refine at_on rfl rfl rfl (at_lt (lt_slen rfl und9) rfl (at_on rfl rfl rfl (at_lt (lt_gtr rfl rfl) rfl (at_lt (lt_pick false rfl rfl rfl) rfl (s_nt ?_)))))
     by_cases h1038 : 402 < x1033.Value.length
     ·replace hr := ipos h1038 hr
      refine at_true rfl (decide_eq_true (by omega)) ?_
      refine s_sr (s_as rfl (s_nt (at_ret ?_)))
      have hq := oinj hr
      clear hr
      subst hq
      have hq := oinj hk1013
      clear hk1013
      subst hq
      have hq := oinj hk930
      clear hk930
      subst hq
      refine at_in_ret (at_then_ret (at_then_ret (at_in_ret (at_then_ret (at_in_ret (at_then_ret (at_then_ret (at_in_ret (at_then_ret ?_)))))))))
      refine at_then_ret ?_
      exact at_return (.bool false) [] hS Tryz.results12 (.cons (.tmp rfl) .nil) rfl rfl ⟨rfl, rfl⟩
     replace hr := ineg h1038 hr
     refine at_false rfl (decide_eq_false (by omega)) ?_
     refine at_skip (at_in (s_tr (s_mv rfl (at_lt (lt_add rfl rfl (by simp only [lo, hi]; omega)) rfl (s_as rfl (at_nil (at_int .i64 (x1010 + 1 : Int) (by simp only [lo, hi]; omega) ?_)))))))
     exact at_again (σ := Nat) (V := Unit) (lp := fun n s => m12_l4 x934 n s) (S := fun s e => (⟨[(1, .int .i64 a1), (2, .pointer (some (Addr.add ⟨b926, 0, none⟩ 0))), (5, .int .i64 (x927 : Int)), (6, .pointer (some (Addr.add ⟨b939, 0, none⟩ 0))), (7, .int .i64 (s : Int))], [⟨b939, [str x934.Tag, .int .u8 (x934.Ind_0.toNat : Int), .int .u8 (x934.Ind_1.toNat : Int), s936], 59⟩, ⟨b926, [.int .i64 a0.ID, s923], 24⟩], [], [((Ty.int .i64).fact (s : Int) [.int .i64 (s : Int)]), ((Ty.int .i64).fact a1 [.int .i64 a1]), ((Ty.int .i64).fact (x927 : Int) [.int .i64 (x927 : Int)]), ((Ty.int .i64).fact a0.ID [.int .i64 a0.ID]), ((Ty.slice ty59).fact a0.Fields [s923]), (Ty.str.fact x934.Tag [str x934.Tag]), ((Ty.slice ty67).fact x934.Subs [s936])]⟩ : St)) (x1010 + 1) () hr ⟨⟨rfl, ⟨rfl, ⟨rfl, ⟨rfl, ⟨rfl, trivial⟩⟩⟩⟩⟩, ⟨[true, true], rfl⟩, ⟨[], rfl⟩, ⟨[0, 8, 9, 10, 11, 12, 13], rfl⟩⟩
    replace hr := ineg h1014 hr
    refine at_false rfl (decide_eq_false (by omega)) ?_
    refine at_exit (at_then_exit (at_then_exit (at_in_exit ?_)))
    have hq := oinj hr
    clear hr
    subst hq
    exact at_leafP ((), ()) rfl ⟨⟨rfl, ⟨rfl, ⟨rfl, trivial⟩⟩⟩, ⟨[false, true], rfl⟩, ⟨[], rfl⟩, ⟨[1, 2, 3, 4], rfl⟩⟩
   rintro ⟨_, _⟩ hp
   replace hr := hk1013
   subst hp
   clear hl1012
   change At _ _ (⟨[(1, .int .i64 a1), (2, .pointer (some (Addr.add ⟨b926, 0, none⟩ 0))), (5, .int .i64 (x927 : Int))], [⟨b926, [.int .i64 a0.ID, s923], 24⟩], [], [((Ty.int .i64).fact a1 [.int .i64 a1]), ((Ty.int .i64).fact (x927 : Int) [.int .i64 (x927 : Int)]), ((Ty.int .i64).fact a0.ID [.int .i64 a0.ID]), ((Ty.slice ty59).fact a0.Fields [s923])]⟩ : St) _
   refine at_in (s_tr (s_mv rfl (at_lt (lt_add rfl rfl (by simp only [lo, hi]; omega)) rfl (s_as rfl (at_nil (at_int .i64 (x927 + 1 : Int) (by simp only [lo, hi]; omega) ?_))))))
   exact at_again (σ := Nat) (V := Unit) (lp := fun n s => m12_l1 a0 n s) (S := fun s e => (⟨[(1, .int .i64 a1), (2, .pointer (some (Addr.add ⟨b926, 0, none⟩ 0))), (5, .int .i64 (s : Int))], [⟨b926, [.int .i64 a0.ID, s923], 24⟩], [], [((Ty.int .i64).fact (s : Int) [.int .i64 (s : Int)]), ((Ty.int .i64).fact a1 [.int .i64 a1]), ((Ty.int .i64).fact a0.ID [.int .i64 a0.ID]), ((Ty.slice ty59).fact a0.Fields [s923])]⟩ : St)) (x927 + 1) () hr ⟨⟨rfl, ⟨rfl, ⟨rfl, trivial⟩⟩⟩, ⟨[true], rfl⟩, ⟨[], rfl⟩, ⟨[0, 1, 3, 4], rfl⟩⟩
  replace hr := ineg h933 hr
  refine at_false rfl (decide_eq_false (by omega)) ?_
  refine at_exit (at_then_exit (at_then_exit (at_in_exit ?_)))
  have hq := oinj hr
  clear hr
  subst hq
  exact at_leafP ((), ()) rfl ⟨⟨rfl, ⟨rfl, trivial⟩⟩, ⟨[true], rfl⟩, ⟨[], rfl⟩, ⟨[1, 2, 3], rfl⟩⟩
 rintro ⟨_, _⟩ hp
 replace hr := hk930
 subst hp
 clear hl929
 change At _ _ (⟨[(1, .int .i64 a1), (2, .pointer (some (Addr.add ⟨b926, 0, none⟩ 0)))], [⟨b926, [.int .i64 a0.ID, s923], 24⟩], [], [((Ty.int .i64).fact a1 [.int .i64 a1]), ((Ty.int .i64).fact a0.ID [.int .i64 a0.ID]), ((Ty.slice ty59).fact a0.Fields [s923])]⟩ : St) _
 refine s_tsr (at_lt (lt_fieldAddr 1 rfl fld24_1 rfl) rfl (at_lt (lt_load_box 0 rfl ti22 rfl rfl rfl rfl rfl) rfl ?_))
 refine at_inv 2 rfl (fun i1039 => ?_)
 have l1040 := slice_len i1039
 refine at_lt (lt_flen 2 rfl rfl und22) rfl (s_mv rfl (at_lt (lt_leq rfl rfl) rfl (s_as rfl (s_nt (at_ret ?_)))))
 have hq := oinj hr
 clear hr
 subst hq
 exact at_return (.bool (decide ((a0.Fields.length : Int) ≤ a1))) [] hS Tryz.results12 (.cons (.tmp rfl) .nil) rfl rfl ⟨rfl, rfl⟩
def m61 (a0 : D_api_Field) : Option D_api_Field :=
  if a0.Subs.length ≤ 5864062014805 then
   some (⟨a0.Tag, a0.Ind_0, a0.Ind_1, [] ++ a0.Subs⟩ : D_api_Field)
  else none
def post61 (r : D_api_Field) (v : Value) (fs : List Fact) : Prop := ∃ s1050 : Value, v = .agg #[str r.Tag, .int .u8 (r.Ind_0.toNat : Int), .int .u8 (r.Ind_1.toNat : Int), s1050] ∧ fs = [(ty59.fact r [str r.Tag, .int .u8 (r.Ind_0.toNat : Int), .int .u8 (r.Ind_1.toNat : Int), s1050])]
theorem en61 : Enters Tryz.prog 61 := ⟨_, Tryz.func61, by kernel_rfl, rfl⟩
theorem f61_spec {a0 : D_api_Field} {s1041 : Value} {r : D_api_Field} (hr : m61 a0 = some r) : Spec Tryz.prog 61 [.agg #[str a0.Tag, .int .u8 (a0.Ind_0.toNat : Int), .int .u8 (a0.Ind_1.toNat : Int), s1041]] [(ty59.fact a0 [str a0.Tag, .int .u8 (a0.Ind_0.toNat : Int), .int .u8 (a0.Ind_1.toNat : Int), s1041])] (post61 r) := by
 refine spec_start (N := 9) Tryz.func61 (by kernel_rfl) rfl rfl rfl ?_
 intro g hS
 unfold m61 at hr
 refine at_open (A := Unit) 0 rfl (fun _ => True) (fun _ => [(Ty.str.fact a0.Tag [str a0.Tag]), ((Ty.slice ty67).fact a0.Subs [s1041])]) (fun F w h => ⟨(), trivial, ex59 h⟩) (fun _ _ => ?_)
 refine s_sr (at_hv rfl ?_)
 refine hv_box (cs := [str a0.Tag, .int .u8 (a0.Ind_0.toNat : Int), .int .u8 (a0.Ind_1.toNat : Int), s1041]) rfl rfl rfl (fun b1042 => ?_)
 refine at_hv rfl ?_
 refine hv_alloc (cs := [str ([] : Str), .int .u8 0, .int .u8 0, (.slice none 0 0)]) ti59 rfl rfl (fun b1043 => ?_)
 refine s_ntsr (at_hv rfl ?_)
 refine hv_bslice (cs := []) rfl und57 ti67 rfl rfl rfl rfl rfl (fun s1044 => ?_)
 refine at_lt (lt_fieldAddr 3 rfl fld59_2 rfl) rfl (at_lt (lt_load_box 1 rfl ti57 rfl rfl rfl rfl rfl) rfl ?_)
 replace hr := imust hr
 obtain ⟨h1045, hr⟩ := hr
 refine at_rownil ty67 ?_
 refine at_rown 0 0 rfl rfl rfl (fun hn1048 => ?_)
 refine at_hv rfl ?_
 refine hv_append_f 0 2 rfl rfl rfl rfl und57 ti67 rfl rfl (by omega) (by omega) rfl (fun s1046 u1047 => ?_)
 refine at_rowcat 1 0 rfl rfl (at_lt (lt_fieldAddr 3 rfl fld59_2 rfl) rfl ?_)
 refine at_rowv 0 rfl (fun ho1049 => ?_)
 replace ho1049 := row_one (by obtain ⟨a, c, h⟩ := ho1049; exact ⟨a, _, c, h⟩)
 refine at_hv rfl (hv_store1 1 (cs' := [str a0.Tag, .int .u8 (a0.Ind_0.toNat : Int), .int .u8 (a0.Ind_1.toNat : Int), s1046]) rfl rfl ti57 rfl rfl rfl rfl ho1049 (s_ntsr (at_lt (lt_load_box 1 rfl ti59 rfl rfl rfl rfl rfl) rfl (at_hv rfl (hv_store_box 0 (cs' := [str a0.Tag, .int .u8 (a0.Ind_0.toNat : Int), .int .u8 (a0.Ind_1.toNat : Int), s1046]) rfl rfl ti59 rfl rfl rfl rfl (allc rfl (allc rfl (allc rfl (allc ho1049 rfl)))) (s_nt (at_ret ?_)))))))
 have hq := oinj hr
 clear hr
 subst hq
 refine at_release 0 0 rfl rfl rfl (by simp only [List.length_append, List.length_cons, List.length_nil, ty67_bytes] <;> omega) ?_
 refine at_derive [4, 0] (ty59.fact (⟨a0.Tag, a0.Ind_0, a0.Ind_1, [] ++ a0.Subs⟩ : D_api_Field) [str a0.Tag, .int .u8 (a0.Ind_0.toNat : Int), .int .u8 (a0.Ind_1.toNat : Int), s1046]) rfl (fun F w h => mk59 (x := (⟨a0.Tag, a0.Ind_0, a0.Ind_1, [] ++ a0.Subs⟩ : D_api_Field)) h) ?_
 exact at_return (.agg #[str a0.Tag, .int .u8 (a0.Ind_0.toNat : Int), .int .u8 (a0.Ind_1.toNat : Int), s1046]) [0] hS Tryz.results61 (.cons (.cell 0 rfl ti59 rfl rfl rfl rfl) .nil) rfl rfl ⟨s1046, rfl, rfl⟩
def m23_l1 (a0 : D_api_Record) (a1 : Str) : Nat → (List D_api_Field) → Nat → Option (List D_api_Field)
  | 0, _, _ => none
  | k + 1, x1054, x1055 =>
    if x1055 < a0.Fields.length then
     (a0.Fields[x1055]?).bind fun x1068 =>
     Option.bind (α := (List D_api_Field)) (
      if x1068.Tag = a1 then
       (a0.Fields[x1055]?).bind fun x1079 =>
       (m61 x1079).bind fun x1084 =>
       if x1054.length + 1 ≤ 2932031007402 then
        some (x1054 ++ [x1084])
       else none
      else
       some x1054
     ) fun x1073 =>
     m23_l1 a0 a1 k x1073 (x1055 + 1)
    else
     some x1054
def m23 (a0 : D_api_Record) (a1 : Str) : Option (List D_api_Field) :=
  (m23_l1 a0 a1 (a0.Fields.length + 1) ([] : (List D_api_Field)) 0).bind fun x1059 =>
  some x1059
def post23 (r : (List D_api_Field)) (v : Value) (fs : List Fact) : Prop := ∃ s1093 : Value, v = s1093 ∧ fs = [((Ty.slice ty59).fact r [s1093])]
theorem en23 : Enters Tryz.prog 23 := ⟨_, Tryz.func23, by kernel_rfl, rfl⟩
theorem f23_spec {a0 : D_api_Record} {a1 : Str} {s1051 : Value} {r : (List D_api_Field)} (hr : m23 a0 a1 = some r) : Spec Tryz.prog 23 [.agg #[.int .i64 a0.ID, s1051], str a1] [(ty24.fact a0 [.int .i64 a0.ID, s1051]), (Ty.str.fact a1 [str a1])] (post23 r) := by
 refine spec_start (N := 32) Tryz.func23 (by kernel_rfl) rfl rfl rfl ?_
 intro g hS
 unfold m23 at hr
 refine at_open (A := Unit) 0 rfl (fun _ => True) (fun _ => [((Ty.int .i64).fact a0.ID [.int .i64 a0.ID]), ((Ty.slice ty59).fact a0.Fields [s1051])]) (fun F w h => ⟨(), trivial, ex24 h⟩) (fun _ _ => ?_)
 refine at_inv 0 rfl (fun l1052 => ?_)
 replace l1052 : (-9223372036854775808) ≤ a0.ID ∧ a0.ID ≤ 9223372036854775807 := l1052
 refine s_sr (at_hv rfl ?_)
 refine hv_box (cs := [.int .i64 a0.ID, s1051]) rfl rfl rfl (fun b1053 => ?_)
 refine s_as rfl (s_ntsr (s_as rfl (s_nt (at_seq (s_sr (s_as rfl (s_nt (at_rownew none 59 4 (at_rownil ty59 ?_)))))))))
 refine at_mkpure (q := (([] : (List D_api_Field)).length * ty59.bytes ≤ 140737488355328)) (by simp only [List.nil_append, List.cons_append, List.length_cons, List.length_nil, ty59_bytes] <;> omega) ?_
 refine at_int .i64 0 (by simp only [lo, hi]; omega) ?_
 replace hr := obind hr
 obtain ⟨x1059, hl1063, hr⟩ := hr
 refine at_cut (V := Value × Nat × (List Value)) (fun e => (⟨[(5, e.1)], [], [⟨e.1, 59, 4, e.2.1, e.2.2⟩], [(ty59.row x1059 e.2.2), (pureF (x1059.length * ty59.bytes ≤ 140737488355328))]⟩ : St)) ?_ ?_
 ·refine at_block ?_
  refine at_loopW (σ := ((List D_api_Field) × Nat)) (V := Value × Nat × (List Value)) (r := x1059) (fun n s => m23_l1 a0 a1 n s.1 s.2) (fun s e => (⟨[(1, str a1), (2, .pointer (some (Addr.add ⟨b1053, 0, none⟩ 0))), (5, e.1), (6, .int .i64 (s.2 : Int))], [⟨b1053, [.int .i64 a0.ID, s1051], 24⟩], [⟨e.1, 59, 4, e.2.1, e.2.2⟩], [(ty59.row s.1 e.2.2), (pureF (s.1.length * ty59.bytes ≤ 140737488355328)), ((Ty.int .i64).fact (s.2 : Int) [.int .i64 (s.2 : Int)]), (Ty.str.fact a1 [str a1]), ((Ty.int .i64).fact a0.ID [.int .i64 a0.ID]), ((Ty.slice ty59).fact a0.Fields [s1051])]⟩ : St)) (fun _ => rfl) _ (([] : (List D_api_Field)), 0) ((.slice none 0 0), 0, []) hl1063 ⟨⟨rfl, ⟨rfl, ⟨rfl, ⟨rfl, trivial⟩⟩⟩⟩, ⟨[true], rfl⟩, ⟨[true], rfl⟩, ⟨[2, 1, 0, 6, 3, 4], rfl⟩⟩ ?_
  clear hr hl1063
  intro n s hr e
  obtain ⟨x1054, x1055⟩ := s
  obtain ⟨v1056, n1057, i1058⟩ := e
  change m23_l1 a0 a1 (n + 1) x1054 x1055 = some x1059 at hr
  change At _ _ (⟨[(1, str a1), (2, .pointer (some (Addr.add ⟨b1053, 0, none⟩ 0))), (5, v1056), (6, .int .i64 (x1055 : Int))], [⟨b1053, [.int .i64 a0.ID, s1051], 24⟩], [⟨v1056, 59, 4, n1057, i1058⟩], [(ty59.row x1054 i1058), (pureF (x1054.length * ty59.bytes ≤ 140737488355328)), ((Ty.int .i64).fact (x1055 : Int) [.int .i64 (x1055 : Int)]), (Ty.str.fact a1 [str a1]), ((Ty.int .i64).fact a0.ID [.int .i64 a0.ID]), ((Ty.slice ty59).fact a0.Fields [s1051])]⟩ : St) _
  rw [m23_l1] at hr
  refine at_seq (s_sr (s_mv rfl (at_lt (lt_fieldAddr 1 rfl fld24_1 rfl) rfl (at_lt (lt_load_box 0 rfl ti22 rfl rfl rfl rfl rfl) rfl ?_))))
  refine at_inv 5 rfl (fun i1065 => ?_)
  have l1066 := slice_len i1065
  refine at_lt (lt_flen 5 rfl rfl und22) rfl (at_lt (lt_lss rfl rfl) rfl (s_nt ?_))
  by_cases h1067 : x1055 < a0.Fields.length
  ·replace hr := ipos h1067 hr
   refine at_true rfl (decide_eq_true (by omega)) ?_
   refine at_skip (at_then (at_seq (at_block (s_sr (at_lt (lt_fieldAddr 1 rfl fld24_1 rfl) rfl (at_lt (lt_load_box 0 rfl ti22 rfl rfl rfl rfl rfl) rfl (s_mv rfl ?_)))))))
   replace hr := obind hr
   obtain ⟨x1068, h1069, hr⟩ := hr
   have := (List.getElem?_eq_some_iff.1 h1069).1
   refine at_elem 5 rfl (nat_at' h1069) (fun p1071 ec pa1072 => ?_)
   refine at_open (A := Value) 0 rfl _ _ (fun F w h => op59 h) ?_
   rintro s1070 rfl
   refine at_lt (lt_idx rfl rfl pa1072 und22 ti59) rfl (at_lt (lt_fieldAddr 0 rfl fld59_0 rfl) rfl (at_lt (lt_load_peek 3 rfl ti9 rfl rfl rfl rfl rfl) rfl (s_mv rfl (at_lt (lt_seql rfl rfl) rfl (s_nt ?_)))))
   replace hr := obind hr
   obtain ⟨x1073, hc1077, hr⟩ := hr
   refine at_cut (V := Value × Nat × (List Value)) (fun e => (⟨[(1, str a1), (2, .pointer (some (Addr.add ⟨b1053, 0, none⟩ 0))), (5, e.1), (6, .int .i64 (x1055 : Int))], [⟨b1053, [.int .i64 a0.ID, s1051], 24⟩], [⟨e.1, 59, 4, e.2.1, e.2.2⟩], [(ty59.row x1073 e.2.2), (pureF (x1073.length * ty59.bytes ≤ 140737488355328)), (Ty.str.fact a1 [str a1]), ((Ty.int .i64).fact (x1055 : Int) [.int .i64 (x1055 : Int)]), ((Ty.int .i64).fact a0.ID [.int .i64 a0.ID]), ((Ty.slice ty59).fact a0.Fields [s1051])]⟩ : St)) ?_ ?_
   ·clear hr
    have hr := hc1077
    clear hc1077
    by_cases h1078 : x1068.Tag = a1
    ·replace hr := ipos h1078 hr
     refine at_true rfl (decide_eq_true h1078) (at_region (s_mv rfl (at_lt (lt_fieldAddr 1 rfl fld24_1 rfl) rfl (at_lt (lt_load_box 0 rfl ti22 rfl rfl rfl rfl rfl) rfl (s_mv rfl ?_)))))
     replace hr := obind hr
     obtain ⟨x1079, h1080, hr⟩ := hr
     have := (List.getElem?_eq_some_iff.1 h1080).1
     refine at_elem 9 rfl (nat_at' h1080) (fun p1082 ec pa1083 => ?_)
     refine at_open (A := Value) 0 rfl _ _ (fun F w h => op59 h) ?_
     rintro s1081 rfl
     refine at_lt (lt_idx rfl rfl pa1083 und22 ti59) rfl (at_lt (lt_load_peek 3 rfl ti59 rfl rfl rfl rfl rfl) rfl ?_)
     replace hr := obind hr
     obtain ⟨x1084, h1085, hr⟩ := hr
     refine at_hv rfl (hv_call0 [2] (f61_spec h1085) rfl rfl rfl rfl ?_)
     rintro _ _ ⟨s1086, rfl, rfl⟩
     refine at_open (A := Unit) 0 rfl (fun _ => True) (fun _ => [(Ty.str.fact x1084.Tag [str x1084.Tag]), ((Ty.slice ty67).fact x1084.Subs [s1086])]) (fun F w h => ⟨(), trivial, ex59 h⟩) (fun _ _ => ?_)
     refine at_hv rfl ?_
     refine hv_bslice (cs := [str x1084.Tag, .int .u8 (x1084.Ind_0.toNat : Int), .int .u8 (x1084.Ind_1.toNat : Int), s1086]) rfl und22 ti59 rfl rfl rfl rfl rfl (fun s1087 => ?_)
     replace hr := imust hr
     obtain ⟨h1088, hr⟩ := hr
     refine at_rown 1 11 rfl rfl rfl (fun hn1090 => ?_)
     refine at_one 1 rfl (fun ho1091 => ?_)
     refine at_hv rfl ?_
     refine hv_append 1 0 rfl rfl rfl rfl und22 ti59 rfl rfl (allc rfl (allc rfl (allc rfl (allc ho1091 rfl)))) (by omega) (by omega) rfl (fun s1089 => ?_)
     refine at_rowsnoc 11 2 rfl rfl (s_as rfl (at_nil ?_))
     have hq := oinj hr
     clear hr
     subst hq
     refine at_mkpure (q := ((x1054 ++ [x1084]).length * ty59.bytes ≤ 140737488355328)) (by simp only [List.length_append, List.length_cons, List.length_nil, ty59_bytes] <;> omega) ?_
     exact at_leaf (s1089, n1057 + 1, i1058 ++ [str x1084.Tag, .int .u8 (x1084.Ind_0.toNat : Int), .int .u8 (x1084.Ind_1.toNat : Int), s1086]) ⟨⟨rfl, ⟨rfl, ⟨rfl, ⟨rfl, trivial⟩⟩⟩⟩, ⟨[true], rfl⟩, ⟨[false, true], rfl⟩, ⟨[1, 0, 16, 15, 17, 18], rfl⟩⟩
    replace hr := ineg h1078 hr
    refine at_false rfl (decide_eq_false h1078) (at_skip ?_)
    have hq := oinj hr
    clear hr
    subst hq
    exact at_leaf (v1056, n1057, i1058) ⟨⟨rfl, ⟨rfl, ⟨rfl, ⟨rfl, trivial⟩⟩⟩⟩, ⟨[true], rfl⟩, ⟨[true], rfl⟩, ⟨[4, 5, 7, 6, 8, 9], rfl⟩⟩
   clear hc1077
   intro e
   obtain ⟨v1074, n1075, i1076⟩ := e
   change At _ _ (⟨[(1, str a1), (2, .pointer (some (Addr.add ⟨b1053, 0, none⟩ 0))), (5, v1074), (6, .int .i64 (x1055 : Int))], [⟨b1053, [.int .i64 a0.ID, s1051], 24⟩], [⟨v1074, 59, 4, n1075, i1076⟩], [(ty59.row x1073 i1076), (pureF (x1073.length * ty59.bytes ≤ 140737488355328)), (Ty.str.fact a1 [str a1]), ((Ty.int .i64).fact (x1055 : Int) [.int .i64 (x1055 : Int)]), ((Ty.int .i64).fact a0.ID [.int .i64 a0.ID]), ((Ty.slice ty59).fact a0.Fields [s1051])]⟩ : St) _
   refine at_in (s_tr (s_mv rfl (at_lt (lt_add rfl rfl (by simp only [lo, hi]; omega)) rfl (s_as rfl (at_nil (at_int .i64 (x1055 + 1 : Int) (by simp only [lo, hi]; omega) ?_))))))
   exact at_again (σ := ((List D_api_Field) × Nat)) (V := Value × Nat × (List Value)) (lp := fun n s => m23_l1 a0 a1 n s.1 s.2) (S := fun s e => (⟨[(1, str a1), (2, .pointer (some (Addr.add ⟨b1053, 0, none⟩ 0))), (5, e.1), (6, .int .i64 (s.2 : Int))], [⟨b1053, [.int .i64 a0.ID, s1051], 24⟩], [⟨e.1, 59, 4, e.2.1, e.2.2⟩], [(ty59.row s.1 e.2.2), (pureF (s.1.length * ty59.bytes ≤ 140737488355328)), ((Ty.int .i64).fact (s.2 : Int) [.int .i64 (s.2 : Int)]), (Ty.str.fact a1 [str a1]), ((Ty.int .i64).fact a0.ID [.int .i64 a0.ID]), ((Ty.slice ty59).fact a0.Fields [s1051])]⟩ : St)) (x1073, x1055 + 1) (v1074, n1075, i1076) hr ⟨⟨rfl, ⟨rfl, ⟨rfl, ⟨rfl, trivial⟩⟩⟩⟩, ⟨[true], rfl⟩, ⟨[true], rfl⟩, ⟨[1, 2, 0, 3, 5, 6], rfl⟩⟩
  replace hr := ineg h1067 hr
  refine at_false rfl (decide_eq_false (by omega)) ?_
  refine at_exit (at_then_exit (at_then_exit (at_in_exit ?_)))
  have hq := oinj hr
  clear hr
  subst hq
  exact at_leaf (v1056, n1057, i1058) ⟨⟨rfl, trivial⟩, ⟨[false], rfl⟩, ⟨[true], rfl⟩, ⟨[0, 1], rfl⟩⟩
 clear hl1063
 intro e
 obtain ⟨v1060, n1061, i1062⟩ := e
 change At _ _ (⟨[(5, v1060)], [], [⟨v1060, 59, 4, n1061, i1062⟩], [(ty59.row x1059 i1062), (pureF (x1059.length * ty59.bytes ≤ 140737488355328))]⟩ : St) _
 refine s_tsr (s_mv rfl (s_as rfl (s_nt (at_ret ?_))))
 have hq := oinj hr
 clear hr
 subst hq
 refine at_pure 1 rfl (fun hb1092 => ?_)
 refine at_release 0 0 rfl rfl rfl hb1092 ?_
 exact at_return (v1060) [0] hS Tryz.results23 (.cons (.tmp rfl) .nil) rfl rfl ⟨v1060, rfl, rfl⟩
def m62_l1 (a0 : D_api_Field) (a1 : UInt8) : Nat → (List Str) → Nat → Option (List Str)
  | 0, _, _ => none
  | k + 1, x1096, x1097 =>
    if x1097 < a0.Subs.length then
     (a0.Subs[x1097]?).bind fun x1110 =>
     Option.bind (α := (List Str)) (
      if x1110.Code.toNat = a1.toNat then
       (a0.Subs[x1097]?).bind fun x1120 =>
       if x1096.length + 1 ≤ 8796093022208 then
        some (x1096 ++ [x1120.Value])
       else none
      else
       some x1096
     ) fun x1114 =>
     m62_l1 a0 a1 k x1114 (x1097 + 1)
    else
     some x1096
def m62 (a0 : D_api_Field) (a1 : UInt8) : Option (List Str) :=
  (m62_l1 a0 a1 (a0.Subs.length + 1) ([] : (List Str)) 0).bind fun x1101 =>
  some x1101
def post62 (r : (List Str)) (v : Value) (fs : List Fact) : Prop := ∃ s1129 : Value, v = s1129 ∧ fs = [((Ty.slice Ty.str).fact r [s1129])]
theorem en62 : Enters Tryz.prog 62 := ⟨_, Tryz.func62, by kernel_rfl, rfl⟩
theorem f62_spec {a0 : D_api_Field} {a1 : UInt8} {s1094 : Value} {r : (List Str)} (hr : m62 a0 a1 = some r) : Spec Tryz.prog 62 [.agg #[str a0.Tag, .int .u8 (a0.Ind_0.toNat : Int), .int .u8 (a0.Ind_1.toNat : Int), s1094], .int .u8 (a1.toNat : Int)] [(ty59.fact a0 [str a0.Tag, .int .u8 (a0.Ind_0.toNat : Int), .int .u8 (a0.Ind_1.toNat : Int), s1094])] (post62 r) := by
 refine spec_start (N := 32) Tryz.func62 (by kernel_rfl) rfl rfl rfl ?_
 intro g hS
 unfold m62 at hr
 refine at_open (A := Unit) 0 rfl (fun _ => True) (fun _ => [(Ty.str.fact a0.Tag [str a0.Tag]), ((Ty.slice ty67).fact a0.Subs [s1094])]) (fun F w h => ⟨(), trivial, ex59 h⟩) (fun _ _ => ?_)
 refine s_sr (at_hv rfl ?_)
 refine hv_box (cs := [str a0.Tag, .int .u8 (a0.Ind_0.toNat : Int), .int .u8 (a0.Ind_1.toNat : Int), s1094]) rfl rfl rfl (fun b1095 => ?_)
 refine s_as rfl (s_ntsr (s_as rfl (s_nt (at_seq (s_sr (s_as rfl (s_nt (at_rownew none 9 1 (at_rownil Ty.str ?_)))))))))
 refine at_mkpure (q := (([] : (List Str)).length * Ty.str.bytes ≤ 140737488355328)) (by simp only [List.nil_append, List.cons_append, List.length_cons, List.length_nil, Ty.int_bytes, Ty.u8_bytes, Ty.str_bytes, Ty.slice_bytes, Ty.bool_bytes, nb] <;> omega) ?_
 refine at_int .i64 0 (by simp only [lo, hi]; omega) ?_
 replace hr := obind hr
 obtain ⟨x1101, hl1105, hr⟩ := hr
 refine at_cut (V := Value × Nat × (List Value)) (fun e => (⟨[(5, e.1)], [], [⟨e.1, 9, 1, e.2.1, e.2.2⟩], [(Ty.str.row x1101 e.2.2), (pureF (x1101.length * Ty.str.bytes ≤ 140737488355328))]⟩ : St)) ?_ ?_
 ·refine at_block ?_
  refine at_loopW (σ := ((List Str) × Nat)) (V := Value × Nat × (List Value)) (r := x1101) (fun n s => m62_l1 a0 a1 n s.1 s.2) (fun s e => (⟨[(1, .int .u8 (a1.toNat : Int)), (2, .pointer (some (Addr.add ⟨b1095, 0, none⟩ 0))), (5, e.1), (6, .int .i64 (s.2 : Int))], [⟨b1095, [str a0.Tag, .int .u8 (a0.Ind_0.toNat : Int), .int .u8 (a0.Ind_1.toNat : Int), s1094], 59⟩], [⟨e.1, 9, 1, e.2.1, e.2.2⟩], [(Ty.str.row s.1 e.2.2), (pureF (s.1.length * Ty.str.bytes ≤ 140737488355328)), ((Ty.int .i64).fact (s.2 : Int) [.int .i64 (s.2 : Int)]), (Ty.str.fact a0.Tag [str a0.Tag]), ((Ty.slice ty67).fact a0.Subs [s1094])]⟩ : St)) (fun _ => rfl) _ (([] : (List Str)), 0) ((.slice none 0 0), 0, []) hl1105 ⟨⟨rfl, ⟨rfl, ⟨rfl, ⟨rfl, trivial⟩⟩⟩⟩, ⟨[true], rfl⟩, ⟨[true], rfl⟩, ⟨[2, 1, 0, 3, 4], rfl⟩⟩ ?_
  clear hr hl1105
  intro n s hr e
  obtain ⟨x1096, x1097⟩ := s
  obtain ⟨v1098, n1099, i1100⟩ := e
  change m62_l1 a0 a1 (n + 1) x1096 x1097 = some x1101 at hr
  change At _ _ (⟨[(1, .int .u8 (a1.toNat : Int)), (2, .pointer (some (Addr.add ⟨b1095, 0, none⟩ 0))), (5, v1098), (6, .int .i64 (x1097 : Int))], [⟨b1095, [str a0.Tag, .int .u8 (a0.Ind_0.toNat : Int), .int .u8 (a0.Ind_1.toNat : Int), s1094], 59⟩], [⟨v1098, 9, 1, n1099, i1100⟩], [(Ty.str.row x1096 i1100), (pureF (x1096.length * Ty.str.bytes ≤ 140737488355328)), ((Ty.int .i64).fact (x1097 : Int) [.int .i64 (x1097 : Int)]), (Ty.str.fact a0.Tag [str a0.Tag]), ((Ty.slice ty67).fact a0.Subs [s1094])]⟩ : St) _
  rw [m62_l1] at hr
  refine at_seq (s_sr (s_mv rfl (at_lt (lt_fieldAddr 3 rfl fld59_2 rfl) rfl (at_lt (lt_load_box 0 rfl ti57 rfl rfl rfl rfl rfl) rfl ?_))))
  refine at_inv 4 rfl (fun i1107 => ?_)
  have l1108 := slice_len i1107
  refine at_lt (lt_flen 4 rfl rfl und57) rfl (at_lt (lt_lss rfl rfl) rfl (s_nt ?_))
  by_cases h1109 : x1097 < a0.Subs.length
  ·replace hr := ipos h1109 hr
   refine at_true rfl (decide_eq_true (by omega)) ?_
   refine at_skip (at_then (at_seq (at_block (s_sr (at_lt (lt_fieldAddr 3 rfl fld59_2 rfl) rfl (at_lt (lt_load_box 0 rfl ti57 rfl rfl rfl rfl rfl) rfl (s_mv rfl ?_)))))))
   replace hr := obind hr
   obtain ⟨x1110, h1111, hr⟩ := hr
   have := (List.getElem?_eq_some_iff.1 h1111).1
   refine at_elem 4 rfl (nat_at' h1111) (fun p1112 ec pa1113 => ?_)
   refine at_open (A := Unit) 0 rfl _ _ (fun F w h => op67 h) ?_
   rintro _ rfl
   refine at_lt (lt_idx rfl rfl pa1113 und57 ti67) rfl (at_lt (lt_fieldAddr 0 rfl fld67_0 rfl) rfl (at_lt (lt_load_peek 2 rfl ti5 rfl rfl rfl rfl rfl) rfl (s_mv rfl (at_lt (lt_eql rfl rfl) rfl (s_nt ?_)))))
   replace hr := obind hr
   obtain ⟨x1114, hc1118, hr⟩ := hr
   refine at_cut (V := Value × Nat × (List Value)) (fun e => (⟨[(1, .int .u8 (a1.toNat : Int)), (2, .pointer (some (Addr.add ⟨b1095, 0, none⟩ 0))), (5, e.1), (6, .int .i64 (x1097 : Int))], [⟨b1095, [str a0.Tag, .int .u8 (a0.Ind_0.toNat : Int), .int .u8 (a0.Ind_1.toNat : Int), s1094], 59⟩], [⟨e.1, 9, 1, e.2.1, e.2.2⟩], [(Ty.str.row x1114 e.2.2), (pureF (x1114.length * Ty.str.bytes ≤ 140737488355328)), ((Ty.int .i64).fact (x1097 : Int) [.int .i64 (x1097 : Int)]), (Ty.str.fact a0.Tag [str a0.Tag]), ((Ty.slice ty67).fact a0.Subs [s1094])]⟩ : St)) ?_ ?_
   ·clear hr
    have hr := hc1118
    clear hc1118
    by_cases h1119 : x1110.Code.toNat = a1.toNat
    ·replace hr := ipos h1119 hr
     refine at_true rfl (decide_eq_true (by omega)) ?_
     refine at_region (s_mv rfl (at_lt (lt_fieldAddr 3 rfl fld59_2 rfl) rfl (at_lt (lt_load_box 0 rfl ti57 rfl rfl rfl rfl rfl) rfl (s_mv rfl ?_))))
     replace hr := obind hr
     obtain ⟨x1120, h1121, hr⟩ := hr
     have := (List.getElem?_eq_some_iff.1 h1121).1
     refine at_elem 7 rfl (nat_at' h1121) (fun p1122 ec pa1123 => ?_)
     refine at_open (A := Unit) 0 rfl _ _ (fun F w h => op67 h) ?_
     rintro _ rfl
     refine at_lt (lt_idx rfl rfl pa1123 und57 ti67) rfl (at_lt (lt_fieldAddr 1 rfl fld67_1 rfl) rfl (at_lt (lt_load_peek 2 rfl ti9 rfl rfl rfl rfl rfl) rfl (at_hv rfl ?_)))
     refine hv_bslice (cs := [str x1120.Value]) rfl und34 ti9 rfl rfl rfl rfl rfl (fun s1124 => ?_)
     replace hr := imust hr
     obtain ⟨h1125, hr⟩ := hr
     refine at_rown 1 6 rfl rfl rfl (fun hn1127 => ?_)
     refine at_hv rfl ?_
     refine hv_append 1 0 rfl rfl rfl rfl und34 ti9 rfl rfl rfl (by omega) (by omega) rfl (fun s1126 => ?_)
     refine at_rowsnoc 6 0 rfl rfl (s_as rfl (at_nil ?_))
     have hq := oinj hr
     clear hr
     subst hq
     refine at_mkpure (q := ((x1096 ++ [x1120.Value]).length * Ty.str.bytes ≤ 140737488355328)) (by simp only [List.length_append, List.length_cons, List.length_nil, Ty.int_bytes, Ty.u8_bytes, Ty.str_bytes, Ty.slice_bytes, Ty.bool_bytes, nb] <;> omega) ?_
     exact at_leaf (s1126, n1099 + 1, i1100 ++ [str x1120.Value]) ⟨⟨rfl, ⟨rfl, ⟨rfl, ⟨rfl, trivial⟩⟩⟩⟩, ⟨[true], rfl⟩, ⟨[false, true], rfl⟩, ⟨[1, 0, 10, 11, 12], rfl⟩⟩
    replace hr := ineg h1119 hr
    refine at_false rfl (decide_eq_false (by omega)) ?_
    refine at_skip ?_
    have hq := oinj hr
    clear hr
    subst hq
    exact at_leaf (v1098, n1099, i1100) ⟨⟨rfl, ⟨rfl, ⟨rfl, ⟨rfl, trivial⟩⟩⟩⟩, ⟨[true], rfl⟩, ⟨[true], rfl⟩, ⟨[3, 4, 5, 6, 7], rfl⟩⟩
   clear hc1118
   intro e
   obtain ⟨v1115, n1116, i1117⟩ := e
   change At _ _ (⟨[(1, .int .u8 (a1.toNat : Int)), (2, .pointer (some (Addr.add ⟨b1095, 0, none⟩ 0))), (5, v1115), (6, .int .i64 (x1097 : Int))], [⟨b1095, [str a0.Tag, .int .u8 (a0.Ind_0.toNat : Int), .int .u8 (a0.Ind_1.toNat : Int), s1094], 59⟩], [⟨v1115, 9, 1, n1116, i1117⟩], [(Ty.str.row x1114 i1117), (pureF (x1114.length * Ty.str.bytes ≤ 140737488355328)), ((Ty.int .i64).fact (x1097 : Int) [.int .i64 (x1097 : Int)]), (Ty.str.fact a0.Tag [str a0.Tag]), ((Ty.slice ty67).fact a0.Subs [s1094])]⟩ : St) _
   refine at_in (s_tr (s_mv rfl (at_lt (lt_add rfl rfl (by simp only [lo, hi]; omega)) rfl (s_as rfl (at_nil (at_int .i64 (x1097 + 1 : Int) (by simp only [lo, hi]; omega) ?_))))))
   exact at_again (σ := ((List Str) × Nat)) (V := Value × Nat × (List Value)) (lp := fun n s => m62_l1 a0 a1 n s.1 s.2) (S := fun s e => (⟨[(1, .int .u8 (a1.toNat : Int)), (2, .pointer (some (Addr.add ⟨b1095, 0, none⟩ 0))), (5, e.1), (6, .int .i64 (s.2 : Int))], [⟨b1095, [str a0.Tag, .int .u8 (a0.Ind_0.toNat : Int), .int .u8 (a0.Ind_1.toNat : Int), s1094], 59⟩], [⟨e.1, 9, 1, e.2.1, e.2.2⟩], [(Ty.str.row s.1 e.2.2), (pureF (s.1.length * Ty.str.bytes ≤ 140737488355328)), ((Ty.int .i64).fact (s.2 : Int) [.int .i64 (s.2 : Int)]), (Ty.str.fact a0.Tag [str a0.Tag]), ((Ty.slice ty67).fact a0.Subs [s1094])]⟩ : St)) (x1114, x1097 + 1) (v1115, n1116, i1117) hr ⟨⟨rfl, ⟨rfl, ⟨rfl, ⟨rfl, trivial⟩⟩⟩⟩, ⟨[true], rfl⟩, ⟨[true], rfl⟩, ⟨[1, 2, 0, 4, 5], rfl⟩⟩
  replace hr := ineg h1109 hr
  refine at_false rfl (decide_eq_false (by omega)) ?_
  refine at_exit (at_then_exit (at_then_exit (at_in_exit ?_)))
  have hq := oinj hr
  clear hr
  subst hq
  exact at_leaf (v1098, n1099, i1100) ⟨⟨rfl, trivial⟩, ⟨[false], rfl⟩, ⟨[true], rfl⟩, ⟨[0, 1], rfl⟩⟩
 clear hl1105
 intro e
 obtain ⟨v1102, n1103, i1104⟩ := e
 change At _ _ (⟨[(5, v1102)], [], [⟨v1102, 9, 1, n1103, i1104⟩], [(Ty.str.row x1101 i1104), (pureF (x1101.length * Ty.str.bytes ≤ 140737488355328))]⟩ : St) _
 refine s_tsr (s_mv rfl (s_as rfl (s_nt (at_ret ?_))))
 have hq := oinj hr
 clear hr
 subst hq
 refine at_pure 1 rfl (fun hb1128 => ?_)
 refine at_release 0 0 rfl rfl rfl hb1128 ?_
 exact at_return (v1102) [0] hS Tryz.results62 (.cons (.tmp rfl) .nil) rfl rfl ⟨v1102, rfl, rfl⟩
def m26_l1 (a2 : UInt8) (x1133 : (List D_api_Field)) : Nat → (List Str) → Nat → Option (List Str)
  | 0, _, _ => none
  | k + 1, x1136, x1137 =>
    if x1137 < x1133.length then
     (x1133[x1137]?).bind fun x1150 =>
     (m62 x1150 a2).bind fun x1155 =>
     if x1136.length + x1155.length ≤ 8796093022208 then
      m26_l1 a2 x1133 k (x1136 ++ x1155) (x1137 + 1)
     else none
    else
     some x1136
def m26 (a0 : D_api_Record) (a1 : Str) (a2 : UInt8) : Option (List Str) :=
  (m23 (⟨a0.ID, a0.Fields⟩ : D_api_Record) a1).bind fun x1133 =>
  (m26_l1 a2 x1133 (x1133.length + 1) ([] : (List Str)) 0).bind fun x1141 =>
  some x1141
def post26 (r : (List Str)) (v : Value) (fs : List Fact) : Prop := ∃ s1164 : Value, v = s1164 ∧ fs = [((Ty.slice Ty.str).fact r [s1164])]
theorem en26 : Enters Tryz.prog 26 := ⟨_, Tryz.func26, by kernel_rfl, rfl⟩
theorem f26_spec {a0 : D_api_Record} {a1 : Str} {a2 : UInt8} {s1130 : Value} {r : (List Str)} (hr : m26 a0 a1 a2 = some r) : Spec Tryz.prog 26 [.agg #[.int .i64 a0.ID, s1130], str a1, .int .u8 (a2.toNat : Int)] [(ty24.fact a0 [.int .i64 a0.ID, s1130]), (Ty.str.fact a1 [str a1])] (post26 r) := by
 refine spec_start (N := 28) Tryz.func26 (by kernel_rfl) rfl rfl rfl ?_
 intro g hS
 unfold m26 at hr
 refine at_open (A := Unit) 0 rfl (fun _ => True) (fun _ => [((Ty.int .i64).fact a0.ID [.int .i64 a0.ID]), ((Ty.slice ty59).fact a0.Fields [s1130])]) (fun F w h => ⟨(), trivial, ex24 h⟩) (fun _ _ => ?_)
 refine at_inv 0 rfl (fun l1131 => ?_)
 replace l1131 : (-9223372036854775808) ≤ a0.ID ∧ a0.ID ≤ 9223372036854775807 := l1131
 refine s_sr (at_hv rfl ?_)
 refine hv_box (cs := [.int .i64 a0.ID, s1130]) rfl rfl rfl (fun b1132 => ?_)
 refine s_as rfl (s_ntsr (s_as rfl (s_ntsr (at_lt (lt_load_box 0 rfl ti24 rfl rfl rfl rfl rfl) rfl (s_mv rfl ?_)))))
 replace hr := obind hr
 obtain ⟨x1133, h1134, hr⟩ := hr
 refine at_derive [0, 1] (ty24.fact (⟨a0.ID, a0.Fields⟩ : D_api_Record) [.int .i64 a0.ID, s1130]) rfl (fun F w h => mk24 (x := (⟨a0.ID, a0.Fields⟩ : D_api_Record)) h) ?_
 refine at_hv rfl (hv_call0 [0, 4] (f23_spec h1134) rfl rfl rfl rfl ?_)
 rintro s1135 _ ⟨_, rfl, rfl⟩
 refine s_as rfl (s_nt (at_seq (s_sr (s_as rfl (s_nt (at_rownew none 9 1 (at_rownil Ty.str ?_)))))))
 refine at_mkpure (q := (([] : (List Str)).length * Ty.str.bytes ≤ 140737488355328)) (by simp only [List.nil_append, List.cons_append, List.length_cons, List.length_nil, Ty.int_bytes, Ty.u8_bytes, Ty.str_bytes, Ty.slice_bytes, Ty.bool_bytes, nb] <;> omega) ?_
 refine at_int .i64 0 (by simp only [lo, hi]; omega) ?_
 replace hr := obind hr
 obtain ⟨x1141, hl1145, hr⟩ := hr
 refine at_cut (V := Value × Nat × (List Value)) (fun e => (⟨[(7, e.1)], [], [⟨e.1, 9, 1, e.2.1, e.2.2⟩], [(Ty.str.row x1141 e.2.2), (pureF (x1141.length * Ty.str.bytes ≤ 140737488355328))]⟩ : St)) ?_ ?_
 ·refine at_block ?_
  refine at_loopW (σ := ((List Str) × Nat)) (V := Value × Nat × (List Value)) (r := x1141) (fun n s => m26_l1 a2 x1133 n s.1 s.2) (fun s e => (⟨[(2, .int .u8 (a2.toNat : Int)), (7, e.1), (8, s1135), (9, .int .i64 (s.2 : Int))], [], [⟨e.1, 9, 1, e.2.1, e.2.2⟩], [(Ty.str.row s.1 e.2.2), (pureF (s.1.length * Ty.str.bytes ≤ 140737488355328)), ((Ty.int .i64).fact (s.2 : Int) [.int .i64 (s.2 : Int)]), ((Ty.slice ty59).fact x1133 [s1135])]⟩ : St)) (fun _ => rfl) _ (([] : (List Str)), 0) ((.slice none 0 0), 0, []) hl1145 ⟨⟨rfl, ⟨rfl, ⟨rfl, ⟨rfl, trivial⟩⟩⟩⟩, ⟨[false], rfl⟩, ⟨[true], rfl⟩, ⟨[2, 1, 0, 3], rfl⟩⟩ ?_
  clear hr hl1145
  intro n s hr e
  obtain ⟨x1136, x1137⟩ := s
  obtain ⟨v1138, n1139, i1140⟩ := e
  change m26_l1 a2 x1133 (n + 1) x1136 x1137 = some x1141 at hr
  change At _ _ (⟨[(2, .int .u8 (a2.toNat : Int)), (7, v1138), (8, s1135), (9, .int .i64 (x1137 : Int))], [], [⟨v1138, 9, 1, n1139, i1140⟩], [(Ty.str.row x1136 i1140), (pureF (x1136.length * Ty.str.bytes ≤ 140737488355328)), ((Ty.int .i64).fact (x1137 : Int) [.int .i64 (x1137 : Int)]), ((Ty.slice ty59).fact x1133 [s1135])]⟩ : St) _
  rw [m26_l1] at hr
  refine at_seq (s_sr (s_mv rfl (s_mv rfl ?_)))
  refine at_inv 3 rfl (fun i1147 => ?_)
  have l1148 := slice_len i1147
  refine at_lt (lt_flen 3 rfl rfl und22) rfl (at_lt (lt_lss rfl rfl) rfl (s_nt ?_))
  by_cases h1149 : x1137 < x1133.length
  ·replace hr := ipos h1149 hr
   refine at_true rfl (decide_eq_true (by omega)) ?_
   refine at_skip (at_then (at_seq (at_block (at_region (s_mv rfl (s_mv rfl (s_mv rfl ?_)))))))
   replace hr := obind hr
   obtain ⟨x1150, h1151, hr⟩ := hr
   have := (List.getElem?_eq_some_iff.1 h1151).1
   refine at_elem 3 rfl (nat_at' h1151) (fun p1153 ec pa1154 => ?_)
   refine at_open (A := Value) 0 rfl _ _ (fun F w h => op59 h) ?_
   rintro s1152 rfl
   refine at_lt (lt_idx rfl rfl pa1154 und22 ti59) rfl (at_lt (lt_load_peek 3 rfl ti59 rfl rfl rfl rfl rfl) rfl (s_mv rfl ?_))
   replace hr := obind hr
   obtain ⟨x1155, h1156, hr⟩ := hr
   refine at_hv rfl (hv_call0 [2] (f62_spec h1156) rfl rfl rfl rfl ?_)
   rintro s1157 _ ⟨_, rfl, rfl⟩
   replace hr := imust hr
   obtain ⟨h1158, hr⟩ := hr
   refine at_rown 0 5 rfl rfl rfl (fun hn1161 => ?_)
   refine at_hv rfl ?_
   refine hv_append_f 0 0 rfl rfl rfl rfl und34 ti9 rfl rfl (by omega) (by omega) rfl (fun s1159 u1160 => ?_)
   refine at_rowcat 6 0 rfl rfl (s_as rfl (at_nil (at_in (s_tr (s_mv rfl ?_)))))
   refine at_inv 2 rfl (fun il1162 => ?_)
   have l1162 := slice_len il1162
   refine at_lt (lt_add rfl rfl (by simp only [lo, hi]; omega)) rfl (s_as rfl (at_nil ?_))
   refine at_mkpure (q := ((x1136 ++ x1155).length * Ty.str.bytes ≤ 140737488355328)) (by simp only [List.length_append, List.length_cons, List.length_nil, Ty.int_bytes, Ty.u8_bytes, Ty.str_bytes, Ty.slice_bytes, Ty.bool_bytes, nb] <;> omega) ?_
   refine at_int .i64 (x1137 + 1 : Int) (by simp only [lo, hi]; omega) ?_
   exact at_again (σ := ((List Str) × Nat)) (V := Value × Nat × (List Value)) (lp := fun n s => m26_l1 a2 x1133 n s.1 s.2) (S := fun s e => (⟨[(2, .int .u8 (a2.toNat : Int)), (7, e.1), (8, s1135), (9, .int .i64 (s.2 : Int))], [], [⟨e.1, 9, 1, e.2.1, e.2.2⟩], [(Ty.str.row s.1 e.2.2), (pureF (s.1.length * Ty.str.bytes ≤ 140737488355328)), ((Ty.int .i64).fact (s.2 : Int) [.int .i64 (s.2 : Int)]), ((Ty.slice ty59).fact x1133 [s1135])]⟩ : St)) (x1136 ++ x1155, x1137 + 1) (s1159, n1139 + x1155.length, i1140 ++ u1160) hr ⟨⟨rfl, ⟨rfl, ⟨rfl, ⟨rfl, trivial⟩⟩⟩⟩, ⟨[], rfl⟩, ⟨[true], rfl⟩, ⟨[2, 1, 0, 12], rfl⟩⟩
  replace hr := ineg h1149 hr
  refine at_false rfl (decide_eq_false (by omega)) ?_
  refine at_exit (at_then_exit (at_then_exit (at_in_exit ?_)))
  have hq := oinj hr
  clear hr
  subst hq
  exact at_leaf (v1138, n1139, i1140) ⟨⟨rfl, trivial⟩, ⟨[], rfl⟩, ⟨[true], rfl⟩, ⟨[0, 1], rfl⟩⟩
 clear hl1145
 intro e
 obtain ⟨v1142, n1143, i1144⟩ := e
 change At _ _ (⟨[(7, v1142)], [], [⟨v1142, 9, 1, n1143, i1144⟩], [(Ty.str.row x1141 i1144), (pureF (x1141.length * Ty.str.bytes ≤ 140737488355328))]⟩ : St) _
 refine s_tsr (s_mv rfl (s_as rfl (s_nt (at_ret ?_))))
 have hq := oinj hr
 clear hr
 subst hq
 refine at_pure 1 rfl (fun hb1163 => ?_)
 refine at_release 0 0 rfl rfl rfl hb1163 ?_
 exact at_return (v1142) [0] hS Tryz.results26 (.cons (.tmp rfl) .nil) rfl rfl ⟨v1142, rfl, rfl⟩
def m20 (a0 : D_api_Record) (a1 : Str) (a2 : UInt8) : Option (Str × Bool) :=
  (m26 (⟨a0.ID, a0.Fields⟩ : D_api_Record) a1 a2).bind fun x1168 =>
  if x1168.length = 0 then
   some (([] : Str), false)
  else
   (x1168[0]?).bind fun x1174 =>
   some (x1174, true)
def post20 (r : (Str × Bool)) (v : Value) (fs : List Fact) : Prop := v = .tuple #[str r.1, .bool r.2] ∧ fs = [(Ty.str.fact r.1 [str r.1])]
theorem en20 : Enters Tryz.prog 20 := ⟨_, Tryz.func20, by kernel_rfl, rfl⟩
theorem f20_spec {a0 : D_api_Record} {a1 : Str} {a2 : UInt8} {s1165 : Value} {r : (Str × Bool)} (hr : m20 a0 a1 a2 = some r) : Spec Tryz.prog 20 [.agg #[.int .i64 a0.ID, s1165], str a1, .int .u8 (a2.toNat : Int)] [(ty24.fact a0 [.int .i64 a0.ID, s1165]), (Ty.str.fact a1 [str a1])] (post20 r) := by
 refine spec_start (N := 19) Tryz.func20 (by kernel_rfl) rfl rfl rfl ?_
 intro g hS
 unfold m20 at hr
 refine at_open (A := Unit) 0 rfl (fun _ => True) (fun _ => [((Ty.int .i64).fact a0.ID [.int .i64 a0.ID]), ((Ty.slice ty59).fact a0.Fields [s1165])]) (fun F w h => ⟨(), trivial, ex24 h⟩) (fun _ _ => ?_)
 refine at_inv 0 rfl (fun l1166 => ?_)
 replace l1166 : (-9223372036854775808) ≤ a0.ID ∧ a0.ID ≤ 9223372036854775807 := l1166
 refine s_sr (at_hv rfl ?_)
 refine hv_box (cs := [.int .i64 a0.ID, s1165]) rfl rfl rfl (fun b1167 => ?_)
 refine s_as rfl (s_as rfl (s_ntsr (at_lt (lt_load_box 0 rfl ti24 rfl rfl rfl rfl rfl) rfl (s_mv rfl (s_mv rfl ?_)))))
 replace hr := obind hr
 obtain ⟨x1168, h1169, hr⟩ := hr
 refine at_derive [0, 1] (ty24.fact (⟨a0.ID, a0.Fields⟩ : D_api_Record) [.int .i64 a0.ID, s1165]) rfl (fun F w h => mk24 (x := (⟨a0.ID, a0.Fields⟩ : D_api_Record)) h) ?_
 refine at_hv rfl (hv_call0 [0, 4] (f26_spec h1169) rfl rfl rfl rfl ?_)
 rintro s1170 _ ⟨_, rfl, rfl⟩
 refine s_as rfl (s_nt (at_seq (s_sr (s_mv rfl ?_))))
 refine at_inv 0 rfl (fun i1171 => ?_)
 have l1172 := slice_len i1171
 refine at_lt (lt_flen 0 rfl rfl und34) rfl (at_lt (lt_eql rfl rfl) rfl (s_nt ?_))
 by_cases h1173 : x1168.length = 0
 ·replace hr := ipos h1173 hr
  refine at_true rfl (decide_eq_true (by omega)) ?_
  refine s_sr (s_as rfl (s_as rfl (s_nt (at_ret ?_))))
  have hq := oinj hr
  clear hr
  subst hq
  refine at_then_ret ?_
  refine at_str ([] : Str) (by decide) ?_
  exact at_return (.tuple #[str ([] : Str), .bool false]) [0] hS Tryz.results20 (.cons (.tmp rfl) (.cons (.tmp rfl) .nil)) rfl rfl ⟨rfl, rfl⟩
 replace hr := ineg h1173 hr
 refine at_false rfl (decide_eq_false (by omega)) ?_
 refine at_skip (s_tsr (s_mv rfl ?_))
 replace hr := obind hr
 obtain ⟨x1174, h1175, hr⟩ := hr
 have := (List.getElem?_eq_some_iff.1 h1175).1
 refine at_elem 0 rfl (nat_at' (i := 0) h1175) (fun p1176 ec pa1177 => ?_)
 refine at_open (A := Unit) 0 rfl (fun _ => ec = [str x1174]) (fun _ => []) (fun F w h => ⟨(), h.1, by simp⟩) ?_
 rintro _ rfl
 refine at_lt (lt_idx rfl rfl pa1177 und34 ti9) rfl (at_lt (lt_load_peek 1 rfl ti9 rfl rfl rfl rfl rfl) rfl (s_as rfl (s_as rfl (s_nt (at_ret ?_)))))
 have hq := oinj hr
 clear hr
 subst hq
 exact at_return (.tuple #[str x1174, .bool true]) [0] hS Tryz.results20 (.cons (.tmp rfl) (.cons (.tmp rfl) .nil)) rfl rfl ⟨rfl, rfl⟩
def m46_l1 (a0 : D_api_Field) (a1 : D_api_Field) : Nat → Nat → Option (Fl Bool Unit)
  | 0, _ => none
  | k + 1, x1189 =>
    if x1189 < a0.Subs.length then
     (a0.Subs[x1189]?).bind fun x1194 =>
     (a1.Subs[x1189]?).bind fun x1198 =>
     if (decide (((x1194.Code.toNat : Int) : Int) = (x1198.Code.toNat : Int)) && decide (x1194.Value = x1198.Value)) = true then
      m46_l1 a0 a1 k (x1189 + 1)
     else
      some (Fl.ret false)
    else
     some (Fl.go ())
def m46 (a0 : D_api_Field) (a1 : D_api_Field) : Option Bool :=
  if a0.Tag = a1.Tag then
   if (decide (((a0.Ind_0.toNat : Int) : Int) = (a1.Ind_0.toNat : Int)) && decide (((a0.Ind_1.toNat : Int) : Int) = (a1.Ind_1.toNat : Int))) = true then
    if a0.Subs.length = a1.Subs.length then
     (m46_l1 a0 a1 (a0.Subs.length + 1) 0).bind fun r => match r with
     | .ret x => some x
     | .go _ =>
      some true
    else
     some false
   else
    some false
  else
   some false
def post46 (r : Bool) (v : Value) (fs : List Fact) : Prop := v = .bool r ∧ fs = []
theorem en46 : Enters Tryz.prog 46 := ⟨_, Tryz.func46, by kernel_rfl, rfl⟩
theorem f46_spec {a0 : D_api_Field} {a1 : D_api_Field} {s1178 : Value} {s1179 : Value} {r : Bool} (hr : m46 a0 a1 = some r) : Spec Tryz.prog 46 [.agg #[str a0.Tag, .int .u8 (a0.Ind_0.toNat : Int), .int .u8 (a0.Ind_1.toNat : Int), s1178], .agg #[str a1.Tag, .int .u8 (a1.Ind_0.toNat : Int), .int .u8 (a1.Ind_1.toNat : Int), s1179]] [(ty59.fact a0 [str a0.Tag, .int .u8 (a0.Ind_0.toNat : Int), .int .u8 (a0.Ind_1.toNat : Int), s1178]), (ty59.fact a1 [str a1.Tag, .int .u8 (a1.Ind_0.toNat : Int), .int .u8 (a1.Ind_1.toNat : Int), s1179])] (post46 r) := by
 refine spec_start (N := 45) Tryz.func46 (by kernel_rfl) rfl rfl rfl ?_
 intro g hS
 unfold m46 at hr
 refine at_open (A := Unit) 0 rfl (fun _ => True) (fun _ => [(Ty.str.fact a0.Tag [str a0.Tag]), ((Ty.slice ty67).fact a0.Subs [s1178])]) (fun F w h => ⟨(), trivial, ex59 h⟩) (fun _ _ => ?_)
 refine at_open (A := Unit) 3 rfl (fun _ => True) (fun _ => [(Ty.str.fact a1.Tag [str a1.Tag]), ((Ty.slice ty67).fact a1.Subs [s1179])]) (fun F w h => ⟨(), trivial, ex59 h⟩) (fun _ _ => ?_)
 refine s_sr (at_hv rfl ?_)
 refine hv_box (cs := [str a0.Tag, .int .u8 (a0.Ind_0.toNat : Int), .int .u8 (a0.Ind_1.toNat : Int), s1178]) rfl rfl rfl (fun b1180 => ?_)
 refine at_hv rfl ?_
 refine hv_box (cs := [str a1.Tag, .int .u8 (a1.Ind_0.toNat : Int), .int .u8 (a1.Ind_1.toNat : Int), s1179]) rfl rfl rfl (fun b1181 => ?_)
 refine s_as rfl (s_nt (at_seq (s_sr (at_lt (lt_fieldAddr 0 rfl fld59_0 rfl) rfl (at_lt (lt_load_box 1 rfl ti9 rfl rfl rfl rfl rfl) rfl (at_lt (lt_fieldAddr 0 rfl fld59_0 rfl) rfl (at_lt (lt_load_box 0 rfl ti9 rfl rfl rfl rfl rfl) rfl (at_lt (lt_sneq rfl rfl) rfl (s_mv rfl ?_)))))))))
 by_cases h1182 : a0.Tag = a1.Tag
 ·replace hr := ipos h1182 hr
  refine at_on rfl rfl (nt (decide_eq_true h1182)) (at_lt (lt_fieldAddr 1 rfl fld59_1 rfl) rfl (at_on rfl rfl (nt (decide_eq_true h1182)) (at_lt (lt_load_box 1 rfl ti56 rfl rfl rfl rfl rfl) rfl (at_on rfl rfl (nt (decide_eq_true h1182)) (at_lt (lt_fieldAddr 1 rfl fld59_1 rfl) rfl (at_on rfl rfl (nt (decide_eq_true h1182)) (at_lt (lt_load_box 0 rfl ti56 rfl rfl rfl rfl rfl) rfl (at_on rfl rfl (nt (decide_eq_true h1182)) (at_lt (lt_stne rfl rfl eg56 eqt56) rfl ?_)))))))))
  refine at_lt (lt_pick false rfl (nt (decide_eq_true h1182)) rfl) rfl (s_mv rfl ?_)
  by_cases h1183 : (decide (((a0.Ind_0.toNat : Int) : Int) = (a1.Ind_0.toNat : Int)) && decide (((a0.Ind_1.toNat : Int) : Int) = (a1.Ind_1.toNat : Int))) = true
  ·replace hr := ipos h1183 hr
   refine at_on rfl rfl (nt h1183) (at_lt (lt_fieldAddr 3 rfl fld59_2 rfl) rfl (at_on rfl rfl (nt h1183) (at_lt (lt_load_box 1 rfl ti57 rfl rfl rfl rfl rfl) rfl ?_)))
   refine at_inv 3 rfl (fun i1184 => ?_)
   have l1185 := slice_len i1184
   refine at_on rfl rfl (nt h1183) (at_lt (lt_flen 3 rfl rfl und57) rfl (at_on rfl rfl (nt h1183) (at_lt (lt_fieldAddr 3 rfl fld59_2 rfl) rfl (at_on rfl rfl (nt h1183) (at_lt (lt_load_box 0 rfl ti57 rfl rfl rfl rfl rfl) rfl ?_)))))
   refine at_inv 1 rfl (fun i1186 => ?_)
   have l1187 := slice_len i1186
   refine at_on rfl rfl (nt h1183) (at_lt (lt_flen 1 rfl rfl und57) rfl (at_on rfl rfl (nt h1183) (at_lt (lt_neq rfl rfl) rfl (at_lt (lt_pick false rfl (nt h1183) rfl) rfl (s_nt ?_)))))
   by_cases h1188 : a0.Subs.length = a1.Subs.length
   ·replace hr := ipos h1188 hr
    refine at_false rfl (nt (decide_eq_true (by omega))) ?_
    refine at_skip (at_then (at_seq (s_sr (s_as rfl (s_nt (at_int .i64 0 (by simp only [lo, hi]; omega) ?_))))))
    replace hr := obind hr
    obtain ⟨r1190, hl1191, hk1192⟩ := hr
    refine at_cutP (V := (Unit) × (Unit)) (fun v => r1190 = Fl.go v.1) (fun v => (⟨[], [], [], []⟩ : St)) ?_ ?_
    ·refine at_block ?_
     refine at_loopW (σ := Nat) (V := Unit) (r := r1190) (fun n s => m46_l1 a0 a1 n s) (fun s e => (⟨[(2, .pointer (some (Addr.add ⟨b1180, 0, none⟩ 0))), (3, .pointer (some (Addr.add ⟨b1181, 0, none⟩ 0))), (5, .int .i64 (s : Int))], [⟨b1181, [str a1.Tag, .int .u8 (a1.Ind_0.toNat : Int), .int .u8 (a1.Ind_1.toNat : Int), s1179], 59⟩, ⟨b1180, [str a0.Tag, .int .u8 (a0.Ind_0.toNat : Int), .int .u8 (a0.Ind_1.toNat : Int), s1178], 59⟩], [], [((Ty.int .i64).fact (s : Int) [.int .i64 (s : Int)]), (Ty.str.fact a0.Tag [str a0.Tag]), ((Ty.slice ty67).fact a0.Subs [s1178]), (Ty.str.fact a1.Tag [str a1.Tag]), ((Ty.slice ty67).fact a1.Subs [s1179])]⟩ : St)) (fun _ => rfl) _ 0 () hl1191 ⟨⟨rfl, ⟨rfl, ⟨rfl, trivial⟩⟩⟩, ⟨[true, true], rfl⟩, ⟨[], rfl⟩, ⟨[0, 3, 4, 1, 2], rfl⟩⟩ ?_
     clear hl1191
     intro n x1189 hr e
     skip
     skip
     change m46_l1 a0 a1 (n + 1) x1189 = some r1190 at hr
     change At _ _ (⟨[(2, .pointer (some (Addr.add ⟨b1180, 0, none⟩ 0))), (3, .pointer (some (Addr.add ⟨b1181, 0, none⟩ 0))), (5, .int .i64 (x1189 : Int))], [⟨b1181, [str a1.Tag, .int .u8 (a1.Ind_0.toNat : Int), .int .u8 (a1.Ind_1.toNat : Int), s1179], 59⟩, ⟨b1180, [str a0.Tag, .int .u8 (a0.Ind_0.toNat : Int), .int .u8 (a0.Ind_1.toNat : Int), s1178], 59⟩], [], [((Ty.int .i64).fact (x1189 : Int) [.int .i64 (x1189 : Int)]), (Ty.str.fact a0.Tag [str a0.Tag]), ((Ty.slice ty67).fact a0.Subs [s1178]), (Ty.str.fact a1.Tag [str a1.Tag]), ((Ty.slice ty67).fact a1.Subs [s1179])]⟩ : St) _
     rw [m46_l1] at hr
     refine at_seq (s_sr (s_mv rfl (at_lt (lt_fieldAddr 3 rfl fld59_2 rfl) rfl (at_lt (lt_load_box 1 rfl ti57 rfl rfl rfl rfl rfl) rfl (at_lt (lt_flen 2 rfl rfl und57) rfl (at_lt (lt_lss rfl rfl) rfl (s_nt ?_)))))))
     by_cases h1193 : x1189 < a0.Subs.length
     ·replace hr := ipos h1193 hr
      refine at_true rfl (decide_eq_true (by omega)) ?_
      refine at_skip (at_then (at_seq (at_block (at_seq ?_))))
      replace hr := obind hr
      obtain ⟨x1194, h1195, hr⟩ := hr
      have := (List.getElem?_eq_some_iff.1 h1195).1
      refine at_elem 2 rfl (nat_at' h1195) (fun p1196 ec pa1197 => ?_)
      refine at_open (A := Unit) 0 rfl _ _ (fun F w h => op67 h) ?_
      rintro _ rfl
      replace hr := obind hr
      obtain ⟨x1198, h1199, hr⟩ := hr
      have := (List.getElem?_eq_some_iff.1 h1199).1
      refine at_elem 7 rfl (nat_at' h1199) (fun p1200 ec pa1201 => ?_)
      refine at_open (A := Unit) 0 rfl _ _ (fun F w h => op67 h) ?_
      rintro _ rfl
      refine aa_start 11 (by kernel_rfl) ?_
      refine aa_p 0 rfl (lt_fieldAddr 3 rfl fld59_2 rfl) (aa_l 1 rfl (lt_load_box 1 rfl ti57 rfl rfl rfl rfl rfl) (aa_p 2 rfl (lt_move rfl) (aa_p 3 rfl (lt_idx rfl rfl pa1197 und57 ti67) (aa_l 4 rfl (lt_load_peek 5 rfl ti67 rfl rfl rfl rfl rfl) (aa_p 5 rfl (lt_fieldAddr 3 rfl fld59_2 rfl) (aa_l 6 rfl (lt_load_box 0 rfl ti57 rfl rfl rfl rfl rfl) (aa_p 7 rfl (lt_move rfl) (aa_p 8 rfl (lt_idx rfl rfl pa1201 und57 ti67) (aa_l 9 rfl (lt_load_peek 2 rfl ti67 rfl rfl rfl rfl rfl) ?_)))))))))
      refine aa_p 10 rfl (lt_stne rfl rfl eg67 eqt67) ?_
      refine aa_done (by kernel_rfl) (ts_in 0 0 rfl rfl) ?_
      refine at_then ?_
      by_cases h1202 : (decide (((x1194.Code.toNat : Int) : Int) = (x1198.Code.toNat : Int)) && decide (x1194.Value = x1198.Value)) = true
      ·replace hr := ipos h1202 hr
       refine at_false rfl (nt h1202) (at_skip (at_in (s_tr (s_mv rfl (at_lt (lt_add rfl rfl (by simp only [lo, hi]; omega)) rfl (s_as rfl (at_nil (at_int .i64 (x1189 + 1 : Int) (by simp only [lo, hi]; omega) ?_))))))))
       exact at_again (σ := Nat) (V := Unit) (lp := fun n s => m46_l1 a0 a1 n s) (S := fun s e => (⟨[(2, .pointer (some (Addr.add ⟨b1180, 0, none⟩ 0))), (3, .pointer (some (Addr.add ⟨b1181, 0, none⟩ 0))), (5, .int .i64 (s : Int))], [⟨b1181, [str a1.Tag, .int .u8 (a1.Ind_0.toNat : Int), .int .u8 (a1.Ind_1.toNat : Int), s1179], 59⟩, ⟨b1180, [str a0.Tag, .int .u8 (a0.Ind_0.toNat : Int), .int .u8 (a0.Ind_1.toNat : Int), s1178], 59⟩], [], [((Ty.int .i64).fact (s : Int) [.int .i64 (s : Int)]), (Ty.str.fact a0.Tag [str a0.Tag]), ((Ty.slice ty67).fact a0.Subs [s1178]), (Ty.str.fact a1.Tag [str a1.Tag]), ((Ty.slice ty67).fact a1.Subs [s1179])]⟩ : St)) (x1189 + 1) () hr ⟨⟨rfl, ⟨rfl, ⟨rfl, trivial⟩⟩⟩, ⟨[true, true], rfl⟩, ⟨[], rfl⟩, ⟨[0, 8, 9, 10, 11], rfl⟩⟩
      replace hr := ineg h1202 hr
      refine at_true rfl (nf (bf h1202)) (s_sr (s_as rfl (s_nt (at_ret ?_))))
      have hq := oinj hr
      clear hr
      subst hq
      have hq := oinj hk1192
      clear hk1192
      subst hq
      refine at_in_ret (at_then_ret (at_then_ret (at_in_ret (at_then_ret (at_then_ret ?_)))))
      exact at_return (.bool false) [] hS Tryz.results46 (.cons (.tmp rfl) .nil) rfl rfl ⟨rfl, rfl⟩
     replace hr := ineg h1193 hr
     refine at_false rfl (decide_eq_false (by omega)) ?_
     refine at_exit (at_then_exit (at_then_exit (at_in_exit ?_)))
     have hq := oinj hr
     clear hr
     subst hq
     exact at_leafP ((), ()) rfl ⟨trivial, ⟨[false, false], rfl⟩, ⟨[], rfl⟩, ⟨[], rfl⟩⟩
    rintro ⟨_, _⟩ hp
    replace hr := hk1192
    subst hp
    clear hl1191
    change At _ _ (⟨[], [], [], []⟩ : St) _
    refine s_tsr (s_as rfl (s_nt (at_ret ?_)))
    have hq := oinj hr
    clear hr
    subst hq
    exact at_return (.bool true) [] hS Tryz.results46 (.cons (.tmp rfl) .nil) rfl rfl ⟨rfl, rfl⟩
   replace hr := ineg h1188 hr
   refine at_true rfl (nf (decide_eq_false (by omega))) ?_
   refine s_sr (s_as rfl (s_nt (at_ret ?_)))
   have hq := oinj hr
   clear hr
   subst hq
   refine at_then_ret ?_
   exact at_return (.bool false) [] hS Tryz.results46 (.cons (.tmp rfl) .nil) rfl rfl ⟨rfl, rfl⟩
  replace hr := ineg h1183 hr
  refine at_off rfl rfl (nf (bf h1183)) rfl (at_off rfl rfl (nf (bf h1183)) rfl (at_off rfl rfl (nf (bf h1183)) rfl (at_off rfl rfl (nf (bf h1183)) rfl (at_off rfl rfl (nf (bf h1183)) rfl (at_off rfl rfl (nf (bf h1183)) rfl (at_off rfl rfl (nf (bf h1183)) rfl (at_lt (lt_pick true rfl (nf (bf h1183)) rfl) rfl (s_nt (at_true rfl rfl ?_)))))))))
  refine s_sr (s_as rfl (s_nt (at_ret ?_)))
  have hq := oinj hr
  clear hr
  subst hq
  refine at_then_ret ?_
  exact at_return (.bool false) [] hS Tryz.results46 (.cons (.tmp rfl) .nil) rfl rfl ⟨rfl, rfl⟩
 replace hr := ineg h1182 hr
 refine at_off rfl rfl (nf (decide_eq_false h1182)) rfl (at_off rfl rfl (nf (decide_eq_false h1182)) rfl (at_off rfl rfl (nf (decide_eq_false h1182)) rfl (at_off rfl rfl (nf (decide_eq_false h1182)) rfl (at_off rfl rfl (nf (decide_eq_false h1182)) rfl (at_lt (lt_pick true rfl (nf (decide_eq_false h1182)) rfl) rfl (s_mv rfl (at_off rfl rfl rfl rfl (at_off rfl rfl rfl rfl (at_off rfl rfl rfl rfl ?_)))))))))
 refine at_off rfl rfl rfl rfl (at_off rfl rfl rfl rfl (at_off rfl rfl rfl rfl (at_off rfl rfl rfl rfl (at_lt (lt_pick true rfl rfl rfl) rfl (s_nt (at_true rfl rfl (s_sr (s_as rfl (s_nt ?_)))))))))
 refine at_ret ?_
 have hq := oinj hr
 clear hr
 subst hq
 refine at_then_ret ?_
 exact at_return (.bool false) [] hS Tryz.results46 (.cons (.tmp rfl) .nil) rfl rfl ⟨rfl, rfl⟩
def m21_l1 (a0 : (List D_api_Field)) (a1 : (List D_api_Field)) : Nat → Nat → Option (Fl Bool Unit)
  | 0, _ => none
  | k + 1, x1210 =>
    if x1210 < a0.length then
     (a0[x1210]?).bind fun x1215 =>
     (a1[x1210]?).bind fun x1220 =>
     (m46 x1215 x1220).bind fun x1225 =>
     if x1225 = true then
      m21_l1 a0 a1 k (x1210 + 1)
     else
      some (Fl.ret false)
    else
     some (Fl.go ())
def m21 (a0 : (List D_api_Field)) (a1 : (List D_api_Field)) : Option Bool :=
  if a0.length = a1.length then
   (m21_l1 a0 a1 (a0.length + 1) 0).bind fun r => match r with
   | .ret x => some x
   | .go _ =>
    some true
  else
   some false
def post21 (r : Bool) (v : Value) (fs : List Fact) : Prop := v = .bool r ∧ fs = []
theorem en21 : Enters Tryz.prog 21 := ⟨_, Tryz.func21, by kernel_rfl, rfl⟩
theorem f21_spec {a0 : (List D_api_Field)} {a1 : (List D_api_Field)} {w1203 : Value} {w1204 : Value} {r : Bool} (hr : m21 a0 a1 = some r) : Spec Tryz.prog 21 [w1203, w1204] [((Ty.slice ty59).fact a0 [w1203]), ((Ty.slice ty59).fact a1 [w1204])] (post21 r) := by
 refine spec_start (N := 27) Tryz.func21 (by kernel_rfl) rfl rfl rfl ?_
 intro g hS
 unfold m21 at hr
 refine s_sr (s_as rfl (s_nt (at_seq (s_sr (s_mv rfl ?_)))))
 refine at_inv 0 rfl (fun i1205 => ?_)
 have l1206 := slice_len i1205
 refine at_lt (lt_flen 0 rfl rfl und22) rfl (s_mv rfl ?_)
 refine at_inv 1 rfl (fun i1207 => ?_)
 have l1208 := slice_len i1207
 refine at_lt (lt_flen 1 rfl rfl und22) rfl (at_lt (lt_neq rfl rfl) rfl (s_nt ?_))
 by_cases h1209 : a0.length = a1.length
 ·replace hr := ipos h1209 hr
  refine at_false rfl (nt (decide_eq_true (by omega))) ?_
  refine at_skip (at_then (at_seq (s_sr (s_as rfl (s_nt (at_int .i64 0 (by simp only [lo, hi]; omega) ?_))))))
  replace hr := obind hr
  obtain ⟨r1211, hl1212, hk1213⟩ := hr
  refine at_cutP (V := (Unit) × (Unit)) (fun v => r1211 = Fl.go v.1) (fun v => (⟨[], [], [], []⟩ : St)) ?_ ?_
  ·refine at_block ?_
   refine at_loopW (σ := Nat) (V := Unit) (r := r1211) (fun n s => m21_l1 a0 a1 n s) (fun s e => (⟨[(0, w1203), (1, w1204), (5, .int .i64 (s : Int))], [], [], [((Ty.int .i64).fact (s : Int) [.int .i64 (s : Int)]), ((Ty.slice ty59).fact a0 [w1203]), ((Ty.slice ty59).fact a1 [w1204])]⟩ : St)) (fun _ => rfl) _ 0 () hl1212 ⟨⟨rfl, ⟨rfl, ⟨rfl, trivial⟩⟩⟩, ⟨[], rfl⟩, ⟨[], rfl⟩, ⟨[0, 1, 2], rfl⟩⟩ ?_
   clear hl1212
   intro n x1210 hr e
   skip
   skip
   change m21_l1 a0 a1 (n + 1) x1210 = some r1211 at hr
   change At _ _ (⟨[(0, w1203), (1, w1204), (5, .int .i64 (x1210 : Int))], [], [], [((Ty.int .i64).fact (x1210 : Int) [.int .i64 (x1210 : Int)]), ((Ty.slice ty59).fact a0 [w1203]), ((Ty.slice ty59).fact a1 [w1204])]⟩ : St) _
   rw [m21_l1] at hr
   refine at_seq (s_sr (s_mv rfl (s_mv rfl (at_lt (lt_flen 1 rfl rfl und22) rfl (at_lt (lt_lss rfl rfl) rfl (s_nt ?_))))))
   by_cases h1214 : x1210 < a0.length
   ·replace hr := ipos h1214 hr
    refine at_true rfl (decide_eq_true (by omega)) ?_
    refine at_skip (at_then (at_seq (at_block (at_seq ?_))))
    replace hr := obind hr
    obtain ⟨x1215, h1216, hr⟩ := hr
    have := (List.getElem?_eq_some_iff.1 h1216).1
    refine at_elem 1 rfl (nat_at' h1216) (fun p1218 ec pa1219 => ?_)
    refine at_open (A := Value) 0 rfl _ _ (fun F w h => op59 h) ?_
    rintro s1217 rfl
    replace hr := obind hr
    obtain ⟨x1220, h1221, hr⟩ := hr
    have := (List.getElem?_eq_some_iff.1 h1221).1
    refine at_elem 6 rfl (nat_at' h1221) (fun p1223 ec pa1224 => ?_)
    refine at_open (A := Value) 0 rfl _ _ (fun F w h => op59 h) ?_
    rintro s1222 rfl
    replace hr := obind hr
    obtain ⟨x1225, h1226, hr⟩ := hr
    refine aa_start 10 (by kernel_rfl) ?_
    refine aa_p 0 rfl (lt_move rfl) (aa_p 1 rfl (lt_move rfl) (aa_p 2 rfl (lt_idx rfl rfl pa1219 und22 ti59) (aa_l 3 rfl (lt_load_peek 7 rfl ti59 rfl rfl rfl rfl rfl) (aa_p 4 rfl (lt_move rfl) (aa_p 5 rfl (lt_move rfl) (aa_p 6 rfl (lt_idx rfl rfl pa1224 und22 ti59) (aa_l 7 rfl (lt_load_peek 3 rfl ti59 rfl rfl rfl rfl rfl) (aa_one 8 (aa_op rfl rfl ?_)))))))))
    refine hv_call0 [6, 2] (f46_spec h1226) rfl rfl rfl rfl ?_
    rintro _ _ ⟨rfl, rfl⟩
    refine aa_p 9 rfl (lt_not rfl) ?_
    refine aa_done (by kernel_rfl) (ts_in 0 0 rfl rfl) ?_
    refine at_then ?_
    by_cases h1227 : x1225 = true
    ·replace hr := ipos h1227 hr
     refine at_false rfl (nt h1227) (at_skip (at_in (s_tr (s_mv rfl (at_lt (lt_add rfl rfl (by simp only [lo, hi]; omega)) rfl (s_as rfl (at_nil (at_int .i64 (x1210 + 1 : Int) (by simp only [lo, hi]; omega) ?_))))))))
     exact at_again (σ := Nat) (V := Unit) (lp := fun n s => m21_l1 a0 a1 n s) (S := fun s e => (⟨[(0, w1203), (1, w1204), (5, .int .i64 (s : Int))], [], [], [((Ty.int .i64).fact (s : Int) [.int .i64 (s : Int)]), ((Ty.slice ty59).fact a0 [w1203]), ((Ty.slice ty59).fact a1 [w1204])]⟩ : St)) (x1210 + 1) () hr ⟨⟨rfl, ⟨rfl, ⟨rfl, trivial⟩⟩⟩, ⟨[], rfl⟩, ⟨[], rfl⟩, ⟨[0, 10, 11], rfl⟩⟩
    replace hr := ineg h1227 hr
    refine at_true rfl (nf (bf h1227)) (s_sr (s_as rfl (s_nt (at_ret ?_))))
    have hq := oinj hr
    clear hr
    subst hq
    have hq := oinj hk1213
    clear hk1213
    subst hq
    refine at_in_ret (at_then_ret (at_then_ret (at_in_ret (at_then_ret (at_then_ret ?_)))))
    exact at_return (.bool false) [] hS Tryz.results21 (.cons (.tmp rfl) .nil) rfl rfl ⟨rfl, rfl⟩
   replace hr := ineg h1214 hr
   refine at_false rfl (decide_eq_false (by omega)) ?_
   refine at_exit (at_then_exit (at_then_exit (at_in_exit ?_)))
   have hq := oinj hr
   clear hr
   subst hq
   exact at_leafP ((), ()) rfl ⟨trivial, ⟨[], rfl⟩, ⟨[], rfl⟩, ⟨[], rfl⟩⟩
  rintro ⟨_, _⟩ hp
  replace hr := hk1213
  subst hp
  clear hl1212
  change At _ _ (⟨[], [], [], []⟩ : St) _
  refine s_tsr (s_as rfl (s_nt (at_ret ?_)))
  have hq := oinj hr
  clear hr
  subst hq
  exact at_return (.bool true) [] hS Tryz.results21 (.cons (.tmp rfl) .nil) rfl rfl ⟨rfl, rfl⟩
 replace hr := ineg h1209 hr
 refine at_true rfl (nf (decide_eq_false (by omega))) ?_
 refine s_sr (s_as rfl (s_nt (at_ret ?_)))
 have hq := oinj hr
 clear hr
 subst hq
 refine at_then_ret ?_
 exact at_return (.bool false) [] hS Tryz.results21 (.cons (.tmp rfl) .nil) rfl rfl ⟨rfl, rfl⟩
def m116 (a0 : List D_api_Sub) : Option (List D_api_Sub) := if a0.length ≤ 5864062014805 then some a0 else none
theorem m116_len {a0 r : List D_api_Sub} (h : m116 a0 = some r) : r.length ≤ 5864062014805 := by
 unfold m116 at h
 obtain ⟨hb, h⟩ := imust h
 have hq := oinj h
 subst hq
 exact hb
theorem f116_specL {a0 r : List D_api_Sub} {v : Value} {n : Nat} {inner : List Value} (hr : m116 a0 = some r) : SpecG Tryz.prog 116 [v] [⟨v, 67, 2, n, inner⟩] [ty67.row a0 inner] (postCloneL ty67 67 v n inner r) := by
 unfold m116 at hr
 obtain ⟨hb, hr⟩ := imust hr
 obtain rfl := oinj hr
 refine specG_start (N := 8) Tryz.func116 (by kernel_rfl) rfl rfl rfl ?_
 intro g hS
 refine at_rowq 0 rfl (fun A c hv hn => ?_)
 refine at_rown 0 0 rfl rfl rfl (fun hl => ?_)
 simp only at hv hn
 refine s_sr (at_lt (lt_assign rfl) rfl (s_nt (at_seq (s_sr (at_lt (lt_move rfl) rfl ?_)))))
 refine at_lt (lt_nilq (A := A) (n := n) (c := c) (by rw [hv]; rfl) und57) rfl ?_
 refine s_nt ?_
 cases A with
 | none =>
  obtain rfl := hn rfl
  refine at_row0 0 rfl rfl (fun hi => ?_)
  obtain rfl := List.eq_nil_of_length_eq_zero hl.symm
  refine at_true rfl rfl (s_sr (at_lt (lt_assign rfl) rfl (s_nt (at_ret (at_then_ret (at_rownew none 67 2 (at_rownil ty67 ?_)))))))
  exact at_returnG (.slice none 0 0) [true, true] [0] hS Tryz.results116 (.cons (.tmp rfl) .nil) rfl rfl rfl ⟨0, [], rfl, rfl⟩
 | some ad =>
  refine at_false rfl rfl (at_skip (s_tsr (at_hv rfl ?_)))
  refine hv_bslice (cs := []) rfl und57 ti67 rfl rfl rfl rfl rfl (fun s1 => ?_)
  refine at_lt (lt_move rfl) rfl ?_
  refine at_rowone 0 rfl rfl (fun h1 => ?_)
  refine at_hv rfl ?_
  refine hv_append 0 1 rfl rfl rfl rfl und57 ti67 rfl rfl h1 (by omega) (by omega) rfl (fun s2 => ?_)
  refine at_lt (lt_assign rfl) rfl (s_nt (at_ret ?_))
  exact at_returnG s2 [true, true] [0] hS Tryz.results116 (.cons (.tmp rfl) .nil) rfl rfl rfl ⟨0 + n, [] ++ inner, rfl, rfl⟩
theorem f116_specR {a0 r : List D_api_Sub} {v : Value} (hr : m116 a0 = some r) : SpecG Tryz.prog 116 [v] [] [ty67.slice.fact a0 [v]] (postCloneR ty67 67 r) := by
 unfold m116 at hr
 obtain ⟨hb, hr⟩ := imust hr
 obtain rfl := oinj hr
 refine specG_start (N := 8) Tryz.func116 (by kernel_rfl) rfl rfl rfl ?_
 intro g hS
 refine at_slq 0 rfl (fun A c hv hn => ?_)
 refine s_sr (at_lt (lt_assign rfl) rfl (s_nt (at_seq (s_sr (at_lt (lt_move rfl) rfl ?_)))))
 refine at_lt (lt_nilq (A := A) (n := a0.length) (c := c) (by rw [hv]; rfl) und57) rfl ?_
 refine s_nt ?_
 cases A with
 | none =>
  obtain rfl := hn rfl
  refine at_true rfl rfl (s_sr (at_lt (lt_assign rfl) rfl (s_nt (at_ret (at_then_ret (at_rownew none 67 2 (at_rownil ty67 ?_)))))))
  exact at_returnG (.slice none 0 0) [true] [0] hS Tryz.results116 (.cons (.tmp rfl) .nil) rfl rfl rfl ⟨0, [], rfl, rfl⟩
 | some ad =>
  refine at_false rfl rfl (at_skip (s_tsr (at_hv rfl ?_)))
  refine hv_bslice (cs := []) rfl und57 ti67 rfl rfl rfl rfl rfl (fun s1 => ?_)
  refine at_lt (lt_move rfl) rfl (at_hv rfl ?_)
  refine hv_append_f 0 0 rfl rfl rfl rfl und57 ti67 rfl rfl (by omega) (by omega) rfl (fun s2 u => ?_)
  refine at_lt (lt_assign rfl) rfl (s_nt (at_ret ?_))
  exact at_returnG s2 [true] [0] hS Tryz.results116 (.cons (.tmp rfl) .nil) rfl rfl rfl ⟨0 + a0.length, [] ++ u, rfl, rfl⟩

def m60 (a0 : D_api_Field) : Option D_api_Field :=
  (m116 a0.Subs).bind fun x1231 =>
  some (⟨a0.Tag, a0.Ind_0, a0.Ind_1, x1231⟩ : D_api_Field)
def post60 (r : D_api_Field) (v : Value) (fs : List Fact) : Prop := ∃ s1238 : Value, v = .agg #[str r.Tag, .int .u8 (r.Ind_0.toNat : Int), .int .u8 (r.Ind_1.toNat : Int), s1238] ∧ fs = [(ty59.fact r [str r.Tag, .int .u8 (r.Ind_0.toNat : Int), .int .u8 (r.Ind_1.toNat : Int), s1238])]
theorem en60 : Enters Tryz.prog 60 := ⟨_, Tryz.func60, by kernel_rfl, rfl⟩
theorem f60_spec {a0 : D_api_Field} {s1228 : Value} {r : D_api_Field} (hr : m60 a0 = some r) : Spec Tryz.prog 60 [.agg #[str a0.Tag, .int .u8 (a0.Ind_0.toNat : Int), .int .u8 (a0.Ind_1.toNat : Int), s1228]] [(ty59.fact a0 [str a0.Tag, .int .u8 (a0.Ind_0.toNat : Int), .int .u8 (a0.Ind_1.toNat : Int), s1228])] (post60 r) := by
 refine spec_start (N := 8) Tryz.func60 (by kernel_rfl) rfl rfl rfl ?_
 intro g hS
 unfold m60 at hr
 refine at_open (A := Unit) 0 rfl (fun _ => True) (fun _ => [(Ty.str.fact a0.Tag [str a0.Tag]), ((Ty.slice ty67).fact a0.Subs [s1228])]) (fun F w h => ⟨(), trivial, ex59 h⟩) (fun _ _ => ?_)
 refine s_sr (at_hv rfl ?_)
 refine hv_box (cs := [str a0.Tag, .int .u8 (a0.Ind_0.toNat : Int), .int .u8 (a0.Ind_1.toNat : Int), s1228]) rfl rfl rfl (fun b1229 => ?_)
 refine at_hv rfl ?_
 refine hv_alloc (cs := [str ([] : Str), .int .u8 0, .int .u8 0, (.slice none 0 0)]) ti59 rfl rfl (fun b1230 => ?_)
 refine s_ntsr (at_lt (lt_fieldAddr 3 rfl fld59_2 rfl) rfl (at_lt (lt_load_box 1 rfl ti57 rfl rfl rfl rfl rfl) rfl ?_))
 replace hr := obind hr
 obtain ⟨x1231, h1232, hr⟩ := hr
 refine at_hv rfl (hv_callG0 [] [1] (f116_specR h1232) rfl rfl rfl rfl rfl rfl ?_)
 rintro s1234 _ _ ⟨n1235, i1236, rfl, rfl⟩
 refine at_lt (lt_fieldAddr 3 rfl fld59_2 rfl) rfl ?_
 refine at_rowv 0 rfl (fun ho1237 => ?_)
 replace ho1237 := row_one (by obtain ⟨a, c, h⟩ := ho1237; exact ⟨a, _, c, h⟩)
 refine at_hv rfl (hv_store1 1 (cs' := [str a0.Tag, .int .u8 (a0.Ind_0.toNat : Int), .int .u8 (a0.Ind_1.toNat : Int), s1234]) rfl rfl ti57 rfl rfl rfl rfl ho1237 (s_ntsr (at_lt (lt_load_box 1 rfl ti59 rfl rfl rfl rfl rfl) rfl (at_hv rfl (hv_store_box 0 (cs' := [str a0.Tag, .int .u8 (a0.Ind_0.toNat : Int), .int .u8 (a0.Ind_1.toNat : Int), s1234]) rfl rfl ti59 rfl rfl rfl rfl (allc rfl (allc rfl (allc rfl (allc ho1237 rfl)))) (s_nt (at_ret ?_)))))))
 have hq := oinj hr
 clear hr
 subst hq
 refine at_release 0 0 rfl rfl rfl (by have := m116_len h1232; simp only [ty67_bytes] <;> omega) ?_
 refine at_derive [2, 0] (ty59.fact (⟨a0.Tag, a0.Ind_0, a0.Ind_1, x1231⟩ : D_api_Field) [str a0.Tag, .int .u8 (a0.Ind_0.toNat : Int), .int .u8 (a0.Ind_1.toNat : Int), s1234]) rfl (fun F w h => mk59 (x := (⟨a0.Tag, a0.Ind_0, a0.Ind_1, x1231⟩ : D_api_Field)) h) ?_
 exact at_return (.agg #[str a0.Tag, .int .u8 (a0.Ind_0.toNat : Int), .int .u8 (a0.Ind_1.toNat : Int), s1234]) [0] hS Tryz.results60 (.cons (.cell 0 rfl ti59 rfl rfl rfl rfl) .nil) rfl rfl ⟨s1234, rfl, rfl⟩
def m22_l1 (a0 : D_api_Record) (a1 : Str) : Nat → (List D_api_Field) → Nat → Option (List D_api_Field)
  | 0, _, _ => none
  | k + 1, x1244, x1245 =>
    if x1245 < a0.Fields.length then
     (a0.Fields[x1245]?).bind fun x1256 =>
     Option.bind (α := (List D_api_Field)) (
      if x1256.Tag = a1 then
       (m60 (⟨x1256.Tag, x1256.Ind_0, x1256.Ind_1, x1256.Subs⟩ : D_api_Field)).bind fun x1269 =>
       if x1244.length + 1 ≤ 2932031007402 then
        some (x1244 ++ [x1269])
       else none
      else
       some x1244
     ) fun x1263 =>
     m22_l1 a0 a1 k x1263 (x1245 + 1)
    else
     some x1244
def m22 (a0 : D_api_Record) (a1 : Str) : Option (List D_api_Field) :=
  (m22_l1 a0 a1 (a0.Fields.length + 1) ([] : (List D_api_Field)) 0).bind fun x1249 =>
  some x1249
def post22 (r : (List D_api_Field)) (v : Value) (fs : List Fact) : Prop := ∃ s1278 : Value, v = s1278 ∧ fs = [((Ty.slice ty59).fact r [s1278])]
theorem en22 : Enters Tryz.prog 22 := ⟨_, Tryz.func22, by kernel_rfl, rfl⟩
theorem f22_spec {a0 : D_api_Record} {a1 : Str} {s1239 : Value} {r : (List D_api_Field)} (hr : m22 a0 a1 = some r) : Spec Tryz.prog 22 [.agg #[.int .i64 a0.ID, s1239], str a1] [(ty24.fact a0 [.int .i64 a0.ID, s1239]), (Ty.str.fact a1 [str a1])] (post22 r) := by
 refine spec_start (N := 26) Tryz.func22 (by kernel_rfl) rfl rfl rfl ?_
 intro g hS
 unfold m22 at hr
 refine at_open (A := Unit) 0 rfl (fun _ => True) (fun _ => [((Ty.int .i64).fact a0.ID [.int .i64 a0.ID]), ((Ty.slice ty59).fact a0.Fields [s1239])]) (fun F w h => ⟨(), trivial, ex24 h⟩) (fun _ _ => ?_)
 refine at_inv 0 rfl (fun l1240 => ?_)
 replace l1240 : (-9223372036854775808) ≤ a0.ID ∧ a0.ID ≤ 9223372036854775807 := l1240
 refine s_sr (at_hv rfl ?_)
 refine hv_box (cs := [.int .i64 a0.ID, s1239]) rfl rfl rfl (fun b1241 => ?_)
 refine s_as rfl (s_ntsr (s_as rfl (s_nt (at_seq (s_sr (at_lt (lt_fieldAddr 1 rfl fld24_1 rfl) rfl (at_lt (lt_load_box 0 rfl ti22 rfl rfl rfl rfl rfl) rfl ?_)))))))
 refine at_inv 1 rfl (fun i1242 => ?_)
 have l1243 := slice_len i1242
 refine at_lt (lt_flen 1 rfl rfl und22) rfl (s_mv rfl (s_nt (at_rownew none 59 4 (at_rownil ty59 ?_))))
 refine at_mkpure (q := (([] : (List D_api_Field)).length * ty59.bytes ≤ 140737488355328)) (by simp only [List.nil_append, List.cons_append, List.length_cons, List.length_nil, ty59_bytes] <;> omega) ?_
 refine at_int .i64 0 (by simp only [lo, hi]; omega) ?_
 replace hr := obind hr
 obtain ⟨x1249, hl1253, hr⟩ := hr
 refine at_cut (V := Value × Nat × (List Value)) (fun e => (⟨[(5, e.1)], [], [⟨e.1, 59, 4, e.2.1, e.2.2⟩], [(ty59.row x1249 e.2.2), (pureF (x1249.length * ty59.bytes ≤ 140737488355328))]⟩ : St)) ?_ ?_
 ·refine at_block ?_
  refine at_loopW (σ := ((List D_api_Field) × Nat)) (V := Value × Nat × (List Value)) (r := x1249) (fun n s => m22_l1 a0 a1 n s.1 s.2) (fun s e => (⟨[(1, str a1), (5, e.1), (9, s1239), (10, .int .i64 (a0.Fields.length : Int)), (11, .int .i64 (s.2 : Int))], [], [⟨e.1, 59, 4, e.2.1, e.2.2⟩], [(ty59.row s.1 e.2.2), (pureF (s.1.length * ty59.bytes ≤ 140737488355328)), ((Ty.int .i64).fact (s.2 : Int) [.int .i64 (s.2 : Int)]), (Ty.str.fact a1 [str a1]), ((Ty.slice ty59).fact a0.Fields [s1239])]⟩ : St)) (fun _ => rfl) _ (([] : (List D_api_Field)), 0) ((.slice none 0 0), 0, []) hl1253 ⟨⟨rfl, ⟨rfl, ⟨rfl, ⟨rfl, ⟨rfl, trivial⟩⟩⟩⟩⟩, ⟨[false], rfl⟩, ⟨[true], rfl⟩, ⟨[2, 1, 0, 6, 4], rfl⟩⟩ ?_
  clear hr hl1253
  intro n s hr e
  obtain ⟨x1244, x1245⟩ := s
  obtain ⟨v1246, n1247, i1248⟩ := e
  change m22_l1 a0 a1 (n + 1) x1244 x1245 = some x1249 at hr
  change At _ _ (⟨[(1, str a1), (5, v1246), (9, s1239), (10, .int .i64 (a0.Fields.length : Int)), (11, .int .i64 (x1245 : Int))], [], [⟨v1246, 59, 4, n1247, i1248⟩], [(ty59.row x1244 i1248), (pureF (x1244.length * ty59.bytes ≤ 140737488355328)), ((Ty.int .i64).fact (x1245 : Int) [.int .i64 (x1245 : Int)]), (Ty.str.fact a1 [str a1]), ((Ty.slice ty59).fact a0.Fields [s1239])]⟩ : St) _
  rw [m22_l1] at hr
  refine s_sr (at_lt (lt_lss rfl rfl) rfl (s_nt (at_seq ?_)))
  by_cases h1255 : x1245 < a0.Fields.length
  ·replace hr := ipos h1255 hr
   refine at_true rfl (decide_eq_true (by omega)) ?_
   refine at_skip (at_then (at_seq (at_block (s_sr ?_))))
   replace hr := obind hr
   obtain ⟨x1256, h1257, hr⟩ := hr
   have := (List.getElem?_eq_some_iff.1 h1257).1
   refine at_elem 4 rfl (nat_at' h1257) (fun p1259 ec pa1260 => ?_)
   refine at_open (A := Value) 0 rfl _ _ (fun F w h => op59 h) ?_
   rintro s1258 rfl
   refine at_lt (lt_idx rfl rfl pa1260 und22 ti59) rfl (at_lt (lt_load_peek 3 rfl ti59 rfl rfl rfl rfl rfl) rfl (at_hv rfl ?_))
   refine hv_alloc (cs := [str ([] : Str), .int .u8 0, .int .u8 0, (.slice none 0 0)]) ti59 rfl rfl (fun b1261 => ?_)
   refine at_one 1 rfl (fun ho1262 => ?_)
   refine at_hv rfl (hv_store_box 0 (cs' := [str x1256.Tag, .int .u8 (x1256.Ind_0.toNat : Int), .int .u8 (x1256.Ind_1.toNat : Int), s1258]) rfl rfl ti59 rfl rfl rfl rfl (allc rfl (allc rfl (allc rfl (allc ho1262 rfl)))) (s_ntsr (at_lt (lt_fieldAddr 0 rfl fld59_0 rfl) rfl (at_lt (lt_load_box 0 rfl ti9 rfl rfl rfl rfl rfl) rfl (s_mv rfl (at_lt (lt_seql rfl rfl) rfl (s_nt ?_)))))))
   replace hr := obind hr
   obtain ⟨x1263, hc1267, hr⟩ := hr
   refine at_cut (V := Value × Nat × (List Value)) (fun e => (⟨[(1, str a1), (5, e.1), (9, s1239), (10, .int .i64 (a0.Fields.length : Int)), (11, .int .i64 (x1245 : Int))], [], [⟨e.1, 59, 4, e.2.1, e.2.2⟩], [(ty59.row x1263 e.2.2), (pureF (x1263.length * ty59.bytes ≤ 140737488355328)), (Ty.str.fact a1 [str a1]), ((Ty.slice ty59).fact a0.Fields [s1239]), ((Ty.int .i64).fact (x1245 : Int) [.int .i64 (x1245 : Int)])]⟩ : St)) ?_ ?_
   ·clear hr
    have hr := hc1267
    clear hc1267
    by_cases h1268 : x1256.Tag = a1
    ·replace hr := ipos h1268 hr
     refine at_true rfl (decide_eq_true h1268) (at_region (s_mv rfl (at_lt (lt_load_box 0 rfl ti59 rfl rfl rfl rfl rfl) rfl ?_)))
     replace hr := obind hr
     obtain ⟨x1269, h1270, hr⟩ := hr
     refine at_derive [0, 1] (ty59.fact (⟨x1256.Tag, x1256.Ind_0, x1256.Ind_1, x1256.Subs⟩ : D_api_Field) [str x1256.Tag, .int .u8 (x1256.Ind_0.toNat : Int), .int .u8 (x1256.Ind_1.toNat : Int), s1258]) rfl (fun F w h => mk59 (x := (⟨x1256.Tag, x1256.Ind_0, x1256.Ind_1, x1256.Subs⟩ : D_api_Field)) h) ?_
     refine at_hv rfl (hv_call0 [0] (f60_spec h1270) rfl rfl rfl rfl ?_)
     rintro _ _ ⟨s1271, rfl, rfl⟩
     refine at_open (A := Unit) 0 rfl (fun _ => True) (fun _ => [(Ty.str.fact x1269.Tag [str x1269.Tag]), ((Ty.slice ty67).fact x1269.Subs [s1271])]) (fun F w h => ⟨(), trivial, ex59 h⟩) (fun _ _ => ?_)
     refine at_hv rfl ?_
     refine hv_bslice (cs := [str x1269.Tag, .int .u8 (x1269.Ind_0.toNat : Int), .int .u8 (x1269.Ind_1.toNat : Int), s1271]) rfl und22 ti59 rfl rfl rfl rfl rfl (fun s1272 => ?_)
     replace hr := imust hr
     obtain ⟨h1273, hr⟩ := hr
     refine at_rown 1 8 rfl rfl rfl (fun hn1275 => ?_)
     refine at_one 1 rfl (fun ho1276 => ?_)
     refine at_hv rfl ?_
     refine hv_append 1 0 rfl rfl rfl rfl und22 ti59 rfl rfl (allc rfl (allc rfl (allc rfl (allc ho1276 rfl)))) (by omega) (by omega) rfl (fun s1274 => ?_)
     refine at_rowsnoc 8 2 rfl rfl (s_as rfl (at_nil ?_))
     have hq := oinj hr
     clear hr
     subst hq
     refine at_mkpure (q := ((x1244 ++ [x1269]).length * ty59.bytes ≤ 140737488355328)) (by simp only [List.length_append, List.length_cons, List.length_nil, ty59_bytes] <;> omega) ?_
     exact at_leaf (s1274, n1247 + 1, i1248 ++ [str x1269.Tag, .int .u8 (x1269.Ind_0.toNat : Int), .int .u8 (x1269.Ind_1.toNat : Int), s1271]) ⟨⟨rfl, ⟨rfl, ⟨rfl, ⟨rfl, ⟨rfl, trivial⟩⟩⟩⟩⟩, ⟨[false], rfl⟩, ⟨[false, true], rfl⟩, ⟨[1, 0, 13, 14, 12], rfl⟩⟩
    replace hr := ineg h1268 hr
    refine at_false rfl (decide_eq_false h1268) (at_skip ?_)
    have hq := oinj hr
    clear hr
    subst hq
    exact at_leaf (v1246, n1247, i1248) ⟨⟨rfl, ⟨rfl, ⟨rfl, ⟨rfl, ⟨rfl, trivial⟩⟩⟩⟩⟩, ⟨[false], rfl⟩, ⟨[true], rfl⟩, ⟨[4, 5, 7, 8, 6], rfl⟩⟩
   clear hc1267
   intro e
   obtain ⟨v1264, n1265, i1266⟩ := e
   change At _ _ (⟨[(1, str a1), (5, v1264), (9, s1239), (10, .int .i64 (a0.Fields.length : Int)), (11, .int .i64 (x1245 : Int))], [], [⟨v1264, 59, 4, n1265, i1266⟩], [(ty59.row x1263 i1266), (pureF (x1263.length * ty59.bytes ≤ 140737488355328)), (Ty.str.fact a1 [str a1]), ((Ty.slice ty59).fact a0.Fields [s1239]), ((Ty.int .i64).fact (x1245 : Int) [.int .i64 (x1245 : Int)])]⟩ : St) _
   refine at_in (s_tr (at_lt (lt_add rfl rfl (by simp only [lo, hi]; omega)) rfl (s_mv rfl (at_nil (at_int .i64 (x1245 + 1 : Int) (by simp only [lo, hi]; omega) ?_)))))
   exact at_again (σ := ((List D_api_Field) × Nat)) (V := Value × Nat × (List Value)) (lp := fun n s => m22_l1 a0 a1 n s.1 s.2) (S := fun s e => (⟨[(1, str a1), (5, e.1), (9, s1239), (10, .int .i64 (a0.Fields.length : Int)), (11, .int .i64 (s.2 : Int))], [], [⟨e.1, 59, 4, e.2.1, e.2.2⟩], [(ty59.row s.1 e.2.2), (pureF (s.1.length * ty59.bytes ≤ 140737488355328)), ((Ty.int .i64).fact (s.2 : Int) [.int .i64 (s.2 : Int)]), (Ty.str.fact a1 [str a1]), ((Ty.slice ty59).fact a0.Fields [s1239])]⟩ : St)) (x1263, x1245 + 1) (v1264, n1265, i1266) hr ⟨⟨rfl, ⟨rfl, ⟨rfl, ⟨rfl, ⟨rfl, trivial⟩⟩⟩⟩⟩, ⟨[], rfl⟩, ⟨[true], rfl⟩, ⟨[1, 2, 0, 3, 4], rfl⟩⟩
  replace hr := ineg h1255 hr
  refine at_false rfl (decide_eq_false (by omega)) ?_
  refine at_exit (at_then_exit (at_then_exit (at_in_exit ?_)))
  have hq := oinj hr
  clear hr
  subst hq
  exact at_leaf (v1246, n1247, i1248) ⟨⟨rfl, trivial⟩, ⟨[], rfl⟩, ⟨[true], rfl⟩, ⟨[0, 1], rfl⟩⟩
 clear hl1253
 intro e
 obtain ⟨v1250, n1251, i1252⟩ := e
 change At _ _ (⟨[(5, v1250)], [], [⟨v1250, 59, 4, n1251, i1252⟩], [(ty59.row x1249 i1252), (pureF (x1249.length * ty59.bytes ≤ 140737488355328))]⟩ : St) _
 refine s_tsr (s_mv rfl (s_as rfl (s_nt (at_ret ?_))))
 have hq := oinj hr
 clear hr
 subst hq
 refine at_pure 1 rfl (fun hb1277 => ?_)
 refine at_release 0 0 rfl rfl rfl hb1277 ?_
 exact at_return (v1250) [0] hS Tryz.results22 (.cons (.tmp rfl) .nil) rfl rfl ⟨v1250, rfl, rfl⟩
def m24_l1 (a0 : (List Str)) (a1 : (List Str)) : Nat → Nat → Option (Fl Bool Unit)
  | 0, _ => none
  | k + 1, x1286 =>
    if x1286 < a0.length then
     (a0[x1286]?).bind fun x1291 =>
     (a1[x1286]?).bind fun x1295 =>
     if x1291 = x1295 then
      m24_l1 a0 a1 k (x1286 + 1)
     else
      some (Fl.ret false)
    else
     some (Fl.go ())
def m24 (a0 : (List Str)) (a1 : (List Str)) : Option Bool :=
  if a0.length = a1.length then
   (m24_l1 a0 a1 (a0.length + 1) 0).bind fun r => match r with
   | .ret x => some x
   | .go _ =>
    some true
  else
   some false
def post24 (r : Bool) (v : Value) (fs : List Fact) : Prop := v = .bool r ∧ fs = []
theorem en24 : Enters Tryz.prog 24 := ⟨_, Tryz.func24, by kernel_rfl, rfl⟩
theorem f24_spec {a0 : (List Str)} {a1 : (List Str)} {w1279 : Value} {w1280 : Value} {r : Bool} (hr : m24 a0 a1 = some r) : Spec Tryz.prog 24 [w1279, w1280] [((Ty.slice Ty.str).fact a0 [w1279]), ((Ty.slice Ty.str).fact a1 [w1280])] (post24 r) := by
 refine spec_start (N := 26) Tryz.func24 (by kernel_rfl) rfl rfl rfl ?_
 intro g hS
 unfold m24 at hr
 refine s_sr (s_as rfl (s_nt (at_seq (s_sr (s_mv rfl ?_)))))
 refine at_inv 0 rfl (fun i1281 => ?_)
 have l1282 := slice_len i1281
 refine at_lt (lt_flen 0 rfl rfl und34) rfl (s_mv rfl ?_)
 refine at_inv 1 rfl (fun i1283 => ?_)
 have l1284 := slice_len i1283
 refine at_lt (lt_flen 1 rfl rfl und34) rfl (at_lt (lt_neq rfl rfl) rfl (s_nt ?_))
 by_cases h1285 : a0.length = a1.length
 ·replace hr := ipos h1285 hr
  refine at_false rfl (nt (decide_eq_true (by omega))) ?_
  refine at_skip (at_then (at_seq (s_sr (s_as rfl (s_nt (at_int .i64 0 (by simp only [lo, hi]; omega) ?_))))))
  replace hr := obind hr
  obtain ⟨r1287, hl1288, hk1289⟩ := hr
  refine at_cutP (V := (Unit) × (Unit)) (fun v => r1287 = Fl.go v.1) (fun v => (⟨[], [], [], []⟩ : St)) ?_ ?_
  ·refine at_block ?_
   refine at_loopW (σ := Nat) (V := Unit) (r := r1287) (fun n s => m24_l1 a0 a1 n s) (fun s e => (⟨[(0, w1279), (1, w1280), (5, .int .i64 (s : Int))], [], [], [((Ty.int .i64).fact (s : Int) [.int .i64 (s : Int)]), ((Ty.slice Ty.str).fact a0 [w1279]), ((Ty.slice Ty.str).fact a1 [w1280])]⟩ : St)) (fun _ => rfl) _ 0 () hl1288 ⟨⟨rfl, ⟨rfl, ⟨rfl, trivial⟩⟩⟩, ⟨[], rfl⟩, ⟨[], rfl⟩, ⟨[0, 1, 2], rfl⟩⟩ ?_
   clear hl1288
   intro n x1286 hr e
   skip
   skip
   change m24_l1 a0 a1 (n + 1) x1286 = some r1287 at hr
   change At _ _ (⟨[(0, w1279), (1, w1280), (5, .int .i64 (x1286 : Int))], [], [], [((Ty.int .i64).fact (x1286 : Int) [.int .i64 (x1286 : Int)]), ((Ty.slice Ty.str).fact a0 [w1279]), ((Ty.slice Ty.str).fact a1 [w1280])]⟩ : St) _
   rw [m24_l1] at hr
   refine at_seq (s_sr (s_mv rfl (s_mv rfl (at_lt (lt_flen 1 rfl rfl und34) rfl (at_lt (lt_lss rfl rfl) rfl (s_nt ?_))))))
   by_cases h1290 : x1286 < a0.length
   ·replace hr := ipos h1290 hr
    refine at_true rfl (decide_eq_true (by omega)) ?_
    refine at_skip (at_then (at_seq (at_block (at_seq ?_))))
    replace hr := obind hr
    obtain ⟨x1291, h1292, hr⟩ := hr
    have := (List.getElem?_eq_some_iff.1 h1292).1
    refine at_elem 1 rfl (nat_at' h1292) (fun p1293 ec pa1294 => ?_)
    refine at_open (A := Unit) 0 rfl (fun _ => ec = [str x1291]) (fun _ => []) (fun F w h => ⟨(), h.1, by simp⟩) ?_
    rintro _ rfl
    replace hr := obind hr
    obtain ⟨x1295, h1296, hr⟩ := hr
    have := (List.getElem?_eq_some_iff.1 h1296).1
    refine at_elem 4 rfl (nat_at' h1296) (fun p1297 ec pa1298 => ?_)
    refine at_open (A := Unit) 0 rfl (fun _ => ec = [str x1295]) (fun _ => []) (fun F w h => ⟨(), h.1, by simp⟩) ?_
    rintro _ rfl
    refine aa_start 9 (by kernel_rfl) ?_
    refine aa_p 0 rfl (lt_move rfl) (aa_p 1 rfl (lt_move rfl) (aa_p 2 rfl (lt_idx rfl rfl pa1294 und34 ti9) (aa_l 3 rfl (lt_load_peek 3 rfl ti9 rfl rfl rfl rfl rfl) (aa_p 4 rfl (lt_move rfl) (aa_p 5 rfl (lt_move rfl) (aa_p 6 rfl (lt_idx rfl rfl pa1298 und34 ti9) (aa_l 7 rfl (lt_load_peek 1 rfl ti9 rfl rfl rfl rfl rfl) (aa_p 8 rfl (lt_sneq rfl rfl) ?_))))))))
    refine aa_done (by kernel_rfl) (ts_in 0 0 rfl rfl) ?_
    refine at_then ?_
    by_cases h1299 : x1291 = x1295
    ·replace hr := ipos h1299 hr
     refine at_false rfl (nt (decide_eq_true h1299)) (at_skip (at_in (s_tr (s_mv rfl (at_lt (lt_add rfl rfl (by simp only [lo, hi]; omega)) rfl (s_as rfl (at_nil (at_int .i64 (x1286 + 1 : Int) (by simp only [lo, hi]; omega) ?_))))))))
     exact at_again (σ := Nat) (V := Unit) (lp := fun n s => m24_l1 a0 a1 n s) (S := fun s e => (⟨[(0, w1279), (1, w1280), (5, .int .i64 (s : Int))], [], [], [((Ty.int .i64).fact (s : Int) [.int .i64 (s : Int)]), ((Ty.slice Ty.str).fact a0 [w1279]), ((Ty.slice Ty.str).fact a1 [w1280])]⟩ : St)) (x1286 + 1) () hr ⟨⟨rfl, ⟨rfl, ⟨rfl, trivial⟩⟩⟩, ⟨[], rfl⟩, ⟨[], rfl⟩, ⟨[0, 6, 7], rfl⟩⟩
    replace hr := ineg h1299 hr
    refine at_true rfl (nf (decide_eq_false h1299)) (s_sr (s_as rfl (s_nt (at_ret ?_))))
    have hq := oinj hr
    clear hr
    subst hq
    have hq := oinj hk1289
    clear hk1289
    subst hq
    refine at_in_ret (at_then_ret (at_then_ret (at_in_ret (at_then_ret (at_then_ret ?_)))))
    exact at_return (.bool false) [] hS Tryz.results24 (.cons (.tmp rfl) .nil) rfl rfl ⟨rfl, rfl⟩
   replace hr := ineg h1290 hr
   refine at_false rfl (decide_eq_false (by omega)) ?_
   refine at_exit (at_then_exit (at_then_exit (at_in_exit ?_)))
   have hq := oinj hr
   clear hr
   subst hq
   exact at_leafP ((), ()) rfl ⟨trivial, ⟨[], rfl⟩, ⟨[], rfl⟩, ⟨[], rfl⟩⟩
  rintro ⟨_, _⟩ hp
  replace hr := hk1289
  subst hp
  clear hl1288
  change At _ _ (⟨[], [], [], []⟩ : St) _
  refine s_tsr (s_as rfl (s_nt (at_ret ?_)))
  have hq := oinj hr
  clear hr
  subst hq
  exact at_return (.bool true) [] hS Tryz.results24 (.cons (.tmp rfl) .nil) rfl rfl ⟨rfl, rfl⟩
 replace hr := ineg h1285 hr
 refine at_true rfl (nf (decide_eq_false (by omega))) ?_
 refine s_sr (s_as rfl (s_nt (at_ret ?_)))
 have hq := oinj hr
 clear hr
 subst hq
 refine at_then_ret ?_
 exact at_return (.bool false) [] hS Tryz.results24 (.cons (.tmp rfl) .nil) rfl rfl ⟨rfl, rfl⟩
def m5 (a0 : D_api_Record) (a1 : Str) (a2 : UInt8) : Option Bool :=
  (m11).bind fun x1303 =>
  if x1303 = true then
   (m12 (⟨a0.ID, a0.Fields⟩ : D_api_Record) 12).bind fun x1306 =>
   if x1306 = true then
    if 20 < a1.length then
     some true
    else
     (m19 (⟨a0.ID, a0.Fields⟩ : D_api_Record) a1 a2).bind fun x1311 =>
     (m20 (⟨a0.ID, a0.Fields⟩ : D_api_Record) a1 a2).bind fun x1313 =>
     (m22 (⟨a0.ID, a0.Fields⟩ : D_api_Record) a1).bind fun x1315 =>
     (m23 (⟨a0.ID, a0.Fields⟩ : D_api_Record) a1).bind fun x1318 =>
     (m21 x1315 x1318).bind fun x1321 =>
     if x1321 = true then
      (m25 (⟨a0.ID, a0.Fields⟩ : D_api_Record) a1 a2).bind fun x1324 =>
      (m26 (⟨a0.ID, a0.Fields⟩ : D_api_Record) a1 a2).bind fun x1327 =>
      (m24 x1324 x1327).bind fun x1330 =>
      if x1330 = true then
       if x1311.1 = x1313.1 then
        some (x1311.2 == x1313.2)
       else
        some false
      else
       some false
     else
      some false
   else
    some true
  else
   some false
def post5 (r : Bool) (v : Value) (fs : List Fact) : Prop := v = .bool r ∧ fs = []
theorem en5 : Enters Tryz.prog 5 := ⟨_, Tryz.func5, by kernel_rfl, rfl⟩
theorem f5_spec {a0 : D_api_Record} {a1 : Str} {a2 : UInt8} {s1300 : Value} {r : Bool} (hr : m5 a0 a1 a2 = some r) : Spec Tryz.prog 5 [.agg #[.int .i64 a0.ID, s1300], str a1, .int .u8 (a2.toNat : Int)] [(ty24.fact a0 [.int .i64 a0.ID, s1300]), (Ty.str.fact a1 [str a1]), (tabsF Tryz.prog 4 5)] (post5 r) := by
 refine spec_start (N := 63) Tryz.func5 (by kernel_rfl) rfl rfl rfl ?_
 intro g hS
 unfold m5 at hr
 refine at_open (A := Unit) 0 rfl (fun _ => True) (fun _ => [((Ty.int .i64).fact a0.ID [.int .i64 a0.ID]), ((Ty.slice ty59).fact a0.Fields [s1300])]) (fun F w h => ⟨(), trivial, ex24 h⟩) (fun _ _ => ?_)
 refine at_inv 0 rfl (fun l1301 => ?_)
 replace l1301 : (-9223372036854775808) ≤ a0.ID ∧ a0.ID ≤ 9223372036854775807 := l1301
 refine s_sr (at_hv rfl ?_)
 refine hv_box (cs := [.int .i64 a0.ID, s1300]) rfl rfl rfl (fun b1302 => ?_)
 refine s_as rfl (s_nt (at_seq (s_sr ?_)))
 replace hr := obind hr
 obtain ⟨x1303, h1304, hr⟩ := hr
 refine at_hv rfl (hv_call0 [4] (f11_spec h1304) rfl rfl rfl rfl ?_)
 rintro _ _ ⟨rfl, rfl⟩
 refine at_lt (lt_not rfl) rfl (s_nt ?_)
 by_cases h1305 : x1303 = true
 ·replace hr := ipos h1305 hr
  refine at_false rfl (nt h1305) (at_skip (at_then (at_seq (s_sr (at_lt (lt_load_box 0 rfl ti24 rfl rfl rfl rfl rfl) rfl ?_)))))
  replace hr := obind hr
  obtain ⟨x1306, h1307, hr⟩ := hr
  refine at_derive [0, 1] (ty24.fact (⟨a0.ID, a0.Fields⟩ : D_api_Record) [.int .i64 a0.ID, s1300]) rfl (fun F w h => mk24 (x := (⟨a0.ID, a0.Fields⟩ : D_api_Record)) h) ?_
  refine at_int .i64 12 (by simp only [lo, hi]; omega) (at_hv rfl (hv_call0 [1, 0] (f12_spec h1307) rfl rfl rfl rfl ?_))
  rintro _ _ ⟨rfl, rfl⟩
  refine at_lt (lt_not rfl) rfl (s_mv rfl ?_)
  by_cases h1308 : x1306 = true
  ·replace hr := ipos h1308 hr
   refine at_on rfl rfl (nt h1308) (s_mv rfl ?_)
   refine at_inv 5 rfl (fun l1309 => ?_)
   replace l1309 : a1.length ≤ 9223372036854775807 := l1309
   refine at_on rfl rfl (nt h1308) (at_lt (lt_slen rfl und9) rfl (at_on rfl rfl (nt h1308) (at_lt (lt_gtr rfl rfl) rfl (at_lt (lt_pick false rfl (nt h1308) rfl) rfl (s_nt ?_)))))
   by_cases h1310 : 20 < a1.length
   ·replace hr := ipos h1310 hr
    refine at_true rfl (decide_eq_true (by omega)) ?_
    refine s_sr (s_as rfl (s_nt (at_ret ?_)))
    have hq := oinj hr
    clear hr
    subst hq
    refine at_then_ret ?_
    exact at_return (.bool true) [] hS Tryz.results5 (.cons (.tmp rfl) .nil) rfl rfl ⟨rfl, rfl⟩
   replace hr := ineg h1310 hr
   refine at_false rfl (decide_eq_false (by omega)) ?_
   refine at_skip (s_tsr (at_lt (lt_load_box 0 rfl ti24 rfl rfl rfl rfl rfl) rfl (s_mv rfl (s_mv rfl ?_))))
   replace hr := obind hr
   obtain ⟨x1311, h1312, hr⟩ := hr
   refine at_hv rfl (hv_call0 [1, 5] (f19_spec h1312) rfl rfl rfl rfl ?_)
   rintro _ _ ⟨rfl, rfl⟩
   refine s_mv rfl (at_lt (lt_extract rfl rfl) rfl (at_lt (lt_extract rfl rfl) rfl (s_as rfl (s_as rfl (s_ntsr (at_lt (lt_load_box 0 rfl ti24 rfl rfl rfl rfl rfl) rfl (s_mv rfl (s_mv rfl ?_))))))))
   replace hr := obind hr
   obtain ⟨x1313, h1314, hr⟩ := hr
   refine at_hv rfl (hv_call0 [2, 6] (f20_spec h1314) rfl rfl rfl rfl ?_)
   rintro _ _ ⟨rfl, rfl⟩
   refine s_mv rfl (at_lt (lt_extract rfl rfl) rfl (at_lt (lt_extract rfl rfl) rfl (s_as rfl (s_as rfl (s_nt (at_seq ?_))))))
   replace hr := obind hr
   obtain ⟨x1315, h1316, hr⟩ := hr
   replace hr := obind hr
   obtain ⟨x1318, h1319, hr⟩ := hr
   replace hr := obind hr
   obtain ⟨x1321, h1322, hr⟩ := hr
   by_cases h1323 : x1321 = true
   ·replace hr := ipos h1323 hr
    replace hr := obind hr
    obtain ⟨x1324, h1325, hr⟩ := hr
    replace hr := obind hr
    obtain ⟨x1327, h1328, hr⟩ := hr
    replace hr := obind hr
    obtain ⟨x1330, h1331, hr⟩ := hr
    by_cases h1332 : x1330 = true
    ·replace hr := ipos h1332 hr
     by_cases h1333 : x1311.1 = x1313.1
     ·replace hr := ipos h1333 hr
      refine aa_start 29 (by kernel_rfl) ?_
      refine aa_l 0 rfl (lt_load_box 0 rfl ti24 rfl rfl rfl rfl rfl) (aa_p 1 rfl (lt_move rfl) (aa_l 3 rfl (lt_load_box 0 rfl ti24 rfl rfl rfl rfl rfl) (aa_p 4 rfl (lt_move rfl) (aa_one 2 (aa_op rfl rfl (hv_call0 [3, 7] (f22_spec h1316) rfl rfl rfl rfl ?_))))))
      rintro s1317 _ ⟨_, rfl, rfl⟩
      refine aa_all (rs := [5]) (by kernel_rfl) rfl (ts_in 0 1 rfl rfl) (List.forall_mem_singleton.2 ?_)
      refine aa_op rfl rfl (hv_call0 [4, 8] (f23_spec h1319) rfl rfl rfl rfl ?_)
      rintro s1320 _ ⟨_, rfl, rfl⟩
      refine aa_all (rs := [6]) (by kernel_rfl) rfl (ts_in 0 2 rfl rfl) (List.forall_mem_singleton.2 ?_)
      refine aa_op rfl rfl (hv_call0 [1, 0] (f21_spec h1322) rfl rfl rfl rfl ?_)
      rintro _ _ ⟨rfl, rfl⟩
      refine aa_pure 7 rfl (by kernel_rfl) rfl rfl (lt_move rfl) rfl (ts_in 0 2 rfl rfl) ?_
      refine aa_load 8 rfl (by kernel_rfl) rfl ⟨42, rfl, .inl ⟨_, rfl, gdq (v := true) h1323 rfl⟩⟩ (lt_load_box 0 rfl ti24 rfl rfl rfl rfl rfl) rfl (ts_in 0 2 rfl rfl) ?_
      refine aa_pure 9 rfl (by kernel_rfl) rfl ⟨42, rfl, .inl ⟨_, rfl, gdq (v := true) h1323 rfl⟩⟩ (lt_move rfl) rfl (ts_in 0 2 rfl rfl) ?_
      refine aa_pure 10 rfl (by kernel_rfl) rfl ⟨42, rfl, .inl ⟨_, rfl, gdq (v := true) h1323 rfl⟩⟩ (lt_move rfl) rfl (ts_in 0 2 rfl rfl) ?_
      refine aa_load 12 rfl (by kernel_rfl) rfl ⟨42, rfl, .inl ⟨_, rfl, gdq (v := true) h1323 rfl⟩⟩ (lt_load_box 0 rfl ti24 rfl rfl rfl rfl rfl) rfl (ts_in 0 2 rfl rfl) ?_
      refine aa_pure 13 rfl (by kernel_rfl) rfl ⟨42, rfl, .inl ⟨_, rfl, gdq (v := true) h1323 rfl⟩⟩ (lt_move rfl) rfl (ts_in 0 2 rfl rfl) ?_
      refine aa_pure 14 rfl (by kernel_rfl) rfl ⟨42, rfl, .inl ⟨_, rfl, gdq (v := true) h1323 rfl⟩⟩ (lt_move rfl) rfl (ts_in 0 2 rfl rfl) ?_
      refine aa_all (rs := [11]) (by kernel_rfl) rfl (ts_in 0 2 rfl rfl) (List.forall_mem_singleton.2 ?_)
      refine aa_op rfl ⟨42, rfl, .inl ⟨_, rfl, gdq (v := true) h1323 rfl⟩⟩ ?_
      refine hv_call0 [5, 9] (f25_spec h1325) rfl rfl rfl rfl ?_
      rintro s1326 _ ⟨_, rfl, rfl⟩
      refine aa_all (rs := [15]) (by kernel_rfl) rfl (ts_in 0 3 rfl rfl) (List.forall_mem_singleton.2 ?_)
      refine aa_op rfl ⟨42, rfl, .inl ⟨_, rfl, gdq (v := true) h1323 rfl⟩⟩ ?_
      refine hv_call0 [6, 10] (f26_spec h1328) rfl rfl rfl rfl ?_
      rintro s1329 _ ⟨_, rfl, rfl⟩
      refine aa_all (rs := [16]) (by kernel_rfl) rfl (ts_in 0 4 rfl rfl) (List.forall_mem_singleton.2 ?_)
      refine aa_op rfl ⟨42, rfl, .inl ⟨_, rfl, gdq (v := true) h1323 rfl⟩⟩ ?_
      refine hv_call0 [1, 0] (f24_spec h1331) rfl rfl rfl rfl ?_
      rintro _ _ ⟨rfl, rfl⟩
      refine aa_pure 17 rfl (by kernel_rfl) rfl rfl (lt_pick true rfl h1323 rfl) rfl (ts_in 0 4 rfl rfl) ?_
      refine aa_pure 18 rfl (by kernel_rfl) rfl rfl (lt_move rfl) rfl (ts_in 0 4 rfl rfl) ?_
      refine aa_pure 19 rfl (by kernel_rfl) rfl ⟨53, rfl, .inl ⟨_, rfl, gdq (v := true) h1332 rfl⟩⟩ (lt_move rfl) rfl (ts_in 0 4 rfl rfl) ?_
      refine aa_pure 20 rfl (by kernel_rfl) rfl ⟨53, rfl, .inl ⟨_, rfl, gdq (v := true) h1332 rfl⟩⟩ (lt_move rfl) rfl (ts_in 0 4 rfl rfl) ?_
      refine aa_pure 21 rfl (by kernel_rfl) rfl ⟨53, rfl, .inl ⟨_, rfl, gdq (v := true) h1332 rfl⟩⟩ (lt_seql rfl rfl) rfl (ts_in 0 4 rfl rfl) ?_
      refine aa_pure 22 rfl (by kernel_rfl) rfl rfl (lt_pick true rfl h1332 rfl) rfl (ts_in 0 4 rfl rfl) ?_
      refine aa_pure 23 rfl (by kernel_rfl) rfl rfl (lt_move rfl) rfl (ts_in 0 4 rfl rfl) ?_
      refine aa_pure 24 rfl (by kernel_rfl) rfl ⟨58, rfl, .inl ⟨_, rfl, gdq (v := true) (decide_eq_true h1333) rfl⟩⟩ (lt_move rfl) rfl (ts_in 0 4 rfl rfl) ?_
      refine aa_pure 25 rfl (by kernel_rfl) rfl ⟨58, rfl, .inl ⟨_, rfl, gdq (v := true) (decide_eq_true h1333) rfl⟩⟩ (lt_move rfl) rfl (ts_in 0 4 rfl rfl) ?_
      refine aa_pure 26 rfl (by kernel_rfl) rfl ⟨58, rfl, .inl ⟨_, rfl, gdq (v := true) (decide_eq_true h1333) rfl⟩⟩ (lt_beq rfl rfl und4) rfl (ts_in 0 4 rfl rfl) ?_
      refine aa_pure 27 rfl (by kernel_rfl) rfl rfl (lt_pick true rfl (decide_eq_true h1333) rfl) rfl (ts_in 0 4 rfl rfl) ?_
      refine aa_pure 28 rfl (by kernel_rfl) rfl rfl (lt_assign rfl) rfl (ts_in 0 4 rfl rfl) ?_
      refine aa_done (by kernel_rfl) (ts_in 0 4 rfl rfl) ?_
      refine at_then (at_ret ?_)
      have hq := oinj hr
      clear hr
      subst hq
      exact at_return (.bool (x1311.2 == x1313.2)) [] hS Tryz.results5 (.cons (.tmp rfl) .nil) rfl rfl ⟨rfl, rfl⟩
     replace hr := ineg h1333 hr
     refine aa_start 29 (by kernel_rfl) ?_
     refine aa_l 0 rfl (lt_load_box 0 rfl ti24 rfl rfl rfl rfl rfl) (aa_p 1 rfl (lt_move rfl) (aa_l 3 rfl (lt_load_box 0 rfl ti24 rfl rfl rfl rfl rfl) (aa_p 4 rfl (lt_move rfl) (aa_one 2 (aa_op rfl rfl (hv_call0 [3, 7] (f22_spec h1316) rfl rfl rfl rfl ?_))))))
     rintro s1317 _ ⟨_, rfl, rfl⟩
     refine aa_all (rs := [5]) (by kernel_rfl) rfl (ts_in 0 1 rfl rfl) (List.forall_mem_singleton.2 ?_)
     refine aa_op rfl rfl (hv_call0 [4, 8] (f23_spec h1319) rfl rfl rfl rfl ?_)
     rintro s1320 _ ⟨_, rfl, rfl⟩
     refine aa_all (rs := [6]) (by kernel_rfl) rfl (ts_in 0 2 rfl rfl) (List.forall_mem_singleton.2 ?_)
     refine aa_op rfl rfl (hv_call0 [1, 0] (f21_spec h1322) rfl rfl rfl rfl ?_)
     rintro _ _ ⟨rfl, rfl⟩
     refine aa_pure 7 rfl (by kernel_rfl) rfl rfl (lt_move rfl) rfl (ts_in 0 2 rfl rfl) ?_
     refine aa_load 8 rfl (by kernel_rfl) rfl ⟨42, rfl, .inl ⟨_, rfl, gdq (v := true) h1323 rfl⟩⟩ (lt_load_box 0 rfl ti24 rfl rfl rfl rfl rfl) rfl (ts_in 0 2 rfl rfl) ?_
     refine aa_pure 9 rfl (by kernel_rfl) rfl ⟨42, rfl, .inl ⟨_, rfl, gdq (v := true) h1323 rfl⟩⟩ (lt_move rfl) rfl (ts_in 0 2 rfl rfl) ?_
     refine aa_pure 10 rfl (by kernel_rfl) rfl ⟨42, rfl, .inl ⟨_, rfl, gdq (v := true) h1323 rfl⟩⟩ (lt_move rfl) rfl (ts_in 0 2 rfl rfl) ?_
     refine aa_load 12 rfl (by kernel_rfl) rfl ⟨42, rfl, .inl ⟨_, rfl, gdq (v := true) h1323 rfl⟩⟩ (lt_load_box 0 rfl ti24 rfl rfl rfl rfl rfl) rfl (ts_in 0 2 rfl rfl) ?_
     refine aa_pure 13 rfl (by kernel_rfl) rfl ⟨42, rfl, .inl ⟨_, rfl, gdq (v := true) h1323 rfl⟩⟩ (lt_move rfl) rfl (ts_in 0 2 rfl rfl) ?_
     refine aa_pure 14 rfl (by kernel_rfl) rfl ⟨42, rfl, .inl ⟨_, rfl, gdq (v := true) h1323 rfl⟩⟩ (lt_move rfl) rfl (ts_in 0 2 rfl rfl) ?_
     refine aa_all (rs := [11]) (by kernel_rfl) rfl (ts_in 0 2 rfl rfl) (List.forall_mem_singleton.2 ?_)
     refine aa_op rfl ⟨42, rfl, .inl ⟨_, rfl, gdq (v := true) h1323 rfl⟩⟩ ?_
     refine hv_call0 [5, 9] (f25_spec h1325) rfl rfl rfl rfl ?_
     rintro s1326 _ ⟨_, rfl, rfl⟩
     refine aa_all (rs := [15]) (by kernel_rfl) rfl (ts_in 0 3 rfl rfl) (List.forall_mem_singleton.2 ?_)
     refine aa_op rfl ⟨42, rfl, .inl ⟨_, rfl, gdq (v := true) h1323 rfl⟩⟩ ?_
     refine hv_call0 [6, 10] (f26_spec h1328) rfl rfl rfl rfl ?_
     rintro s1329 _ ⟨_, rfl, rfl⟩
     refine aa_all (rs := [16]) (by kernel_rfl) rfl (ts_in 0 4 rfl rfl) (List.forall_mem_singleton.2 ?_)
     refine aa_op rfl ⟨42, rfl, .inl ⟨_, rfl, gdq (v := true) h1323 rfl⟩⟩ ?_
     refine hv_call0 [1, 0] (f24_spec h1331) rfl rfl rfl rfl ?_
     rintro _ _ ⟨rfl, rfl⟩
     refine aa_pure 17 rfl (by kernel_rfl) rfl rfl (lt_pick true rfl h1323 rfl) rfl (ts_in 0 4 rfl rfl) ?_
     refine aa_pure 18 rfl (by kernel_rfl) rfl rfl (lt_move rfl) rfl (ts_in 0 4 rfl rfl) ?_
     refine aa_pure 19 rfl (by kernel_rfl) rfl ⟨53, rfl, .inl ⟨_, rfl, gdq (v := true) h1332 rfl⟩⟩ (lt_move rfl) rfl (ts_in 0 4 rfl rfl) ?_
     refine aa_pure 20 rfl (by kernel_rfl) rfl ⟨53, rfl, .inl ⟨_, rfl, gdq (v := true) h1332 rfl⟩⟩ (lt_move rfl) rfl (ts_in 0 4 rfl rfl) ?_
     refine aa_pure 21 rfl (by kernel_rfl) rfl ⟨53, rfl, .inl ⟨_, rfl, gdq (v := true) h1332 rfl⟩⟩ (lt_seql rfl rfl) rfl (ts_in 0 4 rfl rfl) ?_
     refine aa_pure 22 rfl (by kernel_rfl) rfl rfl (lt_pick true rfl h1332 rfl) rfl (ts_in 0 4 rfl rfl) ?_
     refine aa_pure 23 rfl (by kernel_rfl) rfl rfl (lt_move rfl) rfl (ts_in 0 4 rfl rfl) ?_
     refine aa_off 24 rfl (by kernel_rfl) rfl ⟨58, rfl, .inl ⟨_, rfl, gdq (v := false) (decide_eq_false h1333) rfl⟩⟩ rfl (ts_in 0 4 rfl rfl) ?_
     refine aa_off 25 rfl (by kernel_rfl) rfl ⟨58, rfl, .inl ⟨_, rfl, gdq (v := false) (decide_eq_false h1333) rfl⟩⟩ rfl (ts_in 0 4 rfl rfl) ?_
     refine aa_off 26 rfl (by kernel_rfl) rfl ⟨58, rfl, .inl ⟨_, rfl, gdq (v := false) (decide_eq_false h1333) rfl⟩⟩ rfl (ts_in 0 4 rfl rfl) ?_
     refine aa_pure 27 rfl (by kernel_rfl) rfl rfl (lt_pick false rfl (decide_eq_false h1333) rfl) rfl (ts_in 0 4 rfl rfl) ?_
     refine aa_pure 28 rfl (by kernel_rfl) rfl rfl (lt_assign rfl) rfl (ts_in 0 4 rfl rfl) ?_
     refine aa_done (by kernel_rfl) (ts_in 0 4 rfl rfl) ?_
     refine at_then (at_ret ?_)
     have hq := oinj hr
     clear hr
     subst hq
     exact at_return (.bool false) [] hS Tryz.results5 (.cons (.tmp rfl) .nil) rfl rfl ⟨rfl, rfl⟩
    replace hr := ineg h1332 hr
    refine aa_start 29 (by kernel_rfl) ?_
    refine aa_l 0 rfl (lt_load_box 0 rfl ti24 rfl rfl rfl rfl rfl) (aa_p 1 rfl (lt_move rfl) (aa_l 3 rfl (lt_load_box 0 rfl ti24 rfl rfl rfl rfl rfl) (aa_p 4 rfl (lt_move rfl) (aa_one 2 (aa_op rfl rfl (hv_call0 [3, 7] (f22_spec h1316) rfl rfl rfl rfl ?_))))))
    rintro s1317 _ ⟨_, rfl, rfl⟩
    refine aa_all (rs := [5]) (by kernel_rfl) rfl (ts_in 0 1 rfl rfl) (List.forall_mem_singleton.2 ?_)
    refine aa_op rfl rfl (hv_call0 [4, 8] (f23_spec h1319) rfl rfl rfl rfl ?_)
    rintro s1320 _ ⟨_, rfl, rfl⟩
    refine aa_all (rs := [6]) (by kernel_rfl) rfl (ts_in 0 2 rfl rfl) (List.forall_mem_singleton.2 ?_)
    refine aa_op rfl rfl (hv_call0 [1, 0] (f21_spec h1322) rfl rfl rfl rfl ?_)
    rintro _ _ ⟨rfl, rfl⟩
    refine aa_pure 7 rfl (by kernel_rfl) rfl rfl (lt_move rfl) rfl (ts_in 0 2 rfl rfl) ?_
    refine aa_load 8 rfl (by kernel_rfl) rfl ⟨42, rfl, .inl ⟨_, rfl, gdq (v := true) h1323 rfl⟩⟩ (lt_load_box 0 rfl ti24 rfl rfl rfl rfl rfl) rfl (ts_in 0 2 rfl rfl) ?_
    refine aa_pure 9 rfl (by kernel_rfl) rfl ⟨42, rfl, .inl ⟨_, rfl, gdq (v := true) h1323 rfl⟩⟩ (lt_move rfl) rfl (ts_in 0 2 rfl rfl) ?_
    refine aa_pure 10 rfl (by kernel_rfl) rfl ⟨42, rfl, .inl ⟨_, rfl, gdq (v := true) h1323 rfl⟩⟩ (lt_move rfl) rfl (ts_in 0 2 rfl rfl) ?_
    refine aa_load 12 rfl (by kernel_rfl) rfl ⟨42, rfl, .inl ⟨_, rfl, gdq (v := true) h1323 rfl⟩⟩ (lt_load_box 0 rfl ti24 rfl rfl rfl rfl rfl) rfl (ts_in 0 2 rfl rfl) ?_
    refine aa_pure 13 rfl (by kernel_rfl) rfl ⟨42, rfl, .inl ⟨_, rfl, gdq (v := true) h1323 rfl⟩⟩ (lt_move rfl) rfl (ts_in 0 2 rfl rfl) ?_
    refine aa_pure 14 rfl (by kernel_rfl) rfl ⟨42, rfl, .inl ⟨_, rfl, gdq (v := true) h1323 rfl⟩⟩ (lt_move rfl) rfl (ts_in 0 2 rfl rfl) ?_
    refine aa_all (rs := [11]) (by kernel_rfl) rfl (ts_in 0 2 rfl rfl) (List.forall_mem_singleton.2 ?_)
    refine aa_op rfl ⟨42, rfl, .inl ⟨_, rfl, gdq (v := true) h1323 rfl⟩⟩ ?_
    refine hv_call0 [5, 9] (f25_spec h1325) rfl rfl rfl rfl ?_
    rintro s1326 _ ⟨_, rfl, rfl⟩
    refine aa_all (rs := [15]) (by kernel_rfl) rfl (ts_in 0 3 rfl rfl) (List.forall_mem_singleton.2 ?_)
    refine aa_op rfl ⟨42, rfl, .inl ⟨_, rfl, gdq (v := true) h1323 rfl⟩⟩ ?_
    refine hv_call0 [6, 10] (f26_spec h1328) rfl rfl rfl rfl ?_
    rintro s1329 _ ⟨_, rfl, rfl⟩
    refine aa_all (rs := [16]) (by kernel_rfl) rfl (ts_in 0 4 rfl rfl) (List.forall_mem_singleton.2 ?_)
    refine aa_op rfl ⟨42, rfl, .inl ⟨_, rfl, gdq (v := true) h1323 rfl⟩⟩ ?_
    refine hv_call0 [1, 0] (f24_spec h1331) rfl rfl rfl rfl ?_
    rintro _ _ ⟨rfl, rfl⟩
    refine aa_pure 17 rfl (by kernel_rfl) rfl rfl (lt_pick true rfl h1323 rfl) rfl (ts_in 0 4 rfl rfl) ?_
    refine aa_pure 18 rfl (by kernel_rfl) rfl rfl (lt_move rfl) rfl (ts_in 0 4 rfl rfl) ?_
    refine aa_off 19 rfl (by kernel_rfl) rfl ⟨53, rfl, .inl ⟨_, rfl, gdq (v := false) (bf h1332) rfl⟩⟩ rfl (ts_in 0 4 rfl rfl) ?_
    refine aa_off 20 rfl (by kernel_rfl) rfl ⟨53, rfl, .inl ⟨_, rfl, gdq (v := false) (bf h1332) rfl⟩⟩ rfl (ts_in 0 4 rfl rfl) ?_
    refine aa_off 21 rfl (by kernel_rfl) rfl ⟨53, rfl, .inl ⟨_, rfl, gdq (v := false) (bf h1332) rfl⟩⟩ rfl (ts_in 0 4 rfl rfl) ?_
    refine aa_pure 22 rfl (by kernel_rfl) rfl rfl (lt_pick false rfl (bf h1332) rfl) rfl (ts_in 0 4 rfl rfl) ?_
    refine aa_pure 23 rfl (by kernel_rfl) rfl rfl (lt_move rfl) rfl (ts_in 0 4 rfl rfl) ?_
    refine aa_off 24 rfl (by kernel_rfl) rfl ⟨58, rfl, .inl ⟨_, rfl, gdq (v := false) rfl rfl⟩⟩ rfl (ts_in 0 4 rfl rfl) ?_
    refine aa_off 25 rfl (by kernel_rfl) rfl ⟨58, rfl, .inl ⟨_, rfl, gdq (v := false) rfl rfl⟩⟩ rfl (ts_in 0 4 rfl rfl) ?_
    refine aa_off 26 rfl (by kernel_rfl) rfl ⟨58, rfl, .inl ⟨_, rfl, gdq (v := false) rfl rfl⟩⟩ rfl (ts_in 0 4 rfl rfl) ?_
    refine aa_pure 27 rfl (by kernel_rfl) rfl rfl (lt_pick false rfl rfl rfl) rfl (ts_in 0 4 rfl rfl) ?_
    refine aa_pure 28 rfl (by kernel_rfl) rfl rfl (lt_assign rfl) rfl (ts_in 0 4 rfl rfl) ?_
    refine aa_done (by kernel_rfl) (ts_in 0 4 rfl rfl) ?_
    refine at_then (at_ret ?_)
    have hq := oinj hr
    clear hr
    subst hq
    exact at_return (.bool false) [] hS Tryz.results5 (.cons (.tmp rfl) .nil) rfl rfl ⟨rfl, rfl⟩
   replace hr := ineg h1323 hr
   refine aa_start 29 (by kernel_rfl) ?_
   refine aa_l 0 rfl (lt_load_box 0 rfl ti24 rfl rfl rfl rfl rfl) (aa_p 1 rfl (lt_move rfl) (aa_l 3 rfl (lt_load_box 0 rfl ti24 rfl rfl rfl rfl rfl) (aa_p 4 rfl (lt_move rfl) (aa_one 2 (aa_op rfl rfl (hv_call0 [3, 7] (f22_spec h1316) rfl rfl rfl rfl ?_))))))
   rintro s1317 _ ⟨_, rfl, rfl⟩
   refine aa_all (rs := [5]) (by kernel_rfl) rfl (ts_in 0 1 rfl rfl) (List.forall_mem_singleton.2 ?_)
   refine aa_op rfl rfl (hv_call0 [4, 8] (f23_spec h1319) rfl rfl rfl rfl ?_)
   rintro s1320 _ ⟨_, rfl, rfl⟩
   refine aa_all (rs := [6]) (by kernel_rfl) rfl (ts_in 0 2 rfl rfl) (List.forall_mem_singleton.2 ?_)
   refine aa_op rfl rfl (hv_call0 [1, 0] (f21_spec h1322) rfl rfl rfl rfl ?_)
   rintro _ _ ⟨rfl, rfl⟩
   refine aa_pure 7 rfl (by kernel_rfl) rfl rfl (lt_move rfl) rfl (ts_in 0 2 rfl rfl) ?_
   refine aa_off 8 rfl (by kernel_rfl) rfl ⟨42, rfl, .inl ⟨_, rfl, gdq (v := false) (bf h1323) rfl⟩⟩ rfl (ts_in 0 2 rfl rfl) ?_
   refine aa_off 9 rfl (by kernel_rfl) rfl ⟨42, rfl, .inl ⟨_, rfl, gdq (v := false) (bf h1323) rfl⟩⟩ rfl (ts_in 0 2 rfl rfl) ?_
   refine aa_off 10 rfl (by kernel_rfl) rfl ⟨42, rfl, .inl ⟨_, rfl, gdq (v := false) (bf h1323) rfl⟩⟩ rfl (ts_in 0 2 rfl rfl) ?_
   refine aa_off 11 rfl (by kernel_rfl) rfl ⟨42, rfl, .inl ⟨_, rfl, gdq (v := false) (bf h1323) rfl⟩⟩ rfl (ts_in 0 2 rfl rfl) ?_
   refine aa_off 12 rfl (by kernel_rfl) rfl ⟨42, rfl, .inl ⟨_, rfl, gdq (v := false) (bf h1323) rfl⟩⟩ rfl (ts_in 0 2 rfl rfl) ?_
   refine aa_off 13 rfl (by kernel_rfl) rfl ⟨42, rfl, .inl ⟨_, rfl, gdq (v := false) (bf h1323) rfl⟩⟩ rfl (ts_in 0 2 rfl rfl) ?_
   refine aa_off 14 rfl (by kernel_rfl) rfl ⟨42, rfl, .inl ⟨_, rfl, gdq (v := false) (bf h1323) rfl⟩⟩ rfl (ts_in 0 2 rfl rfl) ?_
   refine aa_off 15 rfl (by kernel_rfl) rfl ⟨42, rfl, .inl ⟨_, rfl, gdq (v := false) (bf h1323) rfl⟩⟩ rfl (ts_in 0 2 rfl rfl) ?_
   refine aa_off 16 rfl (by kernel_rfl) rfl ⟨42, rfl, .inl ⟨_, rfl, gdq (v := false) (bf h1323) rfl⟩⟩ rfl (ts_in 0 2 rfl rfl) ?_
   refine aa_pure 17 rfl (by kernel_rfl) rfl rfl (lt_pick false rfl (bf h1323) rfl) rfl (ts_in 0 2 rfl rfl) ?_
   refine aa_pure 18 rfl (by kernel_rfl) rfl rfl (lt_move rfl) rfl (ts_in 0 2 rfl rfl) ?_
   refine aa_off 19 rfl (by kernel_rfl) rfl ⟨53, rfl, .inl ⟨_, rfl, gdq (v := false) rfl rfl⟩⟩ rfl (ts_in 0 2 rfl rfl) ?_
   refine aa_off 20 rfl (by kernel_rfl) rfl ⟨53, rfl, .inl ⟨_, rfl, gdq (v := false) rfl rfl⟩⟩ rfl (ts_in 0 2 rfl rfl) ?_
   refine aa_off 21 rfl (by kernel_rfl) rfl ⟨53, rfl, .inl ⟨_, rfl, gdq (v := false) rfl rfl⟩⟩ rfl (ts_in 0 2 rfl rfl) ?_
   refine aa_pure 22 rfl (by kernel_rfl) rfl rfl (lt_pick false rfl rfl rfl) rfl (ts_in 0 2 rfl rfl) ?_
   refine aa_pure 23 rfl (by kernel_rfl) rfl rfl (lt_move rfl) rfl (ts_in 0 2 rfl rfl) ?_
   refine aa_off 24 rfl (by kernel_rfl) rfl ⟨58, rfl, .inl ⟨_, rfl, gdq (v := false) rfl rfl⟩⟩ rfl (ts_in 0 2 rfl rfl) ?_
   refine aa_off 25 rfl (by kernel_rfl) rfl ⟨58, rfl, .inl ⟨_, rfl, gdq (v := false) rfl rfl⟩⟩ rfl (ts_in 0 2 rfl rfl) ?_
   refine aa_off 26 rfl (by kernel_rfl) rfl ⟨58, rfl, .inl ⟨_, rfl, gdq (v := false) rfl rfl⟩⟩ rfl (ts_in 0 2 rfl rfl) ?_
   refine aa_pure 27 rfl (by kernel_rfl) rfl rfl (lt_pick false rfl rfl rfl) rfl (ts_in 0 2 rfl rfl) ?_
   refine aa_pure 28 rfl (by kernel_rfl) rfl rfl (lt_assign rfl) rfl (ts_in 0 2 rfl rfl) ?_
   refine aa_done (by kernel_rfl) (ts_in 0 2 rfl rfl) ?_
   refine at_then (at_ret ?_)
   have hq := oinj hr
   clear hr
   subst hq
   exact at_return (.bool false) [] hS Tryz.results5 (.cons (.tmp rfl) .nil) rfl rfl ⟨rfl, rfl⟩
  replace hr := ineg h1308 hr
  refine at_off rfl rfl (nf (bf h1308)) rfl (at_off rfl rfl (nf (bf h1308)) rfl (at_off rfl rfl (nf (bf h1308)) rfl (at_lt (lt_pick true rfl (nf (bf h1308)) rfl) rfl (s_nt (at_true rfl rfl (s_sr (s_as rfl (s_nt (at_ret ?_)))))))))
  have hq := oinj hr
  clear hr
  subst hq
  refine at_then_ret ?_
  exact at_return (.bool true) [] hS Tryz.results5 (.cons (.tmp rfl) .nil) rfl rfl ⟨rfl, rfl⟩
 replace hr := ineg h1305 hr
 refine at_true rfl (nf (bf h1305)) (s_sr (s_as rfl (s_nt (at_ret ?_))))
 have hq := oinj hr
 clear hr
 subst hq
 refine at_then_ret ?_
 exact at_return (.bool false) [] hS Tryz.results5 (.cons (.tmp rfl) .nil) rfl rfl ⟨rfl, rfl⟩
end Go.WK.S
