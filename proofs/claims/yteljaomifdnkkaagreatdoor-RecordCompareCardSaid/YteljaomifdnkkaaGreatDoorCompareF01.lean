
/- What functions of this program compute: a model of each, and the proof that it is kept. -/
import Derived.Test.YteljaomifdnkkaaGreatDoorCompareW
import Derived.KernelRfl
set_option linter.unusedSimpArgs false
set_option linter.unusedVariables false
namespace Go.WK.S
open Go Go.Proofs Go.WK Go.RowKit
set_option linter.unusedVariables false
set_option maxRecDepth 100000
set_option maxHeartbeats 4000000
def m95_l1 (a0 : (List D_api_Field)) (p1 : (D_api_Field → Option Bool)) : Nat → Nat → Option (Fl Int Unit)
  | 0, _ => none
  | k + 1, x5 =>
    if x5 < a0.length then
     (a0[x5]?).bind fun x10 =>
     (p1 x10).bind fun x15 =>
     if x15 = true then
      some (Fl.ret (x5 : Int))
     else
      m95_l1 a0 p1 k (x5 + 1)
    else
     some (Fl.go ())
def m95 (a0 : (List D_api_Field)) (p1 : (D_api_Field → Option Bool)) : Option Int :=
  (m95_l1 a0 p1 (a0.length + 1) 0).bind fun r => match r with
  | .ret x => some x
  | .go _ =>
   some (-1)
def post95 (r : Int) (v : Value) (fs : List Fact) : Prop := v = .int .i64 r ∧ fs = [((Ty.int .i64).fact r [.int .i64 r])]
theorem en95 : Enters Tryz.prog 95 := ⟨_, Tryz.func95, by kernel_rfl, rfl⟩
theorem f95_spec {a0 : (List D_api_Field)} {p1 : (D_api_Field → Option Bool)} {w1 : Value} {w2 : Value} {r : Int} (hr : m95 a0 p1 = some r) : Spec Tryz.prog 95 [w1, w2] [((Ty.slice ty59).fact a0 [w1]), (FnOk Tryz.prog w2 (sp55 p1))] (post95 r) := by
 refine spec_start (N := 19) Tryz.func95 (by kernel_rfl) rfl rfl rfl ?_
 intro g hS
 unfold m95 at hr
 refine s_sr (s_as rfl (s_nt (at_seq (s_sr (s_mv rfl ?_)))))
 refine at_inv 0 rfl (fun i3 => ?_)
 have l4 := slice_len i3
 refine at_lt (lt_flen 0 rfl rfl und22) rfl (s_mv rfl (s_nt (at_int .i64 0 (by simp only [lo, hi]; omega) ?_)))
 replace hr := obind hr
 obtain ⟨r6, hl7, hk8⟩ := hr
 refine at_cutP (V := (Unit) × (Unit)) (fun v => r6 = Fl.go v.1) (fun v => (⟨[], [], [], []⟩ : St)) ?_ ?_
 ·refine at_block ?_
  refine at_loopW (σ := Nat) (V := Unit) (r := r6) (fun n s => m95_l1 a0 p1 n s) (fun s e => (⟨[(0, w1), (1, w2), (7, .int .i64 (a0.length : Int)), (8, .int .i64 (s : Int))], [], [], [((Ty.int .i64).fact (s : Int) [.int .i64 (s : Int)]), ((Ty.slice ty59).fact a0 [w1]), (FnOk Tryz.prog w2 (sp55 p1))]⟩ : St)) (fun _ => rfl) _ 0 () hl7 ⟨⟨rfl, ⟨rfl, ⟨rfl, ⟨rfl, trivial⟩⟩⟩⟩, ⟨[], rfl⟩, ⟨[], rfl⟩, ⟨[0, 1, 2], rfl⟩⟩ ?_
  clear hl7
  intro n x5 hr e
  skip
  skip
  change m95_l1 a0 p1 (n + 1) x5 = some r6 at hr
  change At _ _ (⟨[(0, w1), (1, w2), (7, .int .i64 (a0.length : Int)), (8, .int .i64 (x5 : Int))], [], [], [((Ty.int .i64).fact (x5 : Int) [.int .i64 (x5 : Int)]), ((Ty.slice ty59).fact a0 [w1]), (FnOk Tryz.prog w2 (sp55 p1))]⟩ : St) _
  rw [m95_l1] at hr
  refine s_sr (at_lt (lt_lss rfl rfl) rfl (s_nt (at_seq ?_)))
  by_cases h9 : x5 < a0.length
  ·replace hr := ipos h9 hr
   refine at_true rfl (decide_eq_true (by omega)) ?_
   refine at_skip (at_then (at_seq (at_block (s_sr (s_mv rfl (s_as rfl (s_ntsr (s_mv rfl (s_mv rfl ?_)))))))))
   refine s_mv rfl ?_
   replace hr := obind hr
   obtain ⟨x10, h11, hr⟩ := hr
   have := (List.getElem?_eq_some_iff.1 h11).1
   refine at_elem 1 rfl (nat_at' h11) (fun p13 ec pa14 => ?_)
   refine at_open (A := Value) 0 rfl _ _ (fun F w h => op59 h) ?_
   rintro s12 rfl
   refine at_lt (lt_idx rfl rfl pa14 und22 ti59) rfl (at_lt (lt_load_peek 3 rfl ti59 rfl rfl rfl rfl rfl) rfl ?_)
   replace hr := obind hr
   obtain ⟨x15, h16, hr⟩ := hr
   refine at_hv rfl ?_
   refine hv_callf 6 [2] rfl rfl rfl ⟨x10, x15, s12, h16, rfl, rfl, rfl⟩ rfl rfl ?_
   rintro _ _ ⟨rfl, rfl⟩
   refine s_nt ?_
   by_cases h17 : x15 = true
   ·replace hr := ipos h17 hr
    refine at_true rfl h17 (s_sr (s_mv rfl (s_as rfl (s_nt (at_ret ?_)))))
    have hq := oinj hr
    clear hr
    subst hq
    have hq := oinj hk8
    clear hk8
    subst hq
    refine at_in_ret (at_then_ret (at_then_ret (at_in_ret (at_then_ret (at_then_ret ?_)))))
    exact at_return (.int .i64 (x5 : Int)) [4] hS Tryz.results95 (.cons (.tmp rfl) .nil) rfl rfl ⟨rfl, rfl⟩
   replace hr := ineg h17 hr
   refine at_false rfl (bf h17) (at_skip (at_in (s_tr (at_lt (lt_add rfl rfl (by simp only [lo, hi]; omega)) rfl (s_mv rfl (at_nil (at_int .i64 (x5 + 1 : Int) (by simp only [lo, hi]; omega) ?_)))))))
   exact at_again (σ := Nat) (V := Unit) (lp := fun n s => m95_l1 a0 p1 n s) (S := fun s e => (⟨[(0, w1), (1, w2), (7, .int .i64 (a0.length : Int)), (8, .int .i64 (s : Int))], [], [], [((Ty.int .i64).fact (s : Int) [.int .i64 (s : Int)]), ((Ty.slice ty59).fact a0 [w1]), (FnOk Tryz.prog w2 (sp55 p1))]⟩ : St)) (x5 + 1) () hr ⟨⟨rfl, ⟨rfl, ⟨rfl, ⟨rfl, trivial⟩⟩⟩⟩, ⟨[], rfl⟩, ⟨[], rfl⟩, ⟨[0, 6, 7], rfl⟩⟩
  replace hr := ineg h9 hr
  refine at_false rfl (decide_eq_false (by omega)) ?_
  refine at_exit (at_then_exit (at_then_exit (at_in_exit ?_)))
  have hq := oinj hr
  clear hr
  subst hq
  exact at_leafP ((), ()) rfl ⟨trivial, ⟨[], rfl⟩, ⟨[], rfl⟩, ⟨[], rfl⟩⟩
 rintro ⟨_, _⟩ hp
 replace hr := hk8
 subst hp
 clear hl7
 change At _ _ (⟨[], [], [], []⟩ : St) _
 refine s_tsr (s_as rfl (s_nt (at_ret ?_)))
 have hq := oinj hr
 clear hr
 subst hq
 refine at_int .i64 (-1) (by simp only [lo, hi]; omega) ?_
 exact at_return (.int .i64 (-1)) [0] hS Tryz.results95 (.cons (.tmp rfl) .nil) rfl rfl ⟨rfl, rfl⟩
def m81 (a0 : (List D_api_Field)) (p1 : (D_api_Field → Option Bool)) : Option Bool :=
  (m95 a0 p1).bind fun x20 =>
  some (decide ((0 : Int) ≤ x20))
def post81 (r : Bool) (v : Value) (fs : List Fact) : Prop := v = .bool r ∧ fs = []
theorem en81 : Enters Tryz.prog 81 := ⟨_, Tryz.func81, by kernel_rfl, rfl⟩
theorem f81_spec {a0 : (List D_api_Field)} {p1 : (D_api_Field → Option Bool)} {w18 : Value} {w19 : Value} {r : Bool} (hr : m81 a0 p1 = some r) : Spec Tryz.prog 81 [w18, w19] [((Ty.slice ty59).fact a0 [w18]), (FnOk Tryz.prog w19 (sp55 p1))] (post81 r) := by
 refine spec_start (N := 9) Tryz.func81 (by kernel_rfl) rfl rfl rfl ?_
 intro g hS
 unfold m81 at hr
 refine s_sr (s_as rfl (s_ntsr (s_mv rfl (s_mv rfl ?_))))
 replace hr := obind hr
 obtain ⟨x20, h21, hr⟩ := hr
 refine at_hv rfl (hv_call0 [0, 1] (f95_spec h21) rfl rfl rfl rfl ?_)
 rintro _ _ ⟨rfl, rfl⟩
 refine at_inv 0 rfl (fun l22 => ?_)
 replace l22 : (-9223372036854775808) ≤ x20 ∧ x20 ≤ 9223372036854775807 := l22
 refine at_lt (lt_geq rfl rfl) rfl (s_as rfl (s_nt (at_ret ?_)))
 have hq := oinj hr
 clear hr
 subst hq
 exact at_return (.bool (decide ((0 : Int) ≤ x20))) [] hS Tryz.results81 (.cons (.tmp rfl) .nil) rfl rfl ⟨rfl, rfl⟩
def m83 (a0 : UInt8) : Option Bool :=
  if 48 ≤ a0.toNat then
   some (decide ((a0.toNat : Int) ≤ 57))
  else
   some false
def post83 (r : Bool) (v : Value) (fs : List Fact) : Prop := v = .bool r ∧ fs = []
theorem en83 : Enters Tryz.prog 83 := ⟨_, Tryz.func83, by kernel_rfl, rfl⟩
theorem f83_spec {a0 : UInt8} {r : Bool} (hr : m83 a0 = some r) : Spec Tryz.prog 83 [.int .u8 (a0.toNat : Int)] [] (post83 r) := by
 refine spec_start (N := 9) Tryz.func83 (by kernel_rfl) rfl rfl rfl ?_
 intro g hS
 unfold m83 at hr
 refine s_sr (s_as rfl (s_ntsr (s_mv rfl (at_lt (lt_geq rfl rfl) rfl (s_mv rfl ?_)))))
 by_cases h23 : 48 ≤ a0.toNat
 ·replace hr := ipos h23 hr
  refine at_on rfl rfl (decide_eq_true (by omega)) ?_
  refine s_mv rfl ?_
  refine at_on rfl rfl (decide_eq_true (by omega)) ?_
  refine at_lt (lt_leq rfl rfl) rfl ?_
  refine at_lt (lt_pick true rfl (decide_eq_true (by omega)) rfl) rfl ?_
  refine s_as rfl (s_nt (at_ret ?_))
  have hq := oinj hr
  clear hr
  subst hq
  exact at_return (.bool (decide ((a0.toNat : Int) ≤ 57))) [] hS Tryz.results83 (.cons (.tmp rfl) .nil) rfl rfl ⟨rfl, rfl⟩
 replace hr := ineg h23 hr
 refine at_off rfl rfl (decide_eq_false (by omega)) rfl ?_
 refine at_off rfl rfl (decide_eq_false (by omega)) rfl ?_
 refine at_lt (lt_pick false rfl (decide_eq_false (by omega)) rfl) rfl ?_
 refine s_as rfl (s_nt (at_ret ?_))
 have hq := oinj hr
 clear hr
 subst hq
 exact at_return (.bool false) [] hS Tryz.results83 (.cons (.tmp rfl) .nil) rfl rfl ⟨rfl, rfl⟩
def m38 (a0 : Str) : Option Bool :=
  if a0.length = 3 then
   if a0 = ([48, 48, 48] : Str) then
    some false
   else
    (a0[0]?).bind fun c27 =>
    (m83 c27).bind fun x29 =>
    if x29 = true then
     (a0[1]?).bind fun c32 =>
     (m83 c32).bind fun x34 =>
     if x34 = true then
      (a0[2]?).bind fun c37 =>
      (m83 c37).bind fun x39 =>
      some x39
     else
      some false
    else
     some false
  else
   some false
def post38 (r : Bool) (v : Value) (fs : List Fact) : Prop := v = .bool r ∧ fs = []
theorem en38 : Enters Tryz.prog 38 := ⟨_, Tryz.func38, by kernel_rfl, rfl⟩
theorem f38_spec {a0 : Str} {r : Bool} (hr : m38 a0 = some r) : Spec Tryz.prog 38 [str a0] [(Ty.str.fact a0 [str a0])] (post38 r) := by
 refine spec_start (N := 25) Tryz.func38 (by kernel_rfl) rfl rfl rfl ?_
 intro g hS
 unfold m38 at hr
 refine s_sr (s_as rfl (s_ntsr (s_mv rfl ?_)))
 refine at_inv 0 rfl (fun l24 => ?_)
 replace l24 : a0.length ≤ 9223372036854775807 := l24
 refine at_lt (lt_slen rfl und9) rfl (at_lt (lt_eql rfl rfl) rfl (s_mv rfl ?_))
 by_cases h25 : a0.length = 3
 ·replace hr := ipos h25 hr
  refine at_on rfl rfl (decide_eq_true (by omega)) ?_
  refine s_mv rfl ?_
  refine at_on rfl rfl (decide_eq_true (by omega)) ?_
  refine at_lt (lt_sneq rfl rfl) rfl ?_
  refine at_lt (lt_pick true rfl (decide_eq_true (by omega)) rfl) rfl ?_
  refine s_mv rfl ?_
  by_cases h26 : a0 = ([48, 48, 48] : Str)
  ·replace hr := ipos h26 hr
   refine at_off rfl rfl (nt (decide_eq_true h26)) rfl (at_off rfl rfl (nt (decide_eq_true h26)) rfl (at_off rfl rfl (nt (decide_eq_true h26)) rfl (at_lt (lt_pick false rfl (nt (decide_eq_true h26)) rfl) rfl (s_mv rfl (at_off rfl rfl rfl rfl (at_off rfl rfl rfl rfl (at_off rfl rfl rfl rfl (at_lt (lt_pick false rfl rfl rfl) rfl (s_mv rfl ?_)))))))))
   refine at_off rfl rfl rfl rfl (at_off rfl rfl rfl rfl (at_off rfl rfl rfl rfl (at_lt (lt_pick false rfl rfl rfl) rfl (s_as rfl (s_nt (at_ret ?_))))))
   have hq := oinj hr
   clear hr
   subst hq
   exact at_return (.bool false) [] hS Tryz.results38 (.cons (.tmp rfl) .nil) rfl rfl ⟨rfl, rfl⟩
  replace hr := ineg h26 hr
  refine at_on rfl rfl (nf (decide_eq_false h26)) (s_mv rfl ?_)
  replace hr := obind hr
  obtain ⟨c27, h28, hr⟩ := hr
  have := (List.getElem?_eq_some_iff.1 h28).1
  have := c27.toNat_lt
  refine at_on rfl rfl (nf (decide_eq_false h26)) ?_
  refine at_lt (lt_sidx rfl rfl und9 (by omega) h28) rfl ?_
  replace hr := obind hr
  obtain ⟨x29, h30, hr⟩ := hr
  refine at_on rfl rfl (nf (decide_eq_false h26)) (at_hv rfl (hv_call0 [] (f83_spec h30) rfl rfl rfl rfl ?_))
  rintro _ _ ⟨rfl, rfl⟩
  refine at_lt (lt_pick true rfl (nf (decide_eq_false h26)) rfl) rfl (s_mv rfl ?_)
  by_cases h31 : x29 = true
  ·replace hr := ipos h31 hr
   refine at_on rfl rfl h31 (s_mv rfl ?_)
   replace hr := obind hr
   obtain ⟨c32, h33, hr⟩ := hr
   have := (List.getElem?_eq_some_iff.1 h33).1
   have := c32.toNat_lt
   refine at_on rfl rfl h31 ?_
   refine at_lt (lt_sidx rfl rfl und9 (by omega) h33) rfl ?_
   replace hr := obind hr
   obtain ⟨x34, h35, hr⟩ := hr
   refine at_on rfl rfl h31 (at_hv rfl (hv_call0 [] (f83_spec h35) rfl rfl rfl rfl ?_))
   rintro _ _ ⟨rfl, rfl⟩
   refine at_lt (lt_pick true rfl h31 rfl) rfl (s_mv rfl ?_)
   by_cases h36 : x34 = true
   ·replace hr := ipos h36 hr
    refine at_on rfl rfl h36 (s_mv rfl ?_)
    replace hr := obind hr
    obtain ⟨c37, h38, hr⟩ := hr
    have := (List.getElem?_eq_some_iff.1 h38).1
    have := c37.toNat_lt
    refine at_on rfl rfl h36 ?_
    refine at_lt (lt_sidx rfl rfl und9 (by omega) h38) rfl ?_
    replace hr := obind hr
    obtain ⟨x39, h40, hr⟩ := hr
    refine at_on rfl rfl h36 (at_hv rfl (hv_call0 [] (f83_spec h40) rfl rfl rfl rfl ?_))
    rintro _ _ ⟨rfl, rfl⟩
    refine at_lt (lt_pick true rfl h36 rfl) rfl (s_as rfl (s_nt (at_ret ?_)))
    have hq := oinj hr
    clear hr
    subst hq
    exact at_return (.bool x39) [] hS Tryz.results38 (.cons (.tmp rfl) .nil) rfl rfl ⟨rfl, rfl⟩
   replace hr := ineg h36 hr
   refine at_off rfl rfl (bf h36) rfl (at_off rfl rfl (bf h36) rfl (at_off rfl rfl (bf h36) rfl (at_lt (lt_pick false rfl (bf h36) rfl) rfl (s_as rfl (s_nt (at_ret ?_))))))
   have hq := oinj hr
   clear hr
   subst hq
   exact at_return (.bool false) [] hS Tryz.results38 (.cons (.tmp rfl) .nil) rfl rfl ⟨rfl, rfl⟩
  replace hr := ineg h31 hr
  refine at_off rfl rfl (bf h31) rfl (at_off rfl rfl (bf h31) rfl (at_off rfl rfl (bf h31) rfl (at_lt (lt_pick false rfl (bf h31) rfl) rfl (s_mv rfl (at_off rfl rfl rfl rfl (at_off rfl rfl rfl rfl (at_off rfl rfl rfl rfl (at_lt (lt_pick false rfl rfl rfl) rfl (s_as rfl ?_)))))))))
  refine s_nt (at_ret ?_)
  have hq := oinj hr
  clear hr
  subst hq
  exact at_return (.bool false) [] hS Tryz.results38 (.cons (.tmp rfl) .nil) rfl rfl ⟨rfl, rfl⟩
 replace hr := ineg h25 hr
 refine at_off rfl rfl (decide_eq_false (by omega)) rfl ?_
 refine at_off rfl rfl (decide_eq_false (by omega)) rfl ?_
 refine at_lt (lt_pick false rfl (decide_eq_false (by omega)) rfl) rfl ?_
 refine s_mv rfl (at_off rfl rfl rfl rfl (at_off rfl rfl rfl rfl (at_off rfl rfl rfl rfl (at_lt (lt_pick false rfl rfl rfl) rfl (s_mv rfl (at_off rfl rfl rfl rfl (at_off rfl rfl rfl rfl (at_off rfl rfl rfl rfl (at_lt (lt_pick false rfl rfl rfl) rfl ?_)))))))))
 refine s_mv rfl (at_off rfl rfl rfl rfl (at_off rfl rfl rfl rfl (at_off rfl rfl rfl rfl (at_lt (lt_pick false rfl rfl rfl) rfl (s_as rfl (s_nt (at_ret ?_)))))))
 have hq := oinj hr
 clear hr
 subst hq
 exact at_return (.bool false) [] hS Tryz.results38 (.cons (.tmp rfl) .nil) rfl rfl ⟨rfl, rfl⟩
def m94 (a0 : UInt8) : Option Bool :=
  if 97 ≤ a0.toNat then
   some (decide ((a0.toNat : Int) ≤ 122))
  else
   some false
def post94 (r : Bool) (v : Value) (fs : List Fact) : Prop := v = .bool r ∧ fs = []
theorem en94 : Enters Tryz.prog 94 := ⟨_, Tryz.func94, by kernel_rfl, rfl⟩
theorem f94_spec {a0 : UInt8} {r : Bool} (hr : m94 a0 = some r) : Spec Tryz.prog 94 [.int .u8 (a0.toNat : Int)] [] (post94 r) := by
 refine spec_start (N := 9) Tryz.func94 (by kernel_rfl) rfl rfl rfl ?_
 intro g hS
 unfold m94 at hr
 refine s_sr (s_as rfl (s_ntsr (s_mv rfl (at_lt (lt_geq rfl rfl) rfl (s_mv rfl ?_)))))
 by_cases h41 : 97 ≤ a0.toNat
 ·replace hr := ipos h41 hr
  refine at_on rfl rfl (decide_eq_true (by omega)) ?_
  refine s_mv rfl ?_
  refine at_on rfl rfl (decide_eq_true (by omega)) ?_
  refine at_lt (lt_leq rfl rfl) rfl ?_
  refine at_lt (lt_pick true rfl (decide_eq_true (by omega)) rfl) rfl ?_
  refine s_as rfl (s_nt (at_ret ?_))
  have hq := oinj hr
  clear hr
  subst hq
  exact at_return (.bool (decide ((a0.toNat : Int) ≤ 122))) [] hS Tryz.results94 (.cons (.tmp rfl) .nil) rfl rfl ⟨rfl, rfl⟩
 replace hr := ineg h41 hr
 refine at_off rfl rfl (decide_eq_false (by omega)) rfl ?_
 refine at_off rfl rfl (decide_eq_false (by omega)) rfl ?_
 refine at_lt (lt_pick false rfl (decide_eq_false (by omega)) rfl) rfl ?_
 refine s_as rfl (s_nt (at_ret ?_))
 have hq := oinj hr
 clear hr
 subst hq
 exact at_return (.bool false) [] hS Tryz.results94 (.cons (.tmp rfl) .nil) rfl rfl ⟨rfl, rfl⟩
def m77 (a0 : UInt8) : Option Bool :=
  (m83 a0).bind fun x42 =>
  if x42 = true then
   some true
  else
   (m94 a0).bind fun x45 =>
   some x45
def post77 (r : Bool) (v : Value) (fs : List Fact) : Prop := v = .bool r ∧ fs = []
theorem en77 : Enters Tryz.prog 77 := ⟨_, Tryz.func77, by kernel_rfl, rfl⟩
theorem f77_spec {a0 : UInt8} {r : Bool} (hr : m77 a0 = some r) : Spec Tryz.prog 77 [.int .u8 (a0.toNat : Int)] [] (post77 r) := by
 refine spec_start (N := 9) Tryz.func77 (by kernel_rfl) rfl rfl rfl ?_
 intro g hS
 unfold m77 at hr
 refine s_sr (s_as rfl (s_ntsr (s_mv rfl ?_)))
 replace hr := obind hr
 obtain ⟨x42, h43, hr⟩ := hr
 refine at_hv rfl (hv_call0 [] (f83_spec h43) rfl rfl rfl rfl ?_)
 rintro _ _ ⟨rfl, rfl⟩
 refine s_mv rfl ?_
 by_cases h44 : x42 = true
 ·replace hr := ipos h44 hr
  refine at_off rfl rfl h44 rfl (at_off rfl rfl h44 rfl (at_lt (lt_pick true rfl h44 rfl) rfl (s_as rfl (s_nt (at_ret ?_)))))
  have hq := oinj hr
  clear hr
  subst hq
  exact at_return (.bool true) [] hS Tryz.results77 (.cons (.tmp rfl) .nil) rfl rfl ⟨rfl, rfl⟩
 replace hr := ineg h44 hr
 refine at_on rfl rfl (bf h44) (s_mv rfl ?_)
 replace hr := obind hr
 obtain ⟨x45, h46, hr⟩ := hr
 refine at_on rfl rfl (bf h44) (at_hv rfl (hv_call0 [] (f94_spec h46) rfl rfl rfl rfl ?_))
 rintro _ _ ⟨rfl, rfl⟩
 refine at_lt (lt_pick false rfl (bf h44) rfl) rfl (s_as rfl (s_nt (at_ret ?_)))
 have hq := oinj hr
 clear hr
 subst hq
 exact at_return (.bool x45) [] hS Tryz.results77 (.cons (.tmp rfl) .nil) rfl rfl ⟨rfl, rfl⟩
def m74 (a0 : UInt8) : Option Bool :=
  if a0.toNat = 32 then
   some true
  else
   (m77 a0).bind fun x48 =>
   some x48
def post74 (r : Bool) (v : Value) (fs : List Fact) : Prop := v = .bool r ∧ fs = []
theorem en74 : Enters Tryz.prog 74 := ⟨_, Tryz.func74, by kernel_rfl, rfl⟩
theorem f74_spec {a0 : UInt8} {r : Bool} (hr : m74 a0 = some r) : Spec Tryz.prog 74 [.int .u8 (a0.toNat : Int)] [] (post74 r) := by
 refine spec_start (N := 9) Tryz.func74 (by kernel_rfl) rfl rfl rfl ?_
 intro g hS
 unfold m74 at hr
 refine s_sr (s_as rfl (s_ntsr (s_mv rfl (at_lt (lt_eql rfl rfl) rfl (s_mv rfl ?_)))))
 by_cases h47 : a0.toNat = 32
 ·replace hr := ipos h47 hr
  refine at_off rfl rfl (decide_eq_true (by omega)) rfl ?_
  refine at_off rfl rfl (decide_eq_true (by omega)) rfl ?_
  refine at_lt (lt_pick true rfl (decide_eq_true (by omega)) rfl) rfl ?_
  refine s_as rfl (s_nt (at_ret ?_))
  have hq := oinj hr
  clear hr
  subst hq
  exact at_return (.bool true) [] hS Tryz.results74 (.cons (.tmp rfl) .nil) rfl rfl ⟨rfl, rfl⟩
 replace hr := ineg h47 hr
 refine at_on rfl rfl (decide_eq_false (by omega)) ?_
 refine s_mv rfl ?_
 replace hr := obind hr
 obtain ⟨x48, h49, hr⟩ := hr
 refine at_on rfl rfl (decide_eq_false (by omega)) ?_
 refine at_hv rfl (hv_call0 [] (f77_spec h49) rfl rfl rfl rfl ?_)
 rintro _ _ ⟨rfl, rfl⟩
 refine at_lt (lt_pick false rfl (decide_eq_false (by omega)) rfl) rfl ?_
 refine s_as rfl (s_nt (at_ret ?_))
 have hq := oinj hr
 clear hr
 subst hq
 exact at_return (.bool x48) [] hS Tryz.results74 (.cons (.tmp rfl) .nil) rfl rfl ⟨rfl, rfl⟩
def m97_l1 (a0 : (List D_api_Sub)) (p1 : (D_api_Sub → Option Bool)) : Nat → Nat → Option (Fl Int Unit)
  | 0, _ => none
  | k + 1, x54 =>
    if x54 < a0.length then
     (a0[x54]?).bind fun x59 =>
     (p1 x59).bind fun x63 =>
     if x63 = true then
      some (Fl.ret (x54 : Int))
     else
      m97_l1 a0 p1 k (x54 + 1)
    else
     some (Fl.go ())
def m97 (a0 : (List D_api_Sub)) (p1 : (D_api_Sub → Option Bool)) : Option Int :=
  (m97_l1 a0 p1 (a0.length + 1) 0).bind fun r => match r with
  | .ret x => some x
  | .go _ =>
   some (-1)
def post97 (r : Int) (v : Value) (fs : List Fact) : Prop := v = .int .i64 r ∧ fs = [((Ty.int .i64).fact r [.int .i64 r])]
theorem en97 : Enters Tryz.prog 97 := ⟨_, Tryz.func97, by kernel_rfl, rfl⟩
theorem f97_spec {a0 : (List D_api_Sub)} {p1 : (D_api_Sub → Option Bool)} {w50 : Value} {w51 : Value} {r : Int} (hr : m97 a0 p1 = some r) : Spec Tryz.prog 97 [w50, w51] [((Ty.slice ty67).fact a0 [w50]), (FnOk Tryz.prog w51 (sp101 p1))] (post97 r) := by
 refine spec_start (N := 19) Tryz.func97 (by kernel_rfl) rfl rfl rfl ?_
 intro g hS
 unfold m97 at hr
 refine s_sr (s_as rfl (s_nt (at_seq (s_sr (s_mv rfl ?_)))))
 refine at_inv 0 rfl (fun i52 => ?_)
 have l53 := slice_len i52
 refine at_lt (lt_flen 0 rfl rfl und57) rfl (s_mv rfl (s_nt (at_int .i64 0 (by simp only [lo, hi]; omega) ?_)))
 replace hr := obind hr
 obtain ⟨r55, hl56, hk57⟩ := hr
 refine at_cutP (V := (Unit) × (Unit)) (fun v => r55 = Fl.go v.1) (fun v => (⟨[], [], [], []⟩ : St)) ?_ ?_
 ·refine at_block ?_
  refine at_loopW (σ := Nat) (V := Unit) (r := r55) (fun n s => m97_l1 a0 p1 n s) (fun s e => (⟨[(0, w50), (1, w51), (7, .int .i64 (a0.length : Int)), (8, .int .i64 (s : Int))], [], [], [((Ty.int .i64).fact (s : Int) [.int .i64 (s : Int)]), ((Ty.slice ty67).fact a0 [w50]), (FnOk Tryz.prog w51 (sp101 p1))]⟩ : St)) (fun _ => rfl) _ 0 () hl56 ⟨⟨rfl, ⟨rfl, ⟨rfl, ⟨rfl, trivial⟩⟩⟩⟩, ⟨[], rfl⟩, ⟨[], rfl⟩, ⟨[0, 1, 2], rfl⟩⟩ ?_
  clear hl56
  intro n x54 hr e
  skip
  skip
  change m97_l1 a0 p1 (n + 1) x54 = some r55 at hr
  change At _ _ (⟨[(0, w50), (1, w51), (7, .int .i64 (a0.length : Int)), (8, .int .i64 (x54 : Int))], [], [], [((Ty.int .i64).fact (x54 : Int) [.int .i64 (x54 : Int)]), ((Ty.slice ty67).fact a0 [w50]), (FnOk Tryz.prog w51 (sp101 p1))]⟩ : St) _
  rw [m97_l1] at hr
  refine s_sr (at_lt (lt_lss rfl rfl) rfl (s_nt (at_seq ?_)))
  by_cases h58 : x54 < a0.length
  ·replace hr := ipos h58 hr
   refine at_true rfl (decide_eq_true (by omega)) ?_
   refine at_skip (at_then (at_seq (at_block (s_sr (s_mv rfl (s_as rfl (s_ntsr (s_mv rfl (s_mv rfl ?_)))))))))
   refine s_mv rfl ?_
   replace hr := obind hr
   obtain ⟨x59, h60, hr⟩ := hr
   have := (List.getElem?_eq_some_iff.1 h60).1
   refine at_elem 1 rfl (nat_at' h60) (fun p61 ec pa62 => ?_)
   refine at_open (A := Unit) 0 rfl _ _ (fun F w h => op67 h) ?_
   rintro _ rfl
   refine at_lt (lt_idx rfl rfl pa62 und57 ti67) rfl (at_lt (lt_load_peek 2 rfl ti67 rfl rfl rfl rfl rfl) rfl ?_)
   replace hr := obind hr
   obtain ⟨x63, h64, hr⟩ := hr
   refine at_hv rfl ?_
   refine hv_callf 5 [1] rfl rfl rfl ⟨x59, x63, h64, rfl, rfl, rfl⟩ rfl rfl ?_
   rintro _ _ ⟨rfl, rfl⟩
   refine s_nt ?_
   by_cases h65 : x63 = true
   ·replace hr := ipos h65 hr
    refine at_true rfl h65 (s_sr (s_mv rfl (s_as rfl (s_nt (at_ret ?_)))))
    have hq := oinj hr
    clear hr
    subst hq
    have hq := oinj hk57
    clear hk57
    subst hq
    refine at_in_ret (at_then_ret (at_then_ret (at_in_ret (at_then_ret (at_then_ret ?_)))))
    exact at_return (.int .i64 (x54 : Int)) [3] hS Tryz.results97 (.cons (.tmp rfl) .nil) rfl rfl ⟨rfl, rfl⟩
   replace hr := ineg h65 hr
   refine at_false rfl (bf h65) (at_skip (at_in (s_tr (at_lt (lt_add rfl rfl (by simp only [lo, hi]; omega)) rfl (s_mv rfl (at_nil (at_int .i64 (x54 + 1 : Int) (by simp only [lo, hi]; omega) ?_)))))))
   exact at_again (σ := Nat) (V := Unit) (lp := fun n s => m97_l1 a0 p1 n s) (S := fun s e => (⟨[(0, w50), (1, w51), (7, .int .i64 (a0.length : Int)), (8, .int .i64 (s : Int))], [], [], [((Ty.int .i64).fact (s : Int) [.int .i64 (s : Int)]), ((Ty.slice ty67).fact a0 [w50]), (FnOk Tryz.prog w51 (sp101 p1))]⟩ : St)) (x54 + 1) () hr ⟨⟨rfl, ⟨rfl, ⟨rfl, ⟨rfl, trivial⟩⟩⟩⟩, ⟨[], rfl⟩, ⟨[], rfl⟩, ⟨[0, 5, 6], rfl⟩⟩
  replace hr := ineg h58 hr
  refine at_false rfl (decide_eq_false (by omega)) ?_
  refine at_exit (at_then_exit (at_then_exit (at_in_exit ?_)))
  have hq := oinj hr
  clear hr
  subst hq
  exact at_leafP ((), ()) rfl ⟨trivial, ⟨[], rfl⟩, ⟨[], rfl⟩, ⟨[], rfl⟩⟩
 rintro ⟨_, _⟩ hp
 replace hr := hk57
 subst hp
 clear hl56
 change At _ _ (⟨[], [], [], []⟩ : St) _
 refine s_tsr (s_as rfl (s_nt (at_ret ?_)))
 have hq := oinj hr
 clear hr
 subst hq
 refine at_int .i64 (-1) (by simp only [lo, hi]; omega) ?_
 exact at_return (.int .i64 (-1)) [0] hS Tryz.results97 (.cons (.tmp rfl) .nil) rfl rfl ⟨rfl, rfl⟩
def m75 (a0 : (List D_api_Sub)) (p1 : (D_api_Sub → Option Bool)) : Option Bool :=
  (m97 a0 p1).bind fun x68 =>
  some (decide ((0 : Int) ≤ x68))
def post75 (r : Bool) (v : Value) (fs : List Fact) : Prop := v = .bool r ∧ fs = []
theorem en75 : Enters Tryz.prog 75 := ⟨_, Tryz.func75, by kernel_rfl, rfl⟩
theorem f75_spec {a0 : (List D_api_Sub)} {p1 : (D_api_Sub → Option Bool)} {w66 : Value} {w67 : Value} {r : Bool} (hr : m75 a0 p1 = some r) : Spec Tryz.prog 75 [w66, w67] [((Ty.slice ty67).fact a0 [w66]), (FnOk Tryz.prog w67 (sp101 p1))] (post75 r) := by
 refine spec_start (N := 9) Tryz.func75 (by kernel_rfl) rfl rfl rfl ?_
 intro g hS
 unfold m75 at hr
 refine s_sr (s_as rfl (s_ntsr (s_mv rfl (s_mv rfl ?_))))
 replace hr := obind hr
 obtain ⟨x68, h69, hr⟩ := hr
 refine at_hv rfl (hv_call0 [0, 1] (f97_spec h69) rfl rfl rfl rfl ?_)
 rintro _ _ ⟨rfl, rfl⟩
 refine at_inv 0 rfl (fun l70 => ?_)
 replace l70 : (-9223372036854775808) ≤ x68 ∧ x68 ≤ 9223372036854775807 := l70
 refine at_lt (lt_geq rfl rfl) rfl (s_as rfl (s_nt (at_ret ?_)))
 have hq := oinj hr
 clear hr
 subst hq
 exact at_return (.bool (decide ((0 : Int) ≤ x68))) [] hS Tryz.results75 (.cons (.tmp rfl) .nil) rfl rfl ⟨rfl, rfl⟩
def m172 (a0 : Str) : Option (Int × Int) := if a0.length ≤ 9223372036854775807 then some (((Lib.decodeGo ⟨a0.toArray⟩).1 : Int), ((Lib.decodeGo ⟨a0.toArray⟩).2 : Int)) else none
def post172 (r : (Int × Int)) (v : Value) (fs : List Fact) : Prop := v = .tuple #[.int .i32 r.1, .int .i64 r.2] ∧ fs = [((Ty.int .i32).fact r.1 [.int .i32 r.1]), ((Ty.int .i64).fact r.2 [.int .i64 r.2])]
theorem en172 : Enters Tryz.prog 172 := ⟨_, Tryz.func172, by kernel_rfl, rfl⟩
def ren172 : Go.Shelf.Ren := ⟨fun | 260 => 172 | n => n, fun | 9 => 9 | 21 => 21 | 3 => 3 | 4 => 4 | 5 => 5 | 119 => 194 | 0 => 0 | 46 => 150 | 139 => 197 | 138 => 196 | n => n, fun | 3 => 4 | 4 => 5 | n => n⟩
theorem lays172 : Lays.n260 Tryz.prog ren172 := { mixed := by kernel_rfl, f260 := Tryz.func172.trans (congrArg some (by kernel_rfl)), t0 := Tryz.underlying0, a0 := Tryz.isAgg0, z0 := Tryz.sizeOf0, v0 := Tryz.zeroValue0, t3 := Tryz.underlying3, a3 := Tryz.isAgg3, z3 := Tryz.sizeOf3, v3 := Tryz.zeroValue3, t4 := Tryz.underlying4, a4 := Tryz.isAgg4, z4 := Tryz.sizeOf4, v4 := Tryz.zeroValue4, t5 := Tryz.underlying5, a5 := Tryz.isAgg5, z5 := Tryz.sizeOf5, v5 := Tryz.zeroValue5, t9 := Tryz.underlying9, a9 := Tryz.isAgg9, z9 := Tryz.sizeOf9, v9 := Tryz.zeroValue9, t21 := Tryz.underlying21, a21 := Tryz.isAgg21, z21 := Tryz.sizeOf21, v21 := Tryz.zeroValue21, t46 := Tryz.underlying150, a46 := Tryz.isAgg150, z46 := Tryz.sizeOf150, v46 := Tryz.zeroValue150, t119 := Tryz.underlying194, a119 := Tryz.isAgg194, z119 := Tryz.sizeOf194, t138 := Tryz.underlying196, a138 := Tryz.isAgg196, z138 := Tryz.sizeOf196, v138 := Tryz.zeroValue196, t139 := Tryz.underlying197, a139 := Tryz.isAgg197, z139 := Tryz.sizeOf197, v139 := Tryz.zeroValue197, g3 := by kernel_rfl, g4 := by kernel_rfl }
theorem f172_spec {a0 : Str} {r : (Int × Int)} (hr : m172 a0 = some r) : Spec Tryz.prog 172 [str a0] [(Ty.str.fact a0 [str a0]), (tabsF Tryz.prog 4 5)] (post172 r) := by
 unfold m172 at hr
 obtain ⟨hb, hr⟩ := imust hr
 have hq := oinj hr
 subst hq
 refine spec_of_calls (v := .tuple #[.int .i32 ((Lib.decodeGo ⟨a0.toArray⟩).1 : Int), .int .i64 ((Lib.decodeGo ⟨a0.toArray⟩).2 : Int)]) _ en172 ⟨rfl, rfl⟩ (List.forall_mem_cons.2 ⟨fun F w => ⟨rfl, ?_⟩, List.forall_mem_cons.2 ⟨fun F w => ⟨rfl, ?_⟩, fun _ h => by cases h⟩⟩) (fun w M0 hf => ?_)
 ·have := decodeGo_bd ⟨a0.toArray⟩
  simp only [lo, hi]; omega
 ·have := decodeGo_bd ⟨a0.toArray⟩
  simp only [lo, hi]; omega
 ·exact Any.utf8_decodeRuneInStringSlow lays172 ⟨a0.toArray⟩ w (hf (tabsF Tryz.prog 4 5) (by simp)).1.2.2

def m142 (a0 : Str) : Option (Int × Int) :=
  if a0 = ([] : Str) then
   (m172 a0).bind fun x72 =>
   some (x72.1, x72.2)
  else
   (a0[0]?).bind fun c76 =>
   if c76.toNat < 128 then
    (a0[0]?).bind fun c79 =>
    some ((c79.toNat : Int), 1)
   else
    (m172 a0).bind fun x81 =>
    some (x81.1, x81.2)
def post142 (r : (Int × Int)) (v : Value) (fs : List Fact) : Prop := v = .tuple #[.int .i32 r.1, .int .i64 r.2] ∧ fs = [((Ty.int .i32).fact r.1 [.int .i32 r.1]), ((Ty.int .i64).fact r.2 [.int .i64 r.2])]
theorem en142 : Enters Tryz.prog 142 := ⟨_, Tryz.func142, by kernel_rfl, rfl⟩
theorem f142_spec {a0 : Str} {r : (Int × Int)} (hr : m142 a0 = some r) : Spec Tryz.prog 142 [str a0] [(Ty.str.fact a0 [str a0]), (tabsF Tryz.prog 4 5)] (post142 r) := by
 refine spec_start (N := 19) Tryz.func142 (by kernel_rfl) rfl rfl rfl ?_
 intro g hS
 unfold m142 at hr
 refine s_sr (s_as rfl (s_as rfl (s_nt (at_seq (s_sr (s_mv rfl (at_lt (lt_sneq rfl rfl) rfl (s_mv rfl ?_))))))))
 by_cases h71 : a0 = ([] : Str)
 ·replace hr := ipos h71 hr
  refine at_off rfl rfl (nt (decide_eq_true h71)) rfl (at_off rfl rfl (nt (decide_eq_true h71)) rfl (at_off rfl rfl (nt (decide_eq_true h71)) rfl (at_lt (lt_pick false rfl (nt (decide_eq_true h71)) rfl) rfl (s_nt (at_false rfl rfl (at_region (s_mv rfl ?_)))))))
  replace hr := obind hr
  obtain ⟨x72, h73, hr⟩ := hr
  refine at_hv rfl (hv_call0 [0, 1] (f172_spec h73) rfl rfl rfl rfl ?_)
  rintro _ _ ⟨rfl, rfl⟩
  refine at_inv 0 rfl (fun l74 => ?_)
  replace l74 : (-2147483648) ≤ x72.1 ∧ x72.1 ≤ 2147483647 := l74
  refine at_inv 1 rfl (fun l75 => ?_)
  replace l75 : (-9223372036854775808) ≤ x72.2 ∧ x72.2 ≤ 9223372036854775807 := l75
  refine s_mv rfl (at_lt (lt_extract rfl rfl) rfl (at_lt (lt_extract rfl rfl) rfl (s_as rfl (s_as rfl (s_nt (at_ret ?_))))))
  have hq := oinj hr
  clear hr
  subst hq
  exact at_return (.tuple #[.int .i32 x72.1, .int .i64 x72.2]) [0, 1] hS Tryz.results142 (.cons (.tmp rfl) (.cons (.tmp rfl) .nil)) rfl rfl ⟨rfl, rfl⟩
 replace hr := ineg h71 hr
 refine at_on rfl rfl (nf (decide_eq_false h71)) (s_mv rfl ?_)
 replace hr := obind hr
 obtain ⟨c76, h77, hr⟩ := hr
 have := (List.getElem?_eq_some_iff.1 h77).1
 have := c76.toNat_lt
 refine at_on rfl rfl (nf (decide_eq_false h71)) ?_
 refine at_lt (lt_sidx rfl rfl und9 (by omega) h77) rfl ?_
 refine at_on rfl rfl (nf (decide_eq_false h71)) (at_lt (lt_lss rfl rfl) rfl (at_lt (lt_pick true rfl (nf (decide_eq_false h71)) rfl) rfl (s_nt ?_)))
 by_cases h78 : c76.toNat < 128
 ·replace hr := ipos h78 hr
  refine at_true rfl (decide_eq_true (by omega)) ?_
  refine s_sr (s_mv rfl ?_)
  replace hr := obind hr
  obtain ⟨c79, h80, hr⟩ := hr
  have := (List.getElem?_eq_some_iff.1 h80).1
  have := c79.toNat_lt
  refine at_lt (lt_sidx rfl rfl und9 (by omega) h80) rfl ?_
  refine at_lt (lt_convint rfl (iso und5) und21 (u8_in_i32 c79)) rfl (s_as rfl (s_as rfl (s_nt (at_ret ?_))))
  have hq := oinj hr
  clear hr
  subst hq
  refine at_then_ret (at_int .i32 (c79.toNat : Int) (u8_in_i32 c79) (at_int .i64 1 (by simp only [lo, hi]; omega) ?_))
  exact at_return (.tuple #[.int .i32 (c79.toNat : Int), .int .i64 1]) [1, 0] hS Tryz.results142 (.cons (.tmp rfl) (.cons (.tmp rfl) .nil)) rfl rfl ⟨rfl, rfl⟩
 replace hr := ineg h78 hr
 refine at_false rfl (decide_eq_false (by omega)) ?_
 refine at_region (s_mv rfl ?_)
 replace hr := obind hr
 obtain ⟨x81, h82, hr⟩ := hr
 refine at_hv rfl (hv_call0 [0, 1] (f172_spec h82) rfl rfl rfl rfl ?_)
 rintro _ _ ⟨rfl, rfl⟩
 refine at_inv 0 rfl (fun l83 => ?_)
 replace l83 : (-2147483648) ≤ x81.1 ∧ x81.1 ≤ 2147483647 := l83
 refine at_inv 1 rfl (fun l84 => ?_)
 replace l84 : (-9223372036854775808) ≤ x81.2 ∧ x81.2 ≤ 9223372036854775807 := l84
 refine s_mv rfl (at_lt (lt_extract rfl rfl) rfl (at_lt (lt_extract rfl rfl) rfl (s_as rfl (s_as rfl (s_nt (at_ret ?_))))))
 have hq := oinj hr
 clear hr
 subst hq
 exact at_return (.tuple #[.int .i32 x81.1, .int .i64 x81.2]) [0, 1] hS Tryz.results142 (.cons (.tmp rfl) (.cons (.tmp rfl) .nil)) rfl rfl ⟨rfl, rfl⟩
def m191 (a0 : Int) (a1 : Int) (a2 : Int) : Option Bool :=
  if a1 ≤ a0 then
   some (decide (a0 ≤ a2))
  else
   some false
def post191 (r : Bool) (v : Value) (fs : List Fact) : Prop := v = .bool r ∧ fs = []
theorem en191 : Enters Tryz.prog 191 := ⟨_, Tryz.func191, by kernel_rfl, rfl⟩
theorem f191_spec {a0 : Int} {a1 : Int} {a2 : Int} {r : Bool} (hr : m191 a0 a1 a2 = some r) : Spec Tryz.prog 191 [.int .i64 a0, .int .i64 a1, .int .i64 a2] [((Ty.int .i64).fact a0 [.int .i64 a0]), ((Ty.int .i64).fact a1 [.int .i64 a1]), ((Ty.int .i64).fact a2 [.int .i64 a2])] (post191 r) := by
 refine spec_start (N := 15) Tryz.func191 (by kernel_rfl) rfl rfl rfl ?_
 intro g hS
 unfold m191 at hr
 refine at_inv 0 rfl (fun l85 => ?_)
 replace l85 : (-9223372036854775808) ≤ a0 ∧ a0 ≤ 9223372036854775807 := l85
 refine at_inv 1 rfl (fun l86 => ?_)
 replace l86 : (-9223372036854775808) ≤ a1 ∧ a1 ≤ 9223372036854775807 := l86
 refine at_inv 2 rfl (fun l87 => ?_)
 replace l87 : (-9223372036854775808) ≤ a2 ∧ a2 ≤ 9223372036854775807 := l87
 refine s_sr (s_as rfl (s_ntsr (s_mv rfl (s_mv rfl (at_lt (lt_geq rfl rfl) rfl (s_mv rfl ?_))))))
 by_cases h88 : a1 ≤ a0
 ·replace hr := ipos h88 hr
  refine at_on rfl rfl (decide_eq_true (by first | exact h88 | omega)) ?_
  refine s_mv rfl ?_
  refine at_on rfl rfl (decide_eq_true (by first | exact h88 | omega)) ?_
  refine s_mv rfl ?_
  refine at_on rfl rfl (decide_eq_true (by first | exact h88 | omega)) ?_
  refine at_lt (lt_leq rfl rfl) rfl ?_
  refine at_lt (lt_pick true rfl (decide_eq_true (by first | exact h88 | omega)) rfl) rfl ?_
  refine s_as rfl (s_nt (at_ret ?_))
  have hq := oinj hr
  clear hr
  subst hq
  exact at_return (.bool (decide (a0 ≤ a2))) [] hS Tryz.results191 (.cons (.tmp rfl) .nil) rfl rfl ⟨rfl, rfl⟩
 replace hr := ineg h88 hr
 refine at_off rfl rfl (decide_eq_false (by first | exact h88 | omega)) rfl ?_
 refine at_off rfl rfl (decide_eq_false (by first | exact h88 | omega)) rfl ?_
 refine at_off rfl rfl (decide_eq_false (by first | exact h88 | omega)) rfl ?_
 refine at_lt (lt_pick false rfl (decide_eq_false (by first | exact h88 | omega)) rfl) rfl ?_
 refine s_as rfl (s_nt (at_ret ?_))
 have hq := oinj hr
 clear hr
 subst hq
 exact at_return (.bool false) [] hS Tryz.results191 (.cons (.tmp rfl) .nil) rfl rfl ⟨rfl, rfl⟩
def m164 (a0 : Int) : Option Int :=
  some (IntKind.i64.wrap (Int.tdiv (IntKind.i64.wrap (a0 + 16)) 8))
def post164 (r : Int) (v : Value) (fs : List Fact) : Prop := v = .int .i64 r ∧ fs = [((Ty.int .i64).fact r [.int .i64 r])]
theorem en164 : Enters Tryz.prog 164 := ⟨_, Tryz.func164, by kernel_rfl, rfl⟩
theorem f164_spec {a0 : Int} {r : Int} (hr : m164 a0 = some r) : Spec Tryz.prog 164 [.int .i64 a0] [((Ty.int .i64).fact a0 [.int .i64 a0])] (post164 r) := by
 refine spec_start (N := 6) Tryz.func164 (by kernel_rfl) rfl rfl rfl ?_
 intro g hS
 unfold m164 at hr
 refine at_inv 0 rfl (fun l89 => ?_)
 replace l89 : (-9223372036854775808) ≤ a0 ∧ a0 ≤ 9223372036854775807 := l89
 refine s_sr (s_as rfl (s_ntsr (s_mv rfl (at_lt (lt_addw rfl rfl) rfl ?_))))
 refine at_lt (lt_quo rfl rfl (by decide)) rfl ?_
 refine s_as rfl (s_nt (at_ret ?_))
 have hq := oinj hr
 clear hr
 subst hq
 refine at_int .i64 (IntKind.i64.wrap (Int.tdiv (IntKind.i64.wrap (a0 + 16)) 8)) (wrap_bd .i64 _) ?_
 exact at_return (.int .i64 (IntKind.i64.wrap (Int.tdiv (IntKind.i64.wrap (a0 + 16)) 8))) [0] hS Tryz.results164 (.cons (.tmp rfl) .nil) rfl rfl ⟨rfl, rfl⟩
def m185 (a0 : Str) (a1 : UInt8) : Option Int := if a0.length ≤ 9223372036854775807 then some (Lib.indexByte a0 a1) else none
theorem f185_specX {a0 : Str} {a1 : UInt8} {r : Int} (hr : m185 a0 a1 = some r) : SpecX Tryz.prog 185 [str a0, .int .u8 (a1.toNat : Int)] (postInt r) := by
 unfold m185 at hr
 obtain ⟨hb, hr⟩ := imust hr
 obtain rfl := oinj hr
 exact ext_indexByte Tryz.func185 (by kernel_rfl) (by kernel_rfl) rfl rfl hb

def m162 (a0 : Str) (a1 : UInt8) : Option Int :=
  (m185 a0 a1).bind fun x90 =>
  some x90
def post162 (r : Int) (v : Value) (fs : List Fact) : Prop := v = .int .i64 r ∧ fs = [((Ty.int .i64).fact r [.int .i64 r])]
theorem en162 : Enters Tryz.prog 162 := ⟨_, Tryz.func162, by kernel_rfl, rfl⟩
theorem f162_spec {a0 : Str} {a1 : UInt8} {r : Int} (hr : m162 a0 a1 = some r) : Spec Tryz.prog 162 [str a0, .int .u8 (a1.toNat : Int)] [(Ty.str.fact a0 [str a0])] (post162 r) := by
 refine spec_start (N := 8) Tryz.func162 (by kernel_rfl) rfl rfl rfl ?_
 intro g hS
 unfold m162 at hr
 refine s_sr (s_as rfl (s_ntsr (s_mv rfl (s_mv rfl ?_))))
 replace hr := obind hr
 obtain ⟨x90, h91, hr⟩ := hr
 refine at_hv rfl (hv_callx (f185_specX h91) rfl rfl rfl ?_)
 rintro _ _ ⟨rfl, rfl⟩
 refine at_inv 0 rfl (fun l92 => ?_)
 replace l92 : (-9223372036854775808) ≤ x90 ∧ x90 ≤ 9223372036854775807 := l92
 refine s_as rfl (s_nt (at_ret ?_))
 have hq := oinj hr
 clear hr
 subst hq
 exact at_return (.int .i64 x90) [0] hS Tryz.results162 (.cons (.tmp rfl) .nil) rfl rfl ⟨rfl, rfl⟩
def m203 (a0 : Str) (a1 : UInt8) : Option Int :=
  (m162 a0 a1).bind fun x93 =>
  some x93
def post203 (r : Int) (v : Value) (fs : List Fact) : Prop := v = .int .i64 r ∧ fs = [((Ty.int .i64).fact r [.int .i64 r])]
theorem en203 : Enters Tryz.prog 203 := ⟨_, Tryz.func203, by kernel_rfl, rfl⟩
theorem f203_spec {a0 : Str} {a1 : UInt8} {r : Int} (hr : m203 a0 a1 = some r) : Spec Tryz.prog 203 [str a0, .int .u8 (a1.toNat : Int)] [(Ty.str.fact a0 [str a0])] (post203 r) := by
 refine spec_start (N := 8) Tryz.func203 (by kernel_rfl) rfl rfl rfl ?_
 intro g hS
 unfold m203 at hr
 refine s_sr (s_as rfl (s_ntsr (s_mv rfl (s_mv rfl ?_))))
 replace hr := obind hr
 obtain ⟨x93, h94, hr⟩ := hr
 refine at_hv rfl (hv_call0 [0] (f162_spec h94) rfl rfl rfl rfl ?_)
 rintro _ _ ⟨rfl, rfl⟩
 refine at_inv 0 rfl (fun l95 => ?_)
 replace l95 : (-9223372036854775808) ≤ x93 ∧ x93 ≤ 9223372036854775807 := l95
 refine s_as rfl (s_nt (at_ret ?_))
 have hq := oinj hr
 clear hr
 subst hq
 exact at_return (.int .i64 x93) [0] hS Tryz.results203 (.cons (.tmp rfl) .nil) rfl rfl ⟨rfl, rfl⟩
def m204 (a0 : Int) : Option Bool :=
  Option.bind (α := Bool) (
   if (0 : Int) ≤ a0 then
    some (decide (a0 < 55296))
   else
    some false
  ) fun x97 =>
  if x97 = true then
   some true
  else
   Option.bind (α := Bool) (
    if (57343 : Int) < a0 then
     some (decide (a0 ≤ 1114111))
    else
     some false
   ) fun x101 =>
   if x101 = true then
    some true
   else
    some false
def post204 (r : Bool) (v : Value) (fs : List Fact) : Prop := v = .bool r ∧ fs = []
theorem en204 : Enters Tryz.prog 204 := ⟨_, Tryz.func204, by kernel_rfl, rfl⟩
theorem f204_spec {a0 : Int} {r : Bool} (hr : m204 a0 = some r) : Spec Tryz.prog 204 [.int .i32 a0] [((Ty.int .i32).fact a0 [.int .i32 a0])] (post204 r) := by
 refine spec_start (N := 17) Tryz.func204 (by kernel_rfl) rfl rfl rfl ?_
 intro g hS
 unfold m204 at hr
 refine at_inv 0 rfl (fun l96 => ?_)
 replace l96 : (-2147483648) ≤ a0 ∧ a0 ≤ 2147483647 := l96
 refine s_sr (s_as rfl (s_nt (at_seq (at_block (at_seq ?_)))))
 replace hr := obind hr
 obtain ⟨x97, hc98, hr⟩ := hr
 refine at_cut (V := Unit) (fun e => (⟨[(0, .int .i32 a0), (3, .bool x97)], [], [], [((Ty.int .i32).fact a0 [.int .i32 a0])]⟩ : St)) ?_ ?_
 ·clear hr
  have hr := hc98
  clear hc98
  refine at_region (s_mv rfl (at_lt (lt_leq rfl rfl) rfl (s_mv rfl ?_)))
  by_cases h99 : (0 : Int) ≤ a0
  ·replace hr := ipos h99 hr
   refine at_on rfl rfl (decide_eq_true (by first | exact h99 | omega)) ?_
   refine s_mv rfl ?_
   refine at_on rfl rfl (decide_eq_true (by first | exact h99 | omega)) ?_
   refine at_lt (lt_lss rfl rfl) rfl ?_
   refine at_lt (lt_pick true rfl (decide_eq_true (by first | exact h99 | omega)) rfl) rfl ?_
   refine s_as rfl (at_nil ?_)
   have hq := oinj hr
   clear hr
   subst hq
   exact at_leaf () ⟨⟨rfl, ⟨rfl, trivial⟩⟩, ⟨[], rfl⟩, ⟨[], rfl⟩, ⟨[0], rfl⟩⟩
  replace hr := ineg h99 hr
  refine at_off rfl rfl (decide_eq_false (by first | exact h99 | omega)) rfl ?_
  refine at_off rfl rfl (decide_eq_false (by first | exact h99 | omega)) rfl ?_
  refine at_lt (lt_pick false rfl (decide_eq_false (by first | exact h99 | omega)) rfl) rfl ?_
  refine s_as rfl (at_nil ?_)
  have hq := oinj hr
  clear hr
  subst hq
  exact at_leaf () ⟨⟨rfl, ⟨rfl, trivial⟩⟩, ⟨[], rfl⟩, ⟨[], rfl⟩, ⟨[0], rfl⟩⟩
 clear hc98
 intro _
 change At _ _ (⟨[(0, .int .i32 a0), (3, .bool x97)], [], [], [((Ty.int .i32).fact a0 [.int .i32 a0])]⟩ : St) _
 refine at_then ?_
 by_cases h100 : x97 = true
 ·replace hr := ipos h100 hr
  refine at_true rfl h100 (s_sr (s_as rfl (s_nt (at_ret ?_))))
  have hq := oinj hr
  clear hr
  subst hq
  refine at_in_ret (at_then_ret ?_)
  exact at_return (.bool true) [] hS Tryz.results204 (.cons (.tmp rfl) .nil) rfl rfl ⟨rfl, rfl⟩
 replace hr := ineg h100 hr
 refine at_false rfl (bf h100) (at_seq ?_)
 replace hr := obind hr
 obtain ⟨x101, hc102, hr⟩ := hr
 refine at_cut (V := Unit) (fun e => (⟨[(10, .bool x101)], [], [], []⟩ : St)) ?_ ?_
 ·clear hr
  have hr := hc102
  clear hc102
  refine at_region (s_mv rfl (at_lt (lt_lss rfl rfl) rfl (s_mv rfl ?_)))
  by_cases h103 : (57343 : Int) < a0
  ·replace hr := ipos h103 hr
   refine at_on rfl rfl (decide_eq_true (by first | exact h103 | omega)) ?_
   refine s_mv rfl ?_
   refine at_on rfl rfl (decide_eq_true (by first | exact h103 | omega)) ?_
   refine at_lt (lt_leq rfl rfl) rfl ?_
   refine at_lt (lt_pick true rfl (decide_eq_true (by first | exact h103 | omega)) rfl) rfl ?_
   refine s_as rfl (at_nil ?_)
   have hq := oinj hr
   clear hr
   subst hq
   exact at_leaf () ⟨⟨rfl, trivial⟩, ⟨[], rfl⟩, ⟨[], rfl⟩, ⟨[], rfl⟩⟩
  replace hr := ineg h103 hr
  refine at_off rfl rfl (decide_eq_false (by first | exact h103 | omega)) rfl ?_
  refine at_off rfl rfl (decide_eq_false (by first | exact h103 | omega)) rfl ?_
  refine at_lt (lt_pick false rfl (decide_eq_false (by first | exact h103 | omega)) rfl) rfl ?_
  refine s_as rfl (at_nil ?_)
  have hq := oinj hr
  clear hr
  subst hq
  exact at_leaf () ⟨⟨rfl, trivial⟩, ⟨[], rfl⟩, ⟨[], rfl⟩, ⟨[], rfl⟩⟩
 clear hc102
 intro _
 change At _ _ (⟨[(10, .bool x101)], [], [], []⟩ : St) _
 refine at_then ?_
 by_cases h104 : x101 = true
 ·replace hr := ipos h104 hr
  refine at_true rfl h104 (s_sr (s_as rfl (s_nt (at_ret ?_))))
  have hq := oinj hr
  clear hr
  subst hq
  refine at_in_ret (at_then_ret ?_)
  exact at_return (.bool true) [] hS Tryz.results204 (.cons (.tmp rfl) .nil) rfl rfl ⟨rfl, rfl⟩
 replace hr := ineg h104 hr
 refine at_false rfl (bf h104) (at_skip (at_in (s_tsr (s_as rfl (s_nt (at_ret ?_))))))
 have hq := oinj hr
 clear hr
 subst hq
 exact at_return (.bool false) [] hS Tryz.results204 (.cons (.tmp rfl) .nil) rfl rfl ⟨rfl, rfl⟩
def m194_l2 (a0 : Str) (a1 : Int) (x126 : Int) : Nat → Nat → Option (Fl Int Unit)
  | 0, _ => none
  | k + 1, x142 =>
    if x142 < (encR a1).length then
     (at? a0 (IntKind.i64.wrap (x126 - (x142 : Int)))).bind fun c147 =>
     (at? (encR a1) (IntKind.i64.wrap (((encR a1).length : Int) - 1 - (x142 : Int)))).bind fun c149 =>
     if c147.toNat = c149.toNat then
      if x142 + 1 ≤ 9223372036854775807 then
       m194_l2 a0 a1 x126 k (x142 + 1)
      else none
     else
      some (Fl.ret x126)
    else
     some (Fl.go ())
def m194_l3 (a0 : Str) (a1 : Int) (x126 : Int) (x156 : Int) : Nat → Nat → Option (Fl Int Unit)
  | 0, _ => none
  | k + 1, x161 =>
    if x161 < (encR a1).length then
     (at? a0 (IntKind.i64.wrap (IntKind.i64.wrap (x126 + (IntKind.i64.wrap (x156 + 1))) - (x161 : Int)))).bind fun c166 =>
     (at? (encR a1) (IntKind.i64.wrap (((encR a1).length : Int) - 1 - (x161 : Int)))).bind fun c168 =>
     if c166.toNat = c168.toNat then
      if x161 + 1 ≤ 9223372036854775807 then
       m194_l3 a0 a1 x126 x156 k (x161 + 1)
      else none
     else
      some (Fl.ret (IntKind.i64.wrap (x126 + (IntKind.i64.wrap (x156 + 1)))))
    else
     some (Fl.go ())
def m194_l1 (a0 : Str) (a1 : Int) : Nat → Int → Nat → Option (Fl Int Unit)
  | 0, _, _ => none
  | k + 1, x126, x127 =>
    if x126 < (a0.length : Int) then
     withC (α := Int) (fun x134 =>
      if x127 + 1 ≤ 9223372036854775807 then
       (m164 (IntKind.i64.wrap (x134 + 1))).bind fun x174 =>
       if x174 < (x127 : Int) + 1 then
        if IntKind.i64.wrap (x134 + 1) < (a0.length : Int) then
         none
        else
         m194_l1 a0 a1 k (IntKind.i64.wrap (x134 + 1)) (x127 + 1)
       else
        m194_l1 a0 a1 k (IntKind.i64.wrap (x134 + 1)) (x127 + 1)
      else none
     ) fun D135 =>
     (at? a0 x126).bind fun c137 =>
     (at? (encR a1) (((encR a1).length : Int) - 1)).bind fun c139 =>
     if c137.toNat = c139.toNat then
      (m194_l2 a0 a1 x126 ((encR a1).length + 1) 1).bind fun r => match r with
      | .ret x => D135 x
      | .go _ =>
       some (Fl.ret (IntKind.i64.wrap (x126 - (((encR a1).length : Int) - 1))))
     else
      if 0 ≤ IntKind.i64.wrap (x126 + 1) ∧ (IntKind.i64.wrap (x126 + 1)).toNat ≤ a0.length then
       (at? (encR a1) (((encR a1).length : Int) - 1)).bind fun c154 =>
       (m203 (a0.drop ((IntKind.i64.wrap (x126 + 1)).toNat)) c154).bind fun x156 =>
       if x156 < 0 then
        some (Fl.ret (-1))
       else
        (m194_l3 a0 a1 x126 x156 ((encR a1).length + 1) 1).bind fun r => match r with
        | .ret x => D135 x
        | .go _ =>
         some (Fl.ret (IntKind.i64.wrap (IntKind.i64.wrap (x126 + (IntKind.i64.wrap (x156 + 1))) - (((encR a1).length : Int) - 1))))
      else none
    else
     some (Fl.go ())
def m194 (a0 : Str) (a1 : Int) : Option Int :=
  Option.bind (α := Bool) (
   if (0 : Int) ≤ a1 then
    some (decide (a1 < 128))
   else
    some false
  ) fun x106 =>
  if x106 = true then
   (m203 a0 (w8 a1)).bind fun x110 =>
   some x110
  else
   if a1 = 65533 then
    none
   else
    (m204 a1).bind fun x114 =>
    if x114 = true then
     (m194_l1 a0 a1 (a0.length + 1) (((encR a1).length : Int) - 1) 0).bind fun r => match r with
     | .ret x => some x
     | .go _ =>
      some (-1)
    else
     some (-1)
def post194 (r : Int) (v : Value) (fs : List Fact) : Prop := v = .int .i64 r ∧ fs = [((Ty.int .i64).fact r [.int .i64 r])]
theorem en194 : Enters Tryz.prog 194 := ⟨_, Tryz.func194, by kernel_rfl, rfl⟩
theorem f194_spec {a0 : Str} {a1 : Int} {r : Int} (hr : m194 a0 a1 = some r) : Spec Tryz.prog 194 [str a0, .int .i32 a1] [(Ty.str.fact a0 [str a0]), ((Ty.int .i32).fact a1 [.int .i32 a1])] (post194 r) := by
 refine spec_start (N := 187) Tryz.func194 (by kernel_rfl) rfl rfl rfl ?_
 intro g hS
 unfold m194 at hr
 refine at_inv 1 rfl (fun l105 => ?_)
 replace l105 : (-2147483648) ≤ a1 ∧ a1 ≤ 2147483647 := l105
 refine s_sr (s_as rfl (s_nt (at_block (at_seq ?_))))
 replace hr := obind hr
 obtain ⟨x106, hc107, hr⟩ := hr
 refine at_cut (V := Unit) (fun e => (⟨[(0, str a0), (1, .int .i32 a1), (160, .bool x106)], [], [], [(Ty.str.fact a0 [str a0]), ((Ty.int .i32).fact a1 [.int .i32 a1])]⟩ : St)) ?_ ?_
 ·clear hr
  have hr := hc107
  clear hc107
  refine at_region (s_mv rfl (at_lt (lt_leq rfl rfl) rfl (s_mv rfl ?_)))
  by_cases h108 : (0 : Int) ≤ a1
  ·replace hr := ipos h108 hr
   refine at_on rfl rfl (decide_eq_true (by first | exact h108 | omega)) ?_
   refine s_mv rfl ?_
   refine at_on rfl rfl (decide_eq_true (by first | exact h108 | omega)) ?_
   refine at_lt (lt_lss rfl rfl) rfl ?_
   refine at_lt (lt_pick true rfl (decide_eq_true (by first | exact h108 | omega)) rfl) rfl ?_
   refine s_as rfl (at_nil ?_)
   have hq := oinj hr
   clear hr
   subst hq
   exact at_leaf () ⟨⟨rfl, ⟨rfl, ⟨rfl, trivial⟩⟩⟩, ⟨[], rfl⟩, ⟨[], rfl⟩, ⟨[0, 1], rfl⟩⟩
  replace hr := ineg h108 hr
  refine at_off rfl rfl (decide_eq_false (by first | exact h108 | omega)) rfl ?_
  refine at_off rfl rfl (decide_eq_false (by first | exact h108 | omega)) rfl ?_
  refine at_lt (lt_pick false rfl (decide_eq_false (by first | exact h108 | omega)) rfl) rfl ?_
  refine s_as rfl (at_nil ?_)
  have hq := oinj hr
  clear hr
  subst hq
  exact at_leaf () ⟨⟨rfl, ⟨rfl, ⟨rfl, trivial⟩⟩⟩, ⟨[], rfl⟩, ⟨[], rfl⟩, ⟨[0, 1], rfl⟩⟩
 clear hc107
 intro _
 change At _ _ (⟨[(0, str a0), (1, .int .i32 a1), (160, .bool x106)], [], [], [(Ty.str.fact a0 [str a0]), ((Ty.int .i32).fact a1 [.int .i32 a1])]⟩ : St) _
 refine at_then ?_
 by_cases h109 : x106 = true
 ·replace hr := ipos h109 hr
  refine at_true rfl h109 (s_sr (s_mv rfl (s_mv rfl (at_lt (lt_convu8 rfl (iso und21) und5) rfl ?_))))
  replace hr := obind hr
  obtain ⟨x110, h111, hr⟩ := hr
  refine at_hv rfl (hv_call0 [0] (f203_spec h111) rfl rfl rfl rfl ?_)
  rintro _ _ ⟨rfl, rfl⟩
  refine at_inv 0 rfl (fun l112 => ?_)
  replace l112 : (-9223372036854775808) ≤ x110 ∧ x110 ≤ 9223372036854775807 := l112
  refine s_as rfl (s_nt (at_ret ?_))
  have hq := oinj hr
  clear hr
  subst hq
  refine at_in_ret ?_
  exact at_return (.int .i64 x110) [0] hS Tryz.results194 (.cons (.tmp rfl) .nil) rfl rfl ⟨rfl, rfl⟩
 replace hr := ineg h109 hr
 refine at_false rfl (bf h109) (s_sr (s_mv rfl (at_lt (lt_eql rfl rfl) rfl (s_as rfl (s_nt ?_)))))
 by_cases h113 : a1 = 65533
 ·replace hr := ipos h113 hr
  cases hr
 replace hr := ineg h113 hr
 refine at_false rfl (decide_eq_false (by first | exact h113 | omega)) ?_
 refine s_sr (s_mv rfl ?_)
 replace hr := obind hr
 obtain ⟨x114, h115, hr⟩ := hr
 refine at_hv rfl (hv_call0 [1] (f204_spec h115) rfl rfl rfl rfl ?_)
 rintro _ _ ⟨rfl, rfl⟩
 refine at_lt (lt_not rfl) rfl (s_as rfl (s_nt ?_))
 by_cases h116 : x114 = true
 ·replace hr := ipos h116 hr
  refine at_false rfl (nt h116) (at_scope0 (s_sr (s_mv rfl (at_lt (lt_convrs rfl und21 und9) rfl (s_as rfl (s_ntsr (s_mv rfl ?_)))))))
  have l125 : (encR a1).length ≤ 9223372036854775807 := encR_len _
  refine at_lt (lt_slen rfl und9) rfl (at_lt (lt_sub rfl rfl (by simp only [lo, hi]; omega)) rfl (s_as rfl (s_ntsr (s_mv rfl (s_as rfl (s_ntsr (s_as rfl (s_nt (at_seq ?_)))))))))
  refine at_int .i64 (((encR a1).length : Int) - 1) (by simp only [lo, hi]; omega) (at_int .i64 0 (by simp only [lo, hi]; omega) ?_)
  replace hr := obind hr
  obtain ⟨r128, hl129, hk130⟩ := hr
  refine at_cutP (V := (Unit) × (Unit)) (fun v => r128 = Fl.go v.1) (fun v => (⟨[], [], [], []⟩ : St)) ?_ ?_
  ·refine at_block ?_
   refine at_loopW (σ := (Int × Nat)) (V := Unit) (r := r128) (fun n s => m194_l1 a0 a1 n s.1 s.2) (fun s e => (⟨[(0, str a0), (7, str (encR a1)), (8, .int .i64 (((encR a1).length : Int) - 1)), (9, .int .i64 s.1), (10, .int .i64 (s.2 : Int))], [], [], [((Ty.int .i64).fact s.1 [.int .i64 s.1]), ((Ty.int .i64).fact (s.2 : Int) [.int .i64 (s.2 : Int)]), (Ty.str.fact a0 [str a0])]⟩ : St)) (fun _ => rfl) _ (((encR a1).length : Int) - 1, 0) () hl129 ⟨⟨rfl, ⟨rfl, ⟨rfl, ⟨rfl, ⟨rfl, trivial⟩⟩⟩⟩⟩, ⟨[], rfl⟩, ⟨[], rfl⟩, ⟨[1, 0, 2], rfl⟩⟩ ?_
   clear hl129
   intro n s hr e
   obtain ⟨x126, x127⟩ := s
   skip
   change m194_l1 a0 a1 (n + 1) x126 x127 = some r128 at hr
   change At _ _ (⟨[(0, str a0), (7, str (encR a1)), (8, .int .i64 (((encR a1).length : Int) - 1)), (9, .int .i64 x126), (10, .int .i64 (x127 : Int))], [], [], [((Ty.int .i64).fact x126 [.int .i64 x126]), ((Ty.int .i64).fact (x127 : Int) [.int .i64 (x127 : Int)]), (Ty.str.fact a0 [str a0])]⟩ : St) _
   rw [m194_l1] at hr
   refine at_inv 0 rfl (fun l131 => ?_)
   replace l131 : (-9223372036854775808) ≤ x126 ∧ x126 ≤ 9223372036854775807 := l131
   refine at_seq (s_sr (s_mv rfl (s_mv rfl ?_)))
   refine at_inv 2 rfl (fun l132 => ?_)
   replace l132 : a0.length ≤ 9223372036854775807 := l132
   refine at_lt (lt_slen rfl und9) rfl (at_lt (lt_lss rfl rfl) rfl (s_nt ?_))
   by_cases h133 : x126 < (a0.length : Int)
   ·replace hr := ipos h133 hr
    refine at_true rfl (decide_eq_true (by first | exact h133 | omega)) ?_
    refine at_skip (at_then (at_block ?_))
    replace hr := withC_open hr
    obtain ⟨D135, hD136, hr⟩ := hr
    refine at_scope (V := (Int) × (Unit)) 0 (fun v => D135 v.1 = some r128) (fun v => (⟨[(0, str a0), (7, str (encR a1)), (8, .int .i64 (((encR a1).length : Int) - 1)), (9, .int .i64 v.1), (10, .int .i64 (x127 : Int))], [], [], [((Ty.int .i64).fact v.1 [.int .i64 v.1]), (Ty.str.fact a0 [str a0]), ((Ty.int .i64).fact (x127 : Int) [.int .i64 (x127 : Int)])]⟩ : St)) rfl ?_ ?_
    ·refine at_seq ?_
     refine at_seq ?_
     replace hr := obind hr
     obtain ⟨c137, h138, hr⟩ := hr
     have := at?_lt h138
     have := c137.toNat_lt
     replace hr := obind hr
     obtain ⟨c139, h140, hr⟩ := hr
     have := at?_lt h140
     have := c139.toNat_lt
     refine aa_start 7 (by kernel_rfl) ?_
     refine aa_p 0 rfl (lt_move rfl) (aa_p 1 rfl (lt_move rfl) ?_)
     refine aa_p 2 rfl (lt_sidx rfl rfl und9 (at?_lt h138).1 (at?_get h138)) ?_
     refine aa_p 3 rfl (lt_move rfl) (aa_p 4 rfl (lt_move rfl) ?_)
     refine aa_p 5 rfl (lt_sidx rfl rfl und9 (at?_lt h140).1 (at?_get h140)) ?_
     refine aa_p 6 rfl (lt_neq rfl rfl) ?_
     refine aa_done (by kernel_rfl) (ts_in 0 0 rfl rfl) ?_
     refine at_then ?_
     by_cases h141 : c137.toNat = c139.toNat
     ·replace hr := ipos h141 hr
      refine at_false rfl (nt (decide_eq_true (by omega))) ?_
      refine at_skip (at_then (at_seq (s_sr (s_as rfl (s_nt (at_int .i64 1 (by simp only [lo, hi]; omega) ?_))))))
      replace hr := obind hr
      obtain ⟨r143, hl144, hk145⟩ := hr
      refine at_cutP (V := (Unit) × (Unit)) (fun v => r143 = Fl.go v.1) (fun v => (⟨[(8, .int .i64 (((encR a1).length : Int) - 1)), (9, .int .i64 x126)], [], [], [((Ty.int .i64).fact x126 [.int .i64 x126])]⟩ : St)) ?_ ?_
      ·refine at_block ?_
       refine at_loopW (σ := Nat) (V := Unit) (r := r143) (fun n s => m194_l2 a0 a1 x126 n s) (fun s e => (⟨[(0, str a0), (7, str (encR a1)), (8, .int .i64 (((encR a1).length : Int) - 1)), (9, .int .i64 x126), (10, .int .i64 (x127 : Int)), (12, .int .i64 (s : Int))], [], [], [((Ty.int .i64).fact (s : Int) [.int .i64 (s : Int)]), (Ty.str.fact a0 [str a0]), ((Ty.int .i64).fact x126 [.int .i64 x126]), ((Ty.int .i64).fact (x127 : Int) [.int .i64 (x127 : Int)])]⟩ : St)) (fun _ => rfl) _ 1 () hl144 ⟨⟨rfl, ⟨rfl, ⟨rfl, ⟨rfl, ⟨rfl, ⟨rfl, trivial⟩⟩⟩⟩⟩⟩, ⟨[], rfl⟩, ⟨[], rfl⟩, ⟨[0, 3, 1, 2], rfl⟩⟩ ?_
       clear hl144
       intro n x142 hr e
       skip
       skip
       change m194_l2 a0 a1 x126 (n + 1) x142 = some r143 at hr
       change At _ _ (⟨[(0, str a0), (7, str (encR a1)), (8, .int .i64 (((encR a1).length : Int) - 1)), (9, .int .i64 x126), (10, .int .i64 (x127 : Int)), (12, .int .i64 (x142 : Int))], [], [], [((Ty.int .i64).fact (x142 : Int) [.int .i64 (x142 : Int)]), (Ty.str.fact a0 [str a0]), ((Ty.int .i64).fact x126 [.int .i64 x126]), ((Ty.int .i64).fact (x127 : Int) [.int .i64 (x127 : Int)])]⟩ : St) _
       rw [m194_l2] at hr
       refine at_seq (s_sr (s_mv rfl (s_mv rfl (at_lt (lt_slen rfl und9) rfl (at_lt (lt_lss rfl rfl) rfl (s_nt ?_))))))
       by_cases h146 : x142 < (encR a1).length
       ·replace hr := ipos h146 hr
        refine at_true rfl (decide_eq_true (by omega)) ?_
        refine at_skip (at_then (at_seq (at_block (at_seq ?_))))
        replace hr := obind hr
        obtain ⟨c147, h148, hr⟩ := hr
        have := at?_lt h148
        have := c147.toNat_lt
        replace hr := obind hr
        obtain ⟨c149, h150, hr⟩ := hr
        have := at?_lt h150
        have := c149.toNat_lt
        refine aa_start 11 (by kernel_rfl) ?_
        refine aa_p 0 rfl (lt_move rfl) (aa_p 1 rfl (lt_move rfl) (aa_p 2 rfl (lt_move rfl) (aa_p 3 rfl (lt_subw rfl rfl) ?_)))
        refine aa_p 4 rfl (lt_sidx rfl rfl und9 (at?_lt h148).1 (at?_get h148)) ?_
        refine aa_p 5 rfl (lt_move rfl) (aa_p 6 rfl (lt_move rfl) (aa_p 7 rfl (lt_move rfl) (aa_p 8 rfl (lt_subw rfl rfl) ?_)))
        refine aa_p 9 rfl (lt_sidx rfl rfl und9 (at?_lt h150).1 (at?_get h150)) ?_
        refine aa_p 10 rfl (lt_neq rfl rfl) ?_
        refine aa_done (by kernel_rfl) (ts_in 0 0 rfl rfl) ?_
        refine at_then ?_
        by_cases h151 : c147.toNat = c149.toNat
        ·replace hr := ipos h151 hr
         refine at_false rfl (nt (decide_eq_true (by omega))) ?_
         refine at_skip (at_in (s_tr (s_mv rfl ?_)))
         replace hr := imust hr
         obtain ⟨h152, hr⟩ := hr
         refine at_lt (lt_add rfl rfl (by simp only [lo, hi]; omega)) rfl (s_as rfl (at_nil (at_int .i64 (x142 + 1 : Int) (by simp only [lo, hi]; omega) ?_)))
         exact at_again (σ := Nat) (V := Unit) (lp := fun n s => m194_l2 a0 a1 x126 n s) (S := fun s e => (⟨[(0, str a0), (7, str (encR a1)), (8, .int .i64 (((encR a1).length : Int) - 1)), (9, .int .i64 x126), (10, .int .i64 (x127 : Int)), (12, .int .i64 (s : Int))], [], [], [((Ty.int .i64).fact (s : Int) [.int .i64 (s : Int)]), (Ty.str.fact a0 [str a0]), ((Ty.int .i64).fact x126 [.int .i64 x126]), ((Ty.int .i64).fact (x127 : Int) [.int .i64 (x127 : Int)])]⟩ : St)) (x142 + 1) () hr ⟨⟨rfl, ⟨rfl, ⟨rfl, ⟨rfl, ⟨rfl, ⟨rfl, trivial⟩⟩⟩⟩⟩⟩, ⟨[], rfl⟩, ⟨[], rfl⟩, ⟨[0, 2, 3, 4], rfl⟩⟩
        replace hr := ineg h151 hr
        refine at_true rfl (nf (decide_eq_false (by omega))) ?_
        refine at_goto ?_
        have hq := oinj hr
        clear hr
        subst hq
        refine at_in_goto (at_then_goto (at_then_goto (at_in_goto (at_then_goto (at_then_goto ?_)))))
        exact at_jump (x126, ()) hk145 ⟨⟨rfl, ⟨rfl, ⟨rfl, ⟨rfl, ⟨rfl, trivial⟩⟩⟩⟩⟩, ⟨[], rfl⟩, ⟨[], rfl⟩, ⟨[2, 1, 3], rfl⟩⟩
       replace hr := ineg h146 hr
       refine at_false rfl (decide_eq_false (by omega)) ?_
       refine at_exit (at_then_exit (at_then_exit (at_in_exit ?_)))
       have hq := oinj hr
       clear hr
       subst hq
       exact at_leafP ((), ()) rfl ⟨⟨rfl, ⟨rfl, trivial⟩⟩, ⟨[], rfl⟩, ⟨[], rfl⟩, ⟨[2], rfl⟩⟩
      rintro ⟨_, _⟩ hp
      replace hr := hk145
      subst hp
      clear hl144
      change At _ _ (⟨[(8, .int .i64 (((encR a1).length : Int) - 1)), (9, .int .i64 x126)], [], [], [((Ty.int .i64).fact x126 [.int .i64 x126])]⟩ : St) _
      refine at_then (at_seq (s_sr (s_mv rfl (s_mv rfl (at_lt (lt_subw rfl rfl) rfl (s_as rfl (s_nt (at_ret ?_))))))))
      have hq := oinj hr
      clear hr
      subst hq
      have hq := oinj hk130
      clear hk130
      subst hq
      refine at_then_ret (at_jm_ret (at_in_ret (at_then_ret (at_in_ret (at_then_ret (at_then_ret (at_ng_ret (at_in_ret (at_int .i64 (IntKind.i64.wrap (x126 - (((encR a1).length : Int) - 1))) (wrap_bd .i64 _) ?_)))))))))
      exact at_return (.int .i64 (IntKind.i64.wrap (x126 - (((encR a1).length : Int) - 1)))) [0] hS Tryz.results194 (.cons (.tmp rfl) .nil) rfl rfl ⟨rfl, rfl⟩
     replace hr := ineg h141 hr
     refine at_true rfl (nf (decide_eq_false (by omega))) ?_
     refine at_seq ?_
     replace hr := imust hr
     obtain ⟨h153, hr⟩ := hr
     replace hr := obind hr
     obtain ⟨c154, h155, hr⟩ := hr
     have := at?_lt h155
     have := c154.toNat_lt
     replace hr := obind hr
     obtain ⟨x156, h157, hr⟩ := hr
     refine aa_start 9 (by kernel_rfl) ?_
     refine aa_p 0 rfl (lt_move rfl) (aa_p 1 rfl (lt_move rfl) (aa_p 2 rfl (lt_addw rfl rfl) ?_))
     refine aa_p 3 rfl (lt_scut_l ((IntKind.i64.wrap (x126 + 1)).toNat) rfl rfl (by omega) und9 (by omega)) ?_
     refine aa_p 4 rfl (lt_move rfl) (aa_p 5 rfl (lt_move rfl) ?_)
     refine aa_p 6 rfl (lt_sidx rfl rfl und9 (at?_lt h155).1 (at?_get h155)) ?_
     refine aa_one 7 ?_
     refine at_str (a0.drop ((IntKind.i64.wrap (x126 + 1)).toNat)) (by simp only [List.length_take, List.length_drop]; omega) ?_
     refine aa_op rfl rfl (hv_call0 [0] (f203_spec h157) rfl rfl rfl rfl ?_)
     rintro _ _ ⟨rfl, rfl⟩
     refine at_inv 0 rfl (fun l159 => ?_)
     replace l159 : (-9223372036854775808) ≤ x156 ∧ x156 ≤ 9223372036854775807 := l159
     refine aa_pure 8 rfl (by kernel_rfl) rfl rfl (lt_assign rfl) rfl (ts_in 0 2 rfl rfl) ?_
     refine aa_done (by kernel_rfl) (ts_in 0 2 rfl rfl) ?_
     refine at_then (at_seq (s_sr (s_mv rfl (at_lt (lt_lss rfl rfl) rfl (s_nt ?_)))))
     by_cases h160 : x156 < 0
     ·replace hr := ipos h160 hr
      refine at_true rfl (decide_eq_true (by first | exact h160 | omega)) ?_
      refine s_sr (s_as rfl (s_nt (at_ret ?_)))
      have hq := oinj hr
      clear hr
      subst hq
      have hq := oinj hk130
      clear hk130
      subst hq
      refine at_then_ret (at_then_ret (at_jm_ret (at_in_ret (at_then_ret (at_in_ret (at_then_ret (at_then_ret (at_ng_ret (at_in_ret ?_)))))))))
      refine at_int .i64 (-1) (by simp only [lo, hi]; omega) ?_
      exact at_return (.int .i64 (-1)) [0] hS Tryz.results194 (.cons (.tmp rfl) .nil) rfl rfl ⟨rfl, rfl⟩
     replace hr := ineg h160 hr
     refine at_false rfl (decide_eq_false (by first | exact h160 | omega)) ?_
     refine at_skip (s_tr (s_mv rfl (s_mv rfl (at_lt (lt_addw rfl rfl) rfl (at_lt (lt_addw rfl rfl) rfl (s_as rfl (s_nt (at_seq (s_sr ?_)))))))))
     refine s_as rfl (s_nt (at_int .i64 1 (by simp only [lo, hi]; omega) ?_))
     replace hr := obind hr
     obtain ⟨r162, hl163, hk164⟩ := hr
     refine at_cutP (V := (Unit) × (Unit)) (fun v => r162 = Fl.go v.1) (fun v => (⟨[(8, .int .i64 (((encR a1).length : Int) - 1)), (9, .int .i64 (IntKind.i64.wrap (x126 + (IntKind.i64.wrap (x156 + 1)))))], [], [], []⟩ : St)) ?_ ?_
     ·refine at_block ?_
      refine at_loopW (σ := Nat) (V := Unit) (r := r162) (fun n s => m194_l3 a0 a1 x126 x156 n s) (fun s e => (⟨[(0, str a0), (7, str (encR a1)), (8, .int .i64 (((encR a1).length : Int) - 1)), (9, .int .i64 (IntKind.i64.wrap (x126 + (IntKind.i64.wrap (x156 + 1))))), (10, .int .i64 (x127 : Int)), (12, .int .i64 (s : Int))], [], [], [((Ty.int .i64).fact (s : Int) [.int .i64 (s : Int)]), (Ty.str.fact a0 [str a0]), ((Ty.int .i64).fact (x127 : Int) [.int .i64 (x127 : Int)])]⟩ : St)) (fun _ => rfl) _ 1 () hl163 ⟨⟨rfl, ⟨rfl, ⟨rfl, ⟨rfl, ⟨rfl, ⟨rfl, trivial⟩⟩⟩⟩⟩⟩, ⟨[], rfl⟩, ⟨[], rfl⟩, ⟨[0, 5, 4], rfl⟩⟩ ?_
      clear hl163
      intro n x161 hr e
      skip
      skip
      change m194_l3 a0 a1 x126 x156 (n + 1) x161 = some r162 at hr
      change At _ _ (⟨[(0, str a0), (7, str (encR a1)), (8, .int .i64 (((encR a1).length : Int) - 1)), (9, .int .i64 (IntKind.i64.wrap (x126 + (IntKind.i64.wrap (x156 + 1))))), (10, .int .i64 (x127 : Int)), (12, .int .i64 (x161 : Int))], [], [], [((Ty.int .i64).fact (x161 : Int) [.int .i64 (x161 : Int)]), (Ty.str.fact a0 [str a0]), ((Ty.int .i64).fact (x127 : Int) [.int .i64 (x127 : Int)])]⟩ : St) _
      rw [m194_l3] at hr
      refine at_seq (s_sr (s_mv rfl (s_mv rfl (at_lt (lt_slen rfl und9) rfl (at_lt (lt_lss rfl rfl) rfl (s_nt ?_))))))
      by_cases h165 : x161 < (encR a1).length
      ·replace hr := ipos h165 hr
       refine at_true rfl (decide_eq_true (by omega)) ?_
       refine at_skip (at_then (at_seq (at_block (at_seq ?_))))
       replace hr := obind hr
       obtain ⟨c166, h167, hr⟩ := hr
       have := at?_lt h167
       have := c166.toNat_lt
       replace hr := obind hr
       obtain ⟨c168, h169, hr⟩ := hr
       have := at?_lt h169
       have := c168.toNat_lt
       refine aa_start 11 (by kernel_rfl) ?_
       refine aa_p 0 rfl (lt_move rfl) (aa_p 1 rfl (lt_move rfl) (aa_p 2 rfl (lt_move rfl) (aa_p 3 rfl (lt_subw rfl rfl) ?_)))
       refine aa_p 4 rfl (lt_sidx rfl rfl und9 (at?_lt h167).1 (at?_get h167)) ?_
       refine aa_p 5 rfl (lt_move rfl) (aa_p 6 rfl (lt_move rfl) (aa_p 7 rfl (lt_move rfl) (aa_p 8 rfl (lt_subw rfl rfl) ?_)))
       refine aa_p 9 rfl (lt_sidx rfl rfl und9 (at?_lt h169).1 (at?_get h169)) ?_
       refine aa_p 10 rfl (lt_neq rfl rfl) ?_
       refine aa_done (by kernel_rfl) (ts_in 0 0 rfl rfl) ?_
       refine at_then ?_
       by_cases h170 : c166.toNat = c168.toNat
       ·replace hr := ipos h170 hr
        refine at_false rfl (nt (decide_eq_true (by omega))) ?_
        refine at_skip (at_in (s_tr (s_mv rfl ?_)))
        replace hr := imust hr
        obtain ⟨h171, hr⟩ := hr
        refine at_lt (lt_add rfl rfl (by simp only [lo, hi]; omega)) rfl (s_as rfl (at_nil (at_int .i64 (x161 + 1 : Int) (by simp only [lo, hi]; omega) ?_)))
        exact at_again (σ := Nat) (V := Unit) (lp := fun n s => m194_l3 a0 a1 x126 x156 n s) (S := fun s e => (⟨[(0, str a0), (7, str (encR a1)), (8, .int .i64 (((encR a1).length : Int) - 1)), (9, .int .i64 (IntKind.i64.wrap (x126 + (IntKind.i64.wrap (x156 + 1))))), (10, .int .i64 (x127 : Int)), (12, .int .i64 (s : Int))], [], [], [((Ty.int .i64).fact (s : Int) [.int .i64 (s : Int)]), (Ty.str.fact a0 [str a0]), ((Ty.int .i64).fact (x127 : Int) [.int .i64 (x127 : Int)])]⟩ : St)) (x161 + 1) () hr ⟨⟨rfl, ⟨rfl, ⟨rfl, ⟨rfl, ⟨rfl, ⟨rfl, trivial⟩⟩⟩⟩⟩⟩, ⟨[], rfl⟩, ⟨[], rfl⟩, ⟨[0, 2, 3], rfl⟩⟩
       replace hr := ineg h170 hr
       refine at_true rfl (nf (decide_eq_false (by omega))) ?_
       refine at_goto ?_
       have hq := oinj hr
       clear hr
       subst hq
       refine at_in_goto (at_then_goto (at_then_goto (at_in_goto (at_then_goto (at_then_goto (at_int .i64 (IntKind.i64.wrap (x126 + (IntKind.i64.wrap (x156 + 1)))) (wrap_bd .i64 _) ?_))))))
       exact at_jump ((IntKind.i64.wrap (x126 + (IntKind.i64.wrap (x156 + 1)))), ()) hk164 ⟨⟨rfl, ⟨rfl, ⟨rfl, ⟨rfl, ⟨rfl, trivial⟩⟩⟩⟩⟩, ⟨[], rfl⟩, ⟨[], rfl⟩, ⟨[0, 2, 3], rfl⟩⟩
      replace hr := ineg h165 hr
      refine at_false rfl (decide_eq_false (by omega)) ?_
      refine at_exit (at_then_exit (at_then_exit (at_in_exit ?_)))
      have hq := oinj hr
      clear hr
      subst hq
      exact at_leafP ((), ()) rfl ⟨⟨rfl, ⟨rfl, trivial⟩⟩, ⟨[], rfl⟩, ⟨[], rfl⟩, ⟨[], rfl⟩⟩
     rintro ⟨_, _⟩ hp
     replace hr := hk164
     subst hp
     clear hl163
     change At _ _ (⟨[(8, .int .i64 (((encR a1).length : Int) - 1)), (9, .int .i64 (IntKind.i64.wrap (x126 + (IntKind.i64.wrap (x156 + 1)))))], [], [], []⟩ : St) _
     refine at_then (at_seq (s_sr (s_mv rfl (s_mv rfl (at_lt (lt_subw rfl rfl) rfl (s_as rfl (s_nt (at_ret ?_))))))))
     have hq := oinj hr
     clear hr
     subst hq
     have hq := oinj hk130
     clear hk130
     subst hq
     refine at_then_ret (at_jm_ret (at_in_ret (at_then_ret (at_in_ret (at_then_ret (at_then_ret (at_ng_ret (at_in_ret (at_int .i64 (IntKind.i64.wrap (IntKind.i64.wrap (x126 + (IntKind.i64.wrap (x156 + 1))) - (((encR a1).length : Int) - 1))) (wrap_bd .i64 _) ?_)))))))))
     exact at_return (.int .i64 (IntKind.i64.wrap (IntKind.i64.wrap (x126 + (IntKind.i64.wrap (x156 + 1))) - (((encR a1).length : Int) - 1)))) [0] hS Tryz.results194 (.cons (.tmp rfl) .nil) rfl rfl ⟨rfl, rfl⟩
    rintro ⟨x134, _⟩ hp
    subst hD136
    clear hr
    have hr := hp
    clear hp
    change At _ _ (⟨[(0, str a0), (7, str (encR a1)), (8, .int .i64 (((encR a1).length : Int) - 1)), (9, .int .i64 x134), (10, .int .i64 (x127 : Int))], [], [], [((Ty.int .i64).fact x134 [.int .i64 x134]), (Ty.str.fact a0 [str a0]), ((Ty.int .i64).fact (x127 : Int) [.int .i64 (x127 : Int)])]⟩ : St) _
    refine at_seq (at_skip (at_then ?_))
    refine at_inv 0 rfl (fun l172 => ?_)
    replace l172 : (-9223372036854775808) ≤ x134 ∧ x134 ≤ 9223372036854775807 := l172
    refine s_sr (s_mv rfl ?_)
    replace hr := imust hr
    obtain ⟨h173, hr⟩ := hr
    refine at_lt (lt_add rfl rfl (by simp only [lo, hi]; omega)) rfl (s_as rfl (s_ntsr (s_mv rfl (at_lt (lt_addw rfl rfl) rfl (s_as rfl (s_ntsr (s_mv rfl (at_on rfl rfl rfl (s_mv rfl ?_)))))))))
    refine at_on rfl rfl rfl (s_mv rfl ?_)
    replace hr := obind hr
    obtain ⟨x174, h175, hr⟩ := hr
    refine at_int .i64 (IntKind.i64.wrap (x134 + 1)) (wrap_bd .i64 _) (at_on rfl rfl rfl (at_hv rfl (hv_call0 [0] (f164_spec h175) rfl rfl rfl rfl ?_)))
    rintro _ _ ⟨rfl, rfl⟩
    refine at_inv 0 rfl (fun l176 => ?_)
    replace l176 : (-9223372036854775808) ≤ x174 ∧ x174 ≤ 9223372036854775807 := l176
    refine at_on rfl rfl rfl (at_lt (lt_gtr rfl rfl) rfl (at_lt (lt_pick true rfl rfl rfl) rfl (s_mv rfl ?_)))
    by_cases h177 : x174 < (x127 : Int) + 1
    ·replace hr := ipos h177 hr
     refine at_on rfl rfl (decide_eq_true (by first | exact h177 | omega)) ?_
     refine s_mv rfl ?_
     refine at_on rfl rfl (decide_eq_true (by first | exact h177 | omega)) ?_
     refine s_mv rfl ?_
     refine at_on rfl rfl (decide_eq_true (by first | exact h177 | omega)) ?_
     refine at_lt (lt_slen rfl und9) rfl ?_
     refine at_on rfl rfl (decide_eq_true (by first | exact h177 | omega)) ?_
     refine at_lt (lt_lss rfl rfl) rfl ?_
     refine at_lt (lt_pick true rfl (decide_eq_true (by first | exact h177 | omega)) rfl) rfl ?_
     refine s_mv rfl ?_
     by_cases h178 : IntKind.i64.wrap (x134 + 1) < (a0.length : Int)
     ·replace hr := ipos h178 hr
      cases hr
     replace hr := ineg h178 hr
     refine at_on rfl rfl (decide_eq_false (by first | exact h178 | omega)) ?_
     refine s_mv rfl (at_off rfl rfl rfl rfl (at_off rfl rfl rfl rfl (at_off rfl rfl rfl rfl (at_off rfl rfl rfl rfl (at_off rfl rfl rfl rfl ?_)))))
     refine at_on rfl rfl (decide_eq_false (by first | exact h178 | omega)) ?_
     refine at_lt (lt_pick false rfl rfl rfl) rfl ?_
     refine at_on rfl rfl (decide_eq_false (by first | exact h178 | omega)) ?_
     refine s_mv rfl (at_off rfl rfl rfl rfl (at_off rfl rfl rfl rfl (at_off rfl rfl rfl rfl (at_off rfl rfl rfl rfl ?_))))
     refine at_on rfl rfl (decide_eq_false (by first | exact h178 | omega)) ?_
     refine at_lt (lt_pick false rfl rfl rfl) rfl ?_
     refine at_lt (lt_pick false rfl (decide_eq_false (by first | exact h178 | omega)) rfl) rfl ?_
     refine s_nt (at_false rfl rfl (at_skip (at_ng (at_in (at_int .i64 (x127 + 1 : Int) (by simp only [lo, hi]; omega) ?_)))))
     exact at_again (σ := (Int × Nat)) (V := Unit) (lp := fun n s => m194_l1 a0 a1 n s.1 s.2) (S := fun s e => (⟨[(0, str a0), (7, str (encR a1)), (8, .int .i64 (((encR a1).length : Int) - 1)), (9, .int .i64 s.1), (10, .int .i64 (s.2 : Int))], [], [], [((Ty.int .i64).fact s.1 [.int .i64 s.1]), ((Ty.int .i64).fact (s.2 : Int) [.int .i64 (s.2 : Int)]), (Ty.str.fact a0 [str a0])]⟩ : St)) (IntKind.i64.wrap (x134 + 1), x127 + 1) () hr ⟨⟨rfl, ⟨rfl, ⟨rfl, ⟨rfl, ⟨rfl, trivial⟩⟩⟩⟩⟩, ⟨[], rfl⟩, ⟨[], rfl⟩, ⟨[2, 0, 4], rfl⟩⟩
    replace hr := ineg h177 hr
    refine at_off rfl rfl (decide_eq_false (by first | exact h177 | omega)) rfl ?_
    refine at_off rfl rfl (decide_eq_false (by first | exact h177 | omega)) rfl ?_
    refine at_off rfl rfl (decide_eq_false (by first | exact h177 | omega)) rfl ?_
    refine at_off rfl rfl (decide_eq_false (by first | exact h177 | omega)) rfl ?_
    refine at_lt (lt_pick false rfl (decide_eq_false (by first | exact h177 | omega)) rfl) rfl ?_
    refine s_mv rfl (at_on rfl rfl rfl (s_mv rfl (at_off rfl rfl rfl rfl (at_off rfl rfl rfl rfl (at_off rfl rfl rfl rfl (at_off rfl rfl rfl rfl (at_off rfl rfl rfl rfl (at_on rfl rfl rfl (at_lt (lt_pick false rfl rfl rfl) rfl ?_)))))))))
    refine at_on rfl rfl rfl (s_mv rfl (at_off rfl rfl rfl rfl (at_off rfl rfl rfl rfl (at_off rfl rfl rfl rfl (at_off rfl rfl rfl rfl (at_on rfl rfl rfl (at_lt (lt_pick false rfl rfl rfl) rfl (at_lt (lt_pick false rfl rfl rfl) rfl (s_nt ?_)))))))))
    refine at_false rfl rfl (at_skip (at_ng (at_in (at_int .i64 (x127 + 1 : Int) (by simp only [lo, hi]; omega) ?_))))
    exact at_again (σ := (Int × Nat)) (V := Unit) (lp := fun n s => m194_l1 a0 a1 n s.1 s.2) (S := fun s e => (⟨[(0, str a0), (7, str (encR a1)), (8, .int .i64 (((encR a1).length : Int) - 1)), (9, .int .i64 s.1), (10, .int .i64 (s.2 : Int))], [], [], [((Ty.int .i64).fact s.1 [.int .i64 s.1]), ((Ty.int .i64).fact (s.2 : Int) [.int .i64 (s.2 : Int)]), (Ty.str.fact a0 [str a0])]⟩ : St)) (IntKind.i64.wrap (x134 + 1), x127 + 1) () hr ⟨⟨rfl, ⟨rfl, ⟨rfl, ⟨rfl, ⟨rfl, trivial⟩⟩⟩⟩⟩, ⟨[], rfl⟩, ⟨[], rfl⟩, ⟨[2, 0, 4], rfl⟩⟩
   replace hr := ineg h133 hr
   refine at_false rfl (decide_eq_false (by first | exact h133 | omega)) ?_
   refine at_exit (at_then_exit (at_then_exit (at_in_exit ?_)))
   have hq := oinj hr
   clear hr
   subst hq
   exact at_leafP ((), ()) rfl ⟨trivial, ⟨[], rfl⟩, ⟨[], rfl⟩, ⟨[], rfl⟩⟩
  rintro ⟨_, _⟩ hp
  replace hr := hk130
  subst hp
  clear hl129
  change At _ _ (⟨[], [], [], []⟩ : St) _
  refine at_then (at_seq (s_sr (s_as rfl (s_nt (at_ret ?_)))))
  have hq := oinj hr
  clear hr
  subst hq
  refine at_then_ret (at_ng_ret (at_in_ret (at_int .i64 (-1) (by simp only [lo, hi]; omega) ?_)))
  exact at_return (.int .i64 (-1)) [0] hS Tryz.results194 (.cons (.tmp rfl) .nil) rfl rfl ⟨rfl, rfl⟩
 replace hr := ineg h116 hr
 refine at_true rfl (nf (bf h116)) (s_sr (s_as rfl (s_nt (at_ret ?_))))
 have hq := oinj hr
 clear hr
 subst hq
 refine at_in_ret (at_int .i64 (-1) (by simp only [lo, hi]; omega) ?_)
 exact at_return (.int .i64 (-1)) [0] hS Tryz.results194 (.cons (.tmp rfl) .nil) rfl rfl ⟨rfl, rfl⟩
def m175 (a0 : Str) (a1 : Int) : Option Bool :=
  (m194 a0 a1).bind fun x180 =>
  some (decide ((0 : Int) ≤ x180))
def post175 (r : Bool) (v : Value) (fs : List Fact) : Prop := v = .bool r ∧ fs = []
theorem en175 : Enters Tryz.prog 175 := ⟨_, Tryz.func175, by kernel_rfl, rfl⟩
theorem f175_spec {a0 : Str} {a1 : Int} {r : Bool} (hr : m175 a0 a1 = some r) : Spec Tryz.prog 175 [str a0, .int .i32 a1] [(Ty.str.fact a0 [str a0]), ((Ty.int .i32).fact a1 [.int .i32 a1])] (post175 r) := by
 refine spec_start (N := 9) Tryz.func175 (by kernel_rfl) rfl rfl rfl ?_
 intro g hS
 unfold m175 at hr
 refine at_inv 1 rfl (fun l179 => ?_)
 replace l179 : (-2147483648) ≤ a1 ∧ a1 ≤ 2147483647 := l179
 refine s_sr (s_as rfl (s_ntsr (s_mv rfl (s_mv rfl ?_))))
 replace hr := obind hr
 obtain ⟨x180, h181, hr⟩ := hr
 refine at_hv rfl (hv_call0 [0, 1] (f194_spec h181) rfl rfl rfl rfl ?_)
 rintro _ _ ⟨rfl, rfl⟩
 refine at_inv 0 rfl (fun l182 => ?_)
 replace l182 : (-9223372036854775808) ≤ x180 ∧ x180 ≤ 9223372036854775807 := l182
 refine at_lt (lt_geq rfl rfl) rfl (s_as rfl (s_nt (at_ret ?_)))
 have hq := oinj hr
 clear hr
 subst hq
 exact at_return (.bool (decide ((0 : Int) ≤ x180))) [] hS Tryz.results175 (.cons (.tmp rfl) .nil) rfl rfl ⟨rfl, rfl⟩
def m192 (a0 : Int) : Option Int :=
  (m191 a0 65 90).bind fun x184 =>
  if x184 = true then
   some 1
  else
   (m191 a0 97 122).bind fun x187 =>
   if x187 = true then
    some 1
   else
    if a0 = 383 then
     some 1
    else
     (m191 a0 64257 64258).bind fun x191 =>
     if x191 = true then
      some 1
     else
      (m175 ([195, 128, 195, 136, 195, 140, 195, 146, 195, 153, 195, 160, 195, 168, 195, 172, 195, 178, 195, 185, 195, 129, 195, 137, 195, 141, 195, 147, 195, 154, 195, 157, 195, 161, 195, 169, 195, 173, 195, 179, 195, 186, 195, 189, 196, 134, 196, 135, 196, 185, 196, 186, 197, 131, 197, 132, 197, 148, 197, 149, 197, 154, 197, 155, 197, 185, 197, 186, 195, 130, 195, 138, 195, 142, 195, 148, 195, 155, 195, 162, 195, 170, 195, 174, 195, 180, 195, 187, 196, 136, 196, 137, 196, 156, 196, 157, 196, 164, 196, 165, 196, 180, 196, 181, 197, 156, 197, 157, 197, 180, 197, 181, 197, 182, 197, 183, 195, 131, 195, 145, 195, 149, 195, 163, 195, 177, 195, 181, 196, 168, 196, 169, 197, 168, 197, 169, 196, 128, 196, 129, 196, 146, 196, 147, 196, 170, 196, 171, 197, 140, 197, 141, 197, 170, 197, 171, 196, 130, 196, 131, 196, 148, 196, 149, 196, 158, 196, 159, 196, 172, 196, 173, 197, 142, 197, 143, 197, 172, 197, 173, 196, 138, 196, 139, 196, 150, 196, 151, 196, 160, 196, 161, 196, 176, 197, 187, 197, 188, 195, 132, 195, 139, 195, 143, 195, 150, 195, 156, 195, 164, 195, 171, 195, 175, 195, 182, 195, 188, 195, 191, 197, 184, 195, 133, 195, 165, 197, 174, 197, 175, 197, 144, 197, 145, 197, 176, 197, 177, 196, 140, 196, 141, 196, 142, 196, 143, 196, 154, 196, 155, 197, 135, 197, 136, 197, 152, 197, 153, 197, 160, 197, 161, 197, 164, 197, 165, 197, 189, 197, 190, 196, 189, 196, 190, 195, 135, 195, 167, 196, 162, 196, 163, 196, 182, 196, 183, 196, 187, 196, 188, 197, 133, 197, 134, 197, 150, 197, 151, 197, 158, 197, 159, 197, 162, 197, 163, 196, 132, 196, 133, 196, 152, 196, 153, 196, 174, 196, 175, 197, 178, 197, 179, 195, 134, 195, 166, 195, 152, 195, 184, 195, 144, 195, 176, 195, 158, 195, 190, 195, 159, 196, 144, 196, 145, 196, 166, 196, 167, 196, 177, 197, 129, 197, 130, 197, 146, 197, 147, 197, 138, 197, 139, 197, 166, 197, 167] : Str) (IntKind.i32.wrap a0)).bind fun x194 =>
      if x194 = true then
       some 1
      else
       if a0 = 930 then
        (m191 a0 945 969).bind fun x198 =>
        if x198 = true then
         some 2
        else
         (m175 ([206, 134, 206, 136, 206, 137, 206, 138, 206, 140, 206, 142, 206, 143, 206, 172, 206, 173, 206, 174, 206, 175, 207, 140, 207, 141, 207, 142, 206, 170, 206, 171, 207, 138, 207, 139] : Str) (IntKind.i32.wrap a0)).bind fun x201 =>
         if x201 = true then
          some 2
         else
          (m191 a0 1040 1103).bind fun x204 =>
          if x204 = true then
           some 3
          else
           (m175 ([208, 129, 209, 145, 208, 135, 209, 151, 208, 132, 209, 148, 210, 144, 210, 145, 208, 142, 209, 158, 208, 134, 209, 150] : Str) (IntKind.i32.wrap a0)).bind fun x207 =>
           if x207 = true then
            some 3
           else
            some 0
       else
        (m191 a0 913 937).bind fun x210 =>
        if x210 = true then
         some 2
        else
         (m191 a0 945 969).bind fun x213 =>
         if x213 = true then
          some 2
         else
          (m175 ([206, 134, 206, 136, 206, 137, 206, 138, 206, 140, 206, 142, 206, 143, 206, 172, 206, 173, 206, 174, 206, 175, 207, 140, 207, 141, 207, 142, 206, 170, 206, 171, 207, 138, 207, 139] : Str) (IntKind.i32.wrap a0)).bind fun x216 =>
          if x216 = true then
           some 2
          else
           (m191 a0 1040 1103).bind fun x219 =>
           if x219 = true then
            some 3
           else
            (m175 ([208, 129, 209, 145, 208, 135, 209, 151, 208, 132, 209, 148, 210, 144, 210, 145, 208, 142, 209, 158, 208, 134, 209, 150] : Str) (IntKind.i32.wrap a0)).bind fun x222 =>
            if x222 = true then
             some 3
            else
             some 0
def post192 (r : Int) (v : Value) (fs : List Fact) : Prop := v = .int .i64 r ∧ fs = [((Ty.int .i64).fact r [.int .i64 r])]
theorem en192 : Enters Tryz.prog 192 := ⟨_, Tryz.func192, by kernel_rfl, rfl⟩
theorem f192_spec {a0 : Int} {r : Int} (hr : m192 a0 = some r) : Spec Tryz.prog 192 [.int .i64 a0] [((Ty.int .i64).fact a0 [.int .i64 a0])] (post192 r) := by
 refine spec_start (N := 47) Tryz.func192 (by kernel_rfl) rfl rfl rfl ?_
 intro g hS
 unfold m192 at hr
 refine at_inv 0 rfl (fun l183 => ?_)
 replace l183 : (-9223372036854775808) ≤ a0 ∧ a0 ≤ 9223372036854775807 := l183
 refine s_sr (s_as rfl (s_nt (at_seq (at_block (s_sr (s_mv rfl ?_))))))
 replace hr := obind hr
 obtain ⟨x184, h185, hr⟩ := hr
 refine at_int .i64 65 (by simp only [lo, hi]; omega) (at_int .i64 90 (by simp only [lo, hi]; omega) (at_hv rfl (hv_call0 [2, 1, 0] (f191_spec h185) rfl rfl rfl rfl ?_)))
 rintro _ _ ⟨rfl, rfl⟩
 refine s_mv rfl ?_
 by_cases h186 : x184 = true
 ·replace hr := ipos h186 hr
  refine at_off rfl rfl h186 rfl (at_off rfl rfl h186 rfl (at_lt (lt_pick true rfl h186 rfl) rfl (s_mv rfl (at_off rfl rfl rfl rfl (at_off rfl rfl rfl rfl (at_lt (lt_pick true rfl rfl rfl) rfl (s_mv rfl (at_off rfl rfl rfl rfl (at_off rfl rfl rfl rfl ?_)))))))))
  refine at_lt (lt_pick true rfl rfl rfl) rfl (s_mv rfl (at_off rfl rfl rfl rfl (at_off rfl rfl rfl rfl (at_off rfl rfl rfl rfl (at_lt (lt_pick true rfl rfl rfl) rfl (s_as rfl (s_nt (at_true rfl rfl (s_sr ?_)))))))))
  refine s_as rfl (s_nt (at_ret ?_))
  have hq := oinj hr
  clear hr
  subst hq
  refine at_in_ret (at_then_ret (at_int .i64 1 (by simp only [lo, hi]; omega) ?_))
  exact at_return (.int .i64 1) [0] hS Tryz.results192 (.cons (.tmp rfl) .nil) rfl rfl ⟨rfl, rfl⟩
 replace hr := ineg h186 hr
 refine at_on rfl rfl (bf h186) (s_mv rfl ?_)
 replace hr := obind hr
 obtain ⟨x187, h188, hr⟩ := hr
 refine at_int .i64 97 (by simp only [lo, hi]; omega) (at_int .i64 122 (by simp only [lo, hi]; omega) (at_on rfl rfl (bf h186) (at_hv rfl (hv_call0 [4, 1, 0] (f191_spec h188) rfl rfl rfl rfl ?_))))
 rintro _ _ ⟨rfl, rfl⟩
 refine at_lt (lt_pick false rfl (bf h186) rfl) rfl (s_mv rfl ?_)
 by_cases h189 : x187 = true
 ·replace hr := ipos h189 hr
  refine at_off rfl rfl h189 rfl (at_off rfl rfl h189 rfl (at_lt (lt_pick true rfl h189 rfl) rfl (s_mv rfl (at_off rfl rfl rfl rfl (at_off rfl rfl rfl rfl (at_lt (lt_pick true rfl rfl rfl) rfl (s_mv rfl (at_off rfl rfl rfl rfl (at_off rfl rfl rfl rfl ?_)))))))))
  refine at_off rfl rfl rfl rfl (at_lt (lt_pick true rfl rfl rfl) rfl (s_as rfl (s_nt (at_true rfl rfl (s_sr (s_as rfl (s_nt (at_ret ?_))))))))
  have hq := oinj hr
  clear hr
  subst hq
  refine at_in_ret (at_then_ret (at_int .i64 1 (by simp only [lo, hi]; omega) ?_))
  exact at_return (.int .i64 1) [0] hS Tryz.results192 (.cons (.tmp rfl) .nil) rfl rfl ⟨rfl, rfl⟩
 replace hr := ineg h189 hr
 refine at_on rfl rfl (bf h189) (s_mv rfl (at_on rfl rfl (bf h189) (at_lt (lt_eql rfl rfl) rfl (at_lt (lt_pick false rfl (bf h189) rfl) rfl (s_mv rfl ?_)))))
 by_cases h190 : a0 = 383
 ·replace hr := ipos h190 hr
  refine at_off rfl rfl (decide_eq_true (by first | exact h190 | omega)) rfl ?_
  refine at_off rfl rfl (decide_eq_true (by first | exact h190 | omega)) rfl ?_
  refine at_lt (lt_pick true rfl (decide_eq_true (by first | exact h190 | omega)) rfl) rfl ?_
  refine s_mv rfl (at_off rfl rfl rfl rfl (at_off rfl rfl rfl rfl (at_off rfl rfl rfl rfl (at_lt (lt_pick true rfl rfl rfl) rfl (s_as rfl (s_nt (at_true rfl rfl (s_sr (s_as rfl ?_)))))))))
  refine s_nt (at_ret ?_)
  have hq := oinj hr
  clear hr
  subst hq
  refine at_in_ret (at_then_ret (at_int .i64 1 (by simp only [lo, hi]; omega) ?_))
  exact at_return (.int .i64 1) [0] hS Tryz.results192 (.cons (.tmp rfl) .nil) rfl rfl ⟨rfl, rfl⟩
 replace hr := ineg h190 hr
 refine at_on rfl rfl (decide_eq_false (by first | exact h190 | omega)) ?_
 refine s_mv rfl ?_
 replace hr := obind hr
 obtain ⟨x191, h192, hr⟩ := hr
 refine at_int .i64 64257 (by simp only [lo, hi]; omega) (at_int .i64 64258 (by simp only [lo, hi]; omega) ?_)
 refine at_on rfl rfl (decide_eq_false (by first | exact h190 | omega)) ?_
 refine at_hv rfl (hv_call0 [6, 1, 0] (f191_spec h192) rfl rfl rfl rfl ?_)
 rintro _ _ ⟨rfl, rfl⟩
 refine at_lt (lt_pick false rfl (decide_eq_false (by first | exact h190 | omega)) rfl) rfl ?_
 refine s_mv rfl ?_
 by_cases h193 : x191 = true
 ·replace hr := ipos h193 hr
  refine at_off rfl rfl h193 rfl (at_off rfl rfl h193 rfl (at_off rfl rfl h193 rfl (at_lt (lt_pick true rfl h193 rfl) rfl (s_as rfl (s_nt (at_true rfl rfl (s_sr (s_as rfl (s_nt ?_)))))))))
  refine at_ret ?_
  have hq := oinj hr
  clear hr
  subst hq
  refine at_in_ret (at_then_ret (at_int .i64 1 (by simp only [lo, hi]; omega) ?_))
  exact at_return (.int .i64 1) [0] hS Tryz.results192 (.cons (.tmp rfl) .nil) rfl rfl ⟨rfl, rfl⟩
 replace hr := ineg h193 hr
 refine at_on rfl rfl (bf h193) (s_mv rfl (at_on rfl rfl (bf h193) (at_lt (lt_convw rfl (iso und3) und21) rfl ?_)))
 replace hr := obind hr
 obtain ⟨x194, h195, hr⟩ := hr
 refine at_str ([195, 128, 195, 136, 195, 140, 195, 146, 195, 153, 195, 160, 195, 168, 195, 172, 195, 178, 195, 185, 195, 129, 195, 137, 195, 141, 195, 147, 195, 154, 195, 157, 195, 161, 195, 169, 195, 173, 195, 179, 195, 186, 195, 189, 196, 134, 196, 135, 196, 185, 196, 186, 197, 131, 197, 132, 197, 148, 197, 149, 197, 154, 197, 155, 197, 185, 197, 186, 195, 130, 195, 138, 195, 142, 195, 148, 195, 155, 195, 162, 195, 170, 195, 174, 195, 180, 195, 187, 196, 136, 196, 137, 196, 156, 196, 157, 196, 164, 196, 165, 196, 180, 196, 181, 197, 156, 197, 157, 197, 180, 197, 181, 197, 182, 197, 183, 195, 131, 195, 145, 195, 149, 195, 163, 195, 177, 195, 181, 196, 168, 196, 169, 197, 168, 197, 169, 196, 128, 196, 129, 196, 146, 196, 147, 196, 170, 196, 171, 197, 140, 197, 141, 197, 170, 197, 171, 196, 130, 196, 131, 196, 148, 196, 149, 196, 158, 196, 159, 196, 172, 196, 173, 197, 142, 197, 143, 197, 172, 197, 173, 196, 138, 196, 139, 196, 150, 196, 151, 196, 160, 196, 161, 196, 176, 197, 187, 197, 188, 195, 132, 195, 139, 195, 143, 195, 150, 195, 156, 195, 164, 195, 171, 195, 175, 195, 182, 195, 188, 195, 191, 197, 184, 195, 133, 195, 165, 197, 174, 197, 175, 197, 144, 197, 145, 197, 176, 197, 177, 196, 140, 196, 141, 196, 142, 196, 143, 196, 154, 196, 155, 197, 135, 197, 136, 197, 152, 197, 153, 197, 160, 197, 161, 197, 164, 197, 165, 197, 189, 197, 190, 196, 189, 196, 190, 195, 135, 195, 167, 196, 162, 196, 163, 196, 182, 196, 183, 196, 187, 196, 188, 197, 133, 197, 134, 197, 150, 197, 151, 197, 158, 197, 159, 197, 162, 197, 163, 196, 132, 196, 133, 196, 152, 196, 153, 196, 174, 196, 175, 197, 178, 197, 179, 195, 134, 195, 166, 195, 152, 195, 184, 195, 144, 195, 176, 195, 158, 195, 190, 195, 159, 196, 144, 196, 145, 196, 166, 196, 167, 196, 177, 197, 129, 197, 130, 197, 146, 197, 147, 197, 138, 197, 139, 197, 166, 197, 167] : Str) (by decide) ?_
 refine at_int .i32 (IntKind.i32.wrap a0) (wrap_bd .i32 _) (at_on rfl rfl (bf h193) (at_hv rfl (hv_call0 [1, 0] (f175_spec h195) rfl rfl rfl rfl ?_)))
 rintro _ _ ⟨rfl, rfl⟩
 refine at_lt (lt_pick false rfl (bf h193) rfl) rfl (s_as rfl (s_nt ?_))
 by_cases h196 : x194 = true
 ·replace hr := ipos h196 hr
  refine at_true rfl h196 (s_sr (s_as rfl (s_nt (at_ret ?_))))
  have hq := oinj hr
  clear hr
  subst hq
  refine at_in_ret (at_then_ret (at_int .i64 1 (by simp only [lo, hi]; omega) ?_))
  exact at_return (.int .i64 1) [0] hS Tryz.results192 (.cons (.tmp rfl) .nil) rfl rfl ⟨rfl, rfl⟩
 replace hr := ineg h196 hr
 refine at_false rfl (bf h196) (s_sr (s_mv rfl (at_lt (lt_neq rfl rfl) rfl (s_mv rfl ?_))))
 by_cases h197 : a0 = 930
 ·replace hr := ipos h197 hr
  refine at_off rfl rfl (nt (decide_eq_true (by first | exact h197 | omega))) rfl ?_
  refine at_off rfl rfl (nt (decide_eq_true (by first | exact h197 | omega))) rfl ?_
  refine at_lt (lt_pick false rfl (nt (decide_eq_true (by first | exact h197 | omega))) rfl) rfl ?_
  refine s_mv rfl (at_on rfl rfl rfl (s_mv rfl ?_))
  replace hr := obind hr
  obtain ⟨x198, h199, hr⟩ := hr
  refine at_int .i64 945 (by simp only [lo, hi]; omega) (at_int .i64 969 (by simp only [lo, hi]; omega) (at_on rfl rfl rfl (at_hv rfl (hv_call0 [10, 1, 0] (f191_spec h199) rfl rfl rfl rfl ?_))))
  rintro _ _ ⟨rfl, rfl⟩
  refine at_lt (lt_pick false rfl rfl rfl) rfl (s_mv rfl ?_)
  by_cases h200 : x198 = true
  ·replace hr := ipos h200 hr
   refine at_off rfl rfl h200 rfl (at_off rfl rfl h200 rfl (at_off rfl rfl h200 rfl (at_lt (lt_pick true rfl h200 rfl) rfl (s_as rfl (s_nt (at_true rfl rfl (s_sr (s_as rfl (s_nt ?_)))))))))
   refine at_ret ?_
   have hq := oinj hr
   clear hr
   subst hq
   refine at_in_ret (at_then_ret (at_int .i64 2 (by simp only [lo, hi]; omega) ?_))
   exact at_return (.int .i64 2) [0] hS Tryz.results192 (.cons (.tmp rfl) .nil) rfl rfl ⟨rfl, rfl⟩
  replace hr := ineg h200 hr
  refine at_on rfl rfl (bf h200) (s_mv rfl (at_on rfl rfl (bf h200) (at_lt (lt_convw rfl (iso und3) und21) rfl ?_)))
  replace hr := obind hr
  obtain ⟨x201, h202, hr⟩ := hr
  refine at_str ([206, 134, 206, 136, 206, 137, 206, 138, 206, 140, 206, 142, 206, 143, 206, 172, 206, 173, 206, 174, 206, 175, 207, 140, 207, 141, 207, 142, 206, 170, 206, 171, 207, 138, 207, 139] : Str) (by decide) ?_
  refine at_on rfl rfl (bf h200) (at_hv rfl (hv_call0 [0, 3] (f175_spec h202) rfl rfl rfl rfl ?_))
  rintro _ _ ⟨rfl, rfl⟩
  refine at_lt (lt_pick false rfl (bf h200) rfl) rfl (s_as rfl (s_nt ?_))
  by_cases h203 : x201 = true
  ·replace hr := ipos h203 hr
   refine at_true rfl h203 (s_sr (s_as rfl (s_nt (at_ret ?_))))
   have hq := oinj hr
   clear hr
   subst hq
   refine at_in_ret (at_then_ret (at_int .i64 2 (by simp only [lo, hi]; omega) ?_))
   exact at_return (.int .i64 2) [0] hS Tryz.results192 (.cons (.tmp rfl) .nil) rfl rfl ⟨rfl, rfl⟩
  replace hr := ineg h203 hr
  refine at_false rfl (bf h203) (s_sr (s_mv rfl ?_))
  replace hr := obind hr
  obtain ⟨x204, h205, hr⟩ := hr
  refine at_int .i64 1040 (by simp only [lo, hi]; omega) (at_int .i64 1103 (by simp only [lo, hi]; omega) (at_hv rfl (hv_call0 [13, 1, 0] (f191_spec h205) rfl rfl rfl rfl ?_)))
  rintro _ _ ⟨rfl, rfl⟩
  refine s_mv rfl ?_
  by_cases h206 : x204 = true
  ·replace hr := ipos h206 hr
   refine at_off rfl rfl h206 rfl (at_off rfl rfl h206 rfl (at_off rfl rfl h206 rfl (at_lt (lt_pick true rfl h206 rfl) rfl (s_as rfl (s_nt (at_true rfl rfl (s_sr (s_as rfl (s_nt ?_)))))))))
   refine at_ret ?_
   have hq := oinj hr
   clear hr
   subst hq
   refine at_in_ret (at_then_ret (at_int .i64 3 (by simp only [lo, hi]; omega) ?_))
   exact at_return (.int .i64 3) [0] hS Tryz.results192 (.cons (.tmp rfl) .nil) rfl rfl ⟨rfl, rfl⟩
  replace hr := ineg h206 hr
  refine at_on rfl rfl (bf h206) (s_mv rfl (at_on rfl rfl (bf h206) (at_lt (lt_convw rfl (iso und3) und21) rfl ?_)))
  replace hr := obind hr
  obtain ⟨x207, h208, hr⟩ := hr
  refine at_str ([208, 129, 209, 145, 208, 135, 209, 151, 208, 132, 209, 148, 210, 144, 210, 145, 208, 142, 209, 158, 208, 134, 209, 150] : Str) (by decide) ?_
  refine at_on rfl rfl (bf h206) (at_hv rfl (hv_call0 [0, 6] (f175_spec h208) rfl rfl rfl rfl ?_))
  rintro _ _ ⟨rfl, rfl⟩
  refine at_lt (lt_pick false rfl (bf h206) rfl) rfl (s_as rfl (s_nt ?_))
  by_cases h209 : x207 = true
  ·replace hr := ipos h209 hr
   refine at_true rfl h209 (s_sr (s_as rfl (s_nt (at_ret ?_))))
   have hq := oinj hr
   clear hr
   subst hq
   refine at_in_ret (at_then_ret (at_int .i64 3 (by simp only [lo, hi]; omega) ?_))
   exact at_return (.int .i64 3) [0] hS Tryz.results192 (.cons (.tmp rfl) .nil) rfl rfl ⟨rfl, rfl⟩
  replace hr := ineg h209 hr
  refine at_false rfl (bf h209) (at_skip (at_in (s_tsr (s_as rfl (s_nt (at_ret ?_))))))
  have hq := oinj hr
  clear hr
  subst hq
  refine at_int .i64 0 (by simp only [lo, hi]; omega) ?_
  exact at_return (.int .i64 0) [0] hS Tryz.results192 (.cons (.tmp rfl) .nil) rfl rfl ⟨rfl, rfl⟩
 replace hr := ineg h197 hr
 refine at_on rfl rfl (nf (decide_eq_false (by first | exact h197 | omega))) ?_
 refine s_mv rfl ?_
 replace hr := obind hr
 obtain ⟨x210, h211, hr⟩ := hr
 refine at_int .i64 913 (by simp only [lo, hi]; omega) (at_int .i64 937 (by simp only [lo, hi]; omega) ?_)
 refine at_on rfl rfl (nf (decide_eq_false (by first | exact h197 | omega))) ?_
 refine at_hv rfl (hv_call0 [10, 1, 0] (f191_spec h211) rfl rfl rfl rfl ?_)
 rintro _ _ ⟨rfl, rfl⟩
 refine at_lt (lt_pick true rfl (nf (decide_eq_false (by first | exact h197 | omega))) rfl) rfl ?_
 refine s_mv rfl ?_
 by_cases h212 : x210 = true
 ·replace hr := ipos h212 hr
  refine at_off rfl rfl h212 rfl (at_off rfl rfl h212 rfl (at_lt (lt_pick true rfl h212 rfl) rfl (s_mv rfl (at_off rfl rfl rfl rfl (at_off rfl rfl rfl rfl (at_off rfl rfl rfl rfl (at_lt (lt_pick true rfl rfl rfl) rfl (s_as rfl (s_nt ?_)))))))))
  refine at_true rfl rfl (s_sr (s_as rfl (s_nt (at_ret ?_))))
  have hq := oinj hr
  clear hr
  subst hq
  refine at_in_ret (at_then_ret (at_int .i64 2 (by simp only [lo, hi]; omega) ?_))
  exact at_return (.int .i64 2) [0] hS Tryz.results192 (.cons (.tmp rfl) .nil) rfl rfl ⟨rfl, rfl⟩
 replace hr := ineg h212 hr
 refine at_on rfl rfl (bf h212) (s_mv rfl ?_)
 replace hr := obind hr
 obtain ⟨x213, h214, hr⟩ := hr
 refine at_int .i64 945 (by simp only [lo, hi]; omega) (at_int .i64 969 (by simp only [lo, hi]; omega) (at_on rfl rfl (bf h212) (at_hv rfl (hv_call0 [12, 1, 0] (f191_spec h214) rfl rfl rfl rfl ?_))))
 rintro _ _ ⟨rfl, rfl⟩
 refine at_lt (lt_pick false rfl (bf h212) rfl) rfl (s_mv rfl ?_)
 by_cases h215 : x213 = true
 ·replace hr := ipos h215 hr
  refine at_off rfl rfl h215 rfl (at_off rfl rfl h215 rfl (at_off rfl rfl h215 rfl (at_lt (lt_pick true rfl h215 rfl) rfl (s_as rfl (s_nt (at_true rfl rfl (s_sr (s_as rfl (s_nt ?_)))))))))
  refine at_ret ?_
  have hq := oinj hr
  clear hr
  subst hq
  refine at_in_ret (at_then_ret (at_int .i64 2 (by simp only [lo, hi]; omega) ?_))
  exact at_return (.int .i64 2) [0] hS Tryz.results192 (.cons (.tmp rfl) .nil) rfl rfl ⟨rfl, rfl⟩
 replace hr := ineg h215 hr
 refine at_on rfl rfl (bf h215) (s_mv rfl (at_on rfl rfl (bf h215) (at_lt (lt_convw rfl (iso und3) und21) rfl ?_)))
 replace hr := obind hr
 obtain ⟨x216, h217, hr⟩ := hr
 refine at_str ([206, 134, 206, 136, 206, 137, 206, 138, 206, 140, 206, 142, 206, 143, 206, 172, 206, 173, 206, 174, 206, 175, 207, 140, 207, 141, 207, 142, 206, 170, 206, 171, 207, 138, 207, 139] : Str) (by decide) ?_
 refine at_on rfl rfl (bf h215) (at_hv rfl (hv_call0 [0, 5] (f175_spec h217) rfl rfl rfl rfl ?_))
 rintro _ _ ⟨rfl, rfl⟩
 refine at_lt (lt_pick false rfl (bf h215) rfl) rfl (s_as rfl (s_nt ?_))
 by_cases h218 : x216 = true
 ·replace hr := ipos h218 hr
  refine at_true rfl h218 (s_sr (s_as rfl (s_nt (at_ret ?_))))
  have hq := oinj hr
  clear hr
  subst hq
  refine at_in_ret (at_then_ret (at_int .i64 2 (by simp only [lo, hi]; omega) ?_))
  exact at_return (.int .i64 2) [0] hS Tryz.results192 (.cons (.tmp rfl) .nil) rfl rfl ⟨rfl, rfl⟩
 replace hr := ineg h218 hr
 refine at_false rfl (bf h218) (s_sr (s_mv rfl ?_))
 replace hr := obind hr
 obtain ⟨x219, h220, hr⟩ := hr
 refine at_int .i64 1040 (by simp only [lo, hi]; omega) (at_int .i64 1103 (by simp only [lo, hi]; omega) (at_hv rfl (hv_call0 [15, 1, 0] (f191_spec h220) rfl rfl rfl rfl ?_)))
 rintro _ _ ⟨rfl, rfl⟩
 refine s_mv rfl ?_
 by_cases h221 : x219 = true
 ·replace hr := ipos h221 hr
  refine at_off rfl rfl h221 rfl (at_off rfl rfl h221 rfl (at_off rfl rfl h221 rfl (at_lt (lt_pick true rfl h221 rfl) rfl (s_as rfl (s_nt (at_true rfl rfl (s_sr (s_as rfl (s_nt ?_)))))))))
  refine at_ret ?_
  have hq := oinj hr
  clear hr
  subst hq
  refine at_in_ret (at_then_ret (at_int .i64 3 (by simp only [lo, hi]; omega) ?_))
  exact at_return (.int .i64 3) [0] hS Tryz.results192 (.cons (.tmp rfl) .nil) rfl rfl ⟨rfl, rfl⟩
 replace hr := ineg h221 hr
 refine at_on rfl rfl (bf h221) (s_mv rfl (at_on rfl rfl (bf h221) (at_lt (lt_convw rfl (iso und3) und21) rfl ?_)))
 replace hr := obind hr
 obtain ⟨x222, h223, hr⟩ := hr
 refine at_str ([208, 129, 209, 145, 208, 135, 209, 151, 208, 132, 209, 148, 210, 144, 210, 145, 208, 142, 209, 158, 208, 134, 209, 150] : Str) (by decide) ?_
 refine at_on rfl rfl (bf h221) (at_hv rfl (hv_call0 [0, 8] (f175_spec h223) rfl rfl rfl rfl ?_))
 rintro _ _ ⟨rfl, rfl⟩
 refine at_lt (lt_pick false rfl (bf h221) rfl) rfl (s_as rfl (s_nt ?_))
 by_cases h224 : x222 = true
 ·replace hr := ipos h224 hr
  refine at_true rfl h224 (s_sr (s_as rfl (s_nt (at_ret ?_))))
  have hq := oinj hr
  clear hr
  subst hq
  refine at_in_ret (at_then_ret (at_int .i64 3 (by simp only [lo, hi]; omega) ?_))
  exact at_return (.int .i64 3) [0] hS Tryz.results192 (.cons (.tmp rfl) .nil) rfl rfl ⟨rfl, rfl⟩
 replace hr := ineg h224 hr
 refine at_false rfl (bf h224) (at_skip (at_in (s_tsr (s_as rfl (s_nt (at_ret ?_))))))
 have hq := oinj hr
 clear hr
 subst hq
 refine at_int .i64 0 (by simp only [lo, hi]; omega) ?_
 exact at_return (.int .i64 0) [0] hS Tryz.results192 (.cons (.tmp rfl) .nil) rfl rfl ⟨rfl, rfl⟩
def m193 (a0 : Int) : Option Bool :=
  Option.bind (α := Bool) (
   if a0 = 773 then
    some (decide (a0 = 773))
   else
    some (decide (a0 = 777))
  ) fun x226 =>
  if x226 = true then
   some false
  else
   Option.bind (α := Bool) (
    if a0 = 803 then
     some (decide (a0 = 803))
    else
     if a0 = 807 then
      some (decide (a0 = 807))
     else
      some (decide (a0 = 808))
   ) fun x230 =>
   if x230 = true then
    some true
   else
    (m191 a0 768 780).bind fun x235 =>
    some x235
def post193 (r : Bool) (v : Value) (fs : List Fact) : Prop := v = .bool r ∧ fs = []
theorem en193 : Enters Tryz.prog 193 := ⟨_, Tryz.func193, by kernel_rfl, rfl⟩
theorem f193_spec {a0 : Int} {r : Bool} (hr : m193 a0 = some r) : Spec Tryz.prog 193 [.int .i64 a0] [((Ty.int .i64).fact a0 [.int .i64 a0])] (post193 r) := by
 refine spec_start (N := 13) Tryz.func193 (by kernel_rfl) rfl rfl rfl ?_
 intro g hS
 unfold m193 at hr
 refine at_inv 0 rfl (fun l225 => ?_)
 replace l225 : (-9223372036854775808) ≤ a0 ∧ a0 ≤ 9223372036854775807 := l225
 refine s_sr (s_as rfl (s_nt (at_seq (s_sr (s_mv rfl (s_nt (at_block (at_seq (s_sr ?_)))))))))
 refine at_lt (lt_eql rfl rfl) rfl (s_as rfl (s_nt ?_))
 replace hr := obind hr
 obtain ⟨x226, hc227, hr⟩ := hr
 refine at_cut (V := Unit) (fun e => (⟨[(0, .int .i64 a0), (3, .int .i64 a0), (4, .bool x226)], [], [], [((Ty.int .i64).fact a0 [.int .i64 a0])]⟩ : St)) ?_ ?_
 ·clear hr
  have hr := hc227
  clear hc227
  by_cases h228 : a0 = 773
  ·replace hr := ipos h228 hr
   refine at_true rfl (decide_eq_true (by first | exact h228 | omega)) ?_
   refine at_skip ?_
   have hq := oinj hr
   clear hr
   subst hq
   exact at_leaf () ⟨⟨rfl, ⟨rfl, ⟨rfl, trivial⟩⟩⟩, ⟨[], rfl⟩, ⟨[], rfl⟩, ⟨[0], rfl⟩⟩
  replace hr := ineg h228 hr
  refine at_false rfl (decide_eq_false (by first | exact h228 | omega)) ?_
  refine at_region (at_lt (lt_eql rfl rfl) rfl (s_as rfl (at_nil ?_)))
  have hq := oinj hr
  clear hr
  subst hq
  exact at_leaf () ⟨⟨rfl, ⟨rfl, ⟨rfl, trivial⟩⟩⟩, ⟨[], rfl⟩, ⟨[], rfl⟩, ⟨[0], rfl⟩⟩
 clear hc227
 intro _
 change At _ _ (⟨[(0, .int .i64 a0), (3, .int .i64 a0), (4, .bool x226)], [], [], [((Ty.int .i64).fact a0 [.int .i64 a0])]⟩ : St) _
 refine at_then ?_
 by_cases h229 : x226 = true
 ·replace hr := ipos h229 hr
  refine at_true rfl h229 (s_sr (s_as rfl (s_nt (at_ret ?_))))
  have hq := oinj hr
  clear hr
  subst hq
  refine at_in_ret (at_then_ret ?_)
  exact at_return (.bool false) [] hS Tryz.results193 (.cons (.tmp rfl) .nil) rfl rfl ⟨rfl, rfl⟩
 replace hr := ineg h229 hr
 refine at_false rfl (bf h229) (at_seq (s_sr (at_lt (lt_eql rfl rfl) rfl (s_as rfl (s_nt ?_)))))
 replace hr := obind hr
 obtain ⟨x230, hc231, hr⟩ := hr
 refine at_cut (V := Unit) (fun e => (⟨[(0, .int .i64 a0), (7, .bool x230)], [], [], [((Ty.int .i64).fact a0 [.int .i64 a0])]⟩ : St)) ?_ ?_
 ·clear hr
  have hr := hc231
  clear hc231
  by_cases h232 : a0 = 803
  ·replace hr := ipos h232 hr
   refine at_true rfl (decide_eq_true (by first | exact h232 | omega)) ?_
   refine at_skip ?_
   have hq := oinj hr
   clear hr
   subst hq
   exact at_leaf () ⟨⟨rfl, ⟨rfl, trivial⟩⟩, ⟨[], rfl⟩, ⟨[], rfl⟩, ⟨[0], rfl⟩⟩
  replace hr := ineg h232 hr
  refine at_false rfl (decide_eq_false (by first | exact h232 | omega)) ?_
  refine s_sr (at_lt (lt_eql rfl rfl) rfl (s_as rfl (s_nt ?_)))
  by_cases h233 : a0 = 807
  ·replace hr := ipos h233 hr
   refine at_true rfl (decide_eq_true (by first | exact h233 | omega)) ?_
   refine at_skip ?_
   have hq := oinj hr
   clear hr
   subst hq
   exact at_leaf () ⟨⟨rfl, ⟨rfl, trivial⟩⟩, ⟨[], rfl⟩, ⟨[], rfl⟩, ⟨[0], rfl⟩⟩
  replace hr := ineg h233 hr
  refine at_false rfl (decide_eq_false (by first | exact h233 | omega)) ?_
  refine at_region (at_lt (lt_eql rfl rfl) rfl (s_as rfl (at_nil ?_)))
  have hq := oinj hr
  clear hr
  subst hq
  exact at_leaf () ⟨⟨rfl, ⟨rfl, trivial⟩⟩, ⟨[], rfl⟩, ⟨[], rfl⟩, ⟨[0], rfl⟩⟩
 clear hc231
 intro _
 change At _ _ (⟨[(0, .int .i64 a0), (7, .bool x230)], [], [], [((Ty.int .i64).fact a0 [.int .i64 a0])]⟩ : St) _
 refine at_then ?_
 by_cases h234 : x230 = true
 ·replace hr := ipos h234 hr
  refine at_true rfl h234 (s_sr (s_as rfl (s_nt (at_ret ?_))))
  have hq := oinj hr
  clear hr
  subst hq
  refine at_in_ret (at_then_ret ?_)
  exact at_return (.bool true) [] hS Tryz.results193 (.cons (.tmp rfl) .nil) rfl rfl ⟨rfl, rfl⟩
 replace hr := ineg h234 hr
 refine at_false rfl (bf h234) (at_skip (at_in (s_tsr (s_mv rfl ?_))))
 replace hr := obind hr
 obtain ⟨x235, h236, hr⟩ := hr
 refine at_int .i64 768 (by simp only [lo, hi]; omega) (at_int .i64 780 (by simp only [lo, hi]; omega) (at_hv rfl (hv_call0 [2, 1, 0] (f191_spec h236) rfl rfl rfl rfl ?_)))
 rintro _ _ ⟨rfl, rfl⟩
 refine s_as rfl (s_nt (at_ret ?_))
 have hq := oinj hr
 clear hr
 subst hq
 exact at_return (.bool x235) [] hS Tryz.results193 (.cons (.tmp rfl) .nil) rfl rfl ⟨rfl, rfl⟩
def m173 (a0 : Int) : Option (Int × Int) :=
  (m191 a0 65281 65374).bind fun x238 =>
  Option.bind (α := Int) (
   if x238 = true then
    some (IntKind.i64.wrap (a0 - 65248))
   else
    some a0
  ) fun x240 =>
  if x240 < 32 then
   some (0, 0)
  else
   if (65535 : Int) < x240 then
    some (0, 0)
   else
    (m192 x240).bind fun x246 =>
    if x246 = 0 then
     if x240 = 32 then
      some (0, 4)
     else
      if x240 = 160 then
       some (0, 4)
      else
       (m191 x240 48 57).bind fun x252 =>
       if x252 = true then
        some (0, 3)
       else
        if x240 = 178 then
         some (0, 3)
        else
         if x240 = 179 then
          some (0, 3)
         else
          if x240 = 185 then
           some (0, 3)
          else
           (m193 x240).bind fun x258 =>
           if x258 = true then
            some (0, 2)
           else
            if x240 ≤ 126 then
             some (0, 5)
            else
             some (0, 0)
    else
     some (x246, 1)
def post173 (r : (Int × Int)) (v : Value) (fs : List Fact) : Prop := v = .tuple #[.int .i64 r.1, .int .i64 r.2] ∧ fs = [((Ty.int .i64).fact r.1 [.int .i64 r.1]), ((Ty.int .i64).fact r.2 [.int .i64 r.2])]
theorem en173 : Enters Tryz.prog 173 := ⟨_, Tryz.func173, by kernel_rfl, rfl⟩
theorem f173_spec {a0 : Int} {r : (Int × Int)} (hr : m173 a0 = some r) : Spec Tryz.prog 173 [.int .i64 a0] [((Ty.int .i64).fact a0 [.int .i64 a0])] (post173 r) := by
 refine spec_start (N := 49) Tryz.func173 (by kernel_rfl) rfl rfl rfl ?_
 intro g hS
 unfold m173 at hr
 refine at_inv 0 rfl (fun l237 => ?_)
 replace l237 : (-9223372036854775808) ≤ a0 ∧ a0 ≤ 9223372036854775807 := l237
 refine s_sr (s_as rfl (s_as rfl (s_nt (at_seq (s_sr (s_mv rfl ?_))))))
 replace hr := obind hr
 obtain ⟨x238, h239, hr⟩ := hr
 refine at_int .i64 65281 (by simp only [lo, hi]; omega) (at_int .i64 65374 (by simp only [lo, hi]; omega) (at_hv rfl (hv_call0 [2, 1, 0] (f191_spec h239) rfl rfl rfl rfl ?_)))
 rintro _ _ ⟨rfl, rfl⟩
 refine s_nt ?_
 replace hr := obind hr
 obtain ⟨x240, hc241, hr⟩ := hr
 refine at_cut (V := Unit) (fun e => (⟨[(0, .int .i64 x240)], [], [], [((Ty.int .i64).fact x240 [.int .i64 x240])]⟩ : St)) ?_ ?_
 ·clear hr
  have hr := hc241
  clear hc241
  by_cases h242 : x238 = true
  ·replace hr := ipos h242 hr
   refine at_true rfl h242 (at_region (s_mv rfl (at_lt (lt_subw rfl rfl) rfl (s_as rfl (at_nil ?_)))))
   have hq := oinj hr
   clear hr
   subst hq
   refine at_int .i64 (IntKind.i64.wrap (a0 - 65248)) (wrap_bd .i64 _) ?_
   exact at_leaf () ⟨⟨rfl, trivial⟩, ⟨[], rfl⟩, ⟨[], rfl⟩, ⟨[0], rfl⟩⟩
  replace hr := ineg h242 hr
  refine at_false rfl (bf h242) (at_skip ?_)
  have hq := oinj hr
  clear hr
  subst hq
  exact at_leaf () ⟨⟨rfl, trivial⟩, ⟨[], rfl⟩, ⟨[], rfl⟩, ⟨[2], rfl⟩⟩
 clear hc241
 intro _
 change At _ _ (⟨[(0, .int .i64 x240)], [], [], [((Ty.int .i64).fact x240 [.int .i64 x240])]⟩ : St) _
 refine at_inv 0 rfl (fun l243 => ?_)
 replace l243 : (-9223372036854775808) ≤ x240 ∧ x240 ≤ 9223372036854775807 := l243
 refine at_then (at_seq (s_sr (s_mv rfl (at_lt (lt_lss rfl rfl) rfl (s_mv rfl ?_)))))
 by_cases h244 : x240 < 32
 ·replace hr := ipos h244 hr
  refine at_off rfl rfl (decide_eq_true (by first | exact h244 | omega)) rfl ?_
  refine at_off rfl rfl (decide_eq_true (by first | exact h244 | omega)) rfl ?_
  refine at_lt (lt_pick true rfl (decide_eq_true (by first | exact h244 | omega)) rfl) rfl ?_
  refine s_nt (at_true rfl rfl (s_sr (s_as rfl (s_as rfl (s_nt (at_ret ?_))))))
  have hq := oinj hr
  clear hr
  subst hq
  refine at_then_ret (at_int .i64 0 (by simp only [lo, hi]; omega) ?_)
  exact at_return (.tuple #[.int .i64 0, .int .i64 0]) [0, 0] hS Tryz.results173 (.cons (.tmp rfl) (.cons (.tmp rfl) .nil)) rfl rfl ⟨rfl, rfl⟩
 replace hr := ineg h244 hr
 refine at_on rfl rfl (decide_eq_false (by first | exact h244 | omega)) ?_
 refine s_mv rfl ?_
 refine at_on rfl rfl (decide_eq_false (by first | exact h244 | omega)) ?_
 refine at_lt (lt_gtr rfl rfl) rfl ?_
 refine at_lt (lt_pick false rfl (decide_eq_false (by first | exact h244 | omega)) rfl) rfl ?_
 refine s_nt ?_
 by_cases h245 : (65535 : Int) < x240
 ·replace hr := ipos h245 hr
  refine at_true rfl (decide_eq_true (by first | exact h245 | omega)) ?_
  refine s_sr (s_as rfl (s_as rfl (s_nt (at_ret ?_))))
  have hq := oinj hr
  clear hr
  subst hq
  refine at_then_ret (at_int .i64 0 (by simp only [lo, hi]; omega) ?_)
  exact at_return (.tuple #[.int .i64 0, .int .i64 0]) [0, 0] hS Tryz.results173 (.cons (.tmp rfl) (.cons (.tmp rfl) .nil)) rfl rfl ⟨rfl, rfl⟩
 replace hr := ineg h245 hr
 refine at_false rfl (decide_eq_false (by first | exact h245 | omega)) ?_
 refine at_skip (at_then (at_seq (s_sr (s_mv rfl ?_))))
 replace hr := obind hr
 obtain ⟨x246, h247, hr⟩ := hr
 refine at_hv rfl (hv_call0 [0] (f192_spec h247) rfl rfl rfl rfl ?_)
 rintro _ _ ⟨rfl, rfl⟩
 refine at_inv 0 rfl (fun l248 => ?_)
 replace l248 : (-9223372036854775808) ≤ x246 ∧ x246 ≤ 9223372036854775807 := l248
 refine s_as rfl (s_nt (at_block (s_sr (s_mv rfl (at_lt (lt_neq rfl rfl) rfl (s_as rfl (s_nt ?_)))))))
 by_cases h249 : x246 = 0
 ·replace hr := ipos h249 hr
  refine at_false rfl (nt (decide_eq_true (by first | exact h249 | omega))) ?_
  refine s_sr (s_mv rfl (at_lt (lt_eql rfl rfl) rfl (s_mv rfl ?_)))
  by_cases h250 : x240 = 32
  ·replace hr := ipos h250 hr
   refine at_off rfl rfl (decide_eq_true (by first | exact h250 | omega)) rfl ?_
   refine at_off rfl rfl (decide_eq_true (by first | exact h250 | omega)) rfl ?_
   refine at_lt (lt_pick true rfl (decide_eq_true (by first | exact h250 | omega)) rfl) rfl ?_
   refine s_as rfl (s_nt (at_true rfl rfl (s_sr (s_as rfl (s_as rfl (s_nt (at_ret ?_)))))))
   have hq := oinj hr
   clear hr
   subst hq
   refine at_in_ret (at_then_ret (at_int .i64 0 (by simp only [lo, hi]; omega) (at_int .i64 4 (by simp only [lo, hi]; omega) ?_)))
   exact at_return (.tuple #[.int .i64 0, .int .i64 4]) [1, 0] hS Tryz.results173 (.cons (.tmp rfl) (.cons (.tmp rfl) .nil)) rfl rfl ⟨rfl, rfl⟩
  replace hr := ineg h250 hr
  refine at_on rfl rfl (decide_eq_false (by first | exact h250 | omega)) ?_
  refine s_mv rfl ?_
  refine at_on rfl rfl (decide_eq_false (by first | exact h250 | omega)) ?_
  refine at_lt (lt_eql rfl rfl) rfl ?_
  refine at_lt (lt_pick false rfl (decide_eq_false (by first | exact h250 | omega)) rfl) rfl ?_
  refine s_as rfl (s_nt ?_)
  by_cases h251 : x240 = 160
  ·replace hr := ipos h251 hr
   refine at_true rfl (decide_eq_true (by first | exact h251 | omega)) ?_
   refine s_sr (s_as rfl (s_as rfl (s_nt (at_ret ?_))))
   have hq := oinj hr
   clear hr
   subst hq
   refine at_in_ret (at_then_ret (at_int .i64 0 (by simp only [lo, hi]; omega) (at_int .i64 4 (by simp only [lo, hi]; omega) ?_)))
   exact at_return (.tuple #[.int .i64 0, .int .i64 4]) [1, 0] hS Tryz.results173 (.cons (.tmp rfl) (.cons (.tmp rfl) .nil)) rfl rfl ⟨rfl, rfl⟩
  replace hr := ineg h251 hr
  refine at_false rfl (decide_eq_false (by first | exact h251 | omega)) ?_
  refine s_sr (s_mv rfl ?_)
  replace hr := obind hr
  obtain ⟨x252, h253, hr⟩ := hr
  refine at_int .i64 48 (by simp only [lo, hi]; omega) (at_int .i64 57 (by simp only [lo, hi]; omega) (at_hv rfl (hv_call0 [3, 1, 0] (f191_spec h253) rfl rfl rfl rfl ?_)))
  rintro _ _ ⟨rfl, rfl⟩
  refine s_mv rfl ?_
  by_cases h254 : x252 = true
  ·replace hr := ipos h254 hr
   refine at_off rfl rfl h254 rfl (at_off rfl rfl h254 rfl (at_lt (lt_pick true rfl h254 rfl) rfl (s_mv rfl (at_off rfl rfl rfl rfl (at_off rfl rfl rfl rfl (at_lt (lt_pick true rfl rfl rfl) rfl (s_mv rfl (at_off rfl rfl rfl rfl (at_off rfl rfl rfl rfl ?_)))))))))
   refine at_lt (lt_pick true rfl rfl rfl) rfl (s_as rfl (s_nt (at_true rfl rfl (s_sr (s_as rfl (s_as rfl (s_nt (at_ret ?_))))))))
   have hq := oinj hr
   clear hr
   subst hq
   refine at_in_ret (at_then_ret (at_int .i64 0 (by simp only [lo, hi]; omega) (at_int .i64 3 (by simp only [lo, hi]; omega) ?_)))
   exact at_return (.tuple #[.int .i64 0, .int .i64 3]) [1, 0] hS Tryz.results173 (.cons (.tmp rfl) (.cons (.tmp rfl) .nil)) rfl rfl ⟨rfl, rfl⟩
  replace hr := ineg h254 hr
  refine at_on rfl rfl (bf h254) (s_mv rfl (at_on rfl rfl (bf h254) (at_lt (lt_eql rfl rfl) rfl (at_lt (lt_pick false rfl (bf h254) rfl) rfl (s_mv rfl ?_)))))
  by_cases h255 : x240 = 178
  ·replace hr := ipos h255 hr
   refine at_off rfl rfl (decide_eq_true (by first | exact h255 | omega)) rfl ?_
   refine at_off rfl rfl (decide_eq_true (by first | exact h255 | omega)) rfl ?_
   refine at_lt (lt_pick true rfl (decide_eq_true (by first | exact h255 | omega)) rfl) rfl ?_
   refine s_mv rfl (at_off rfl rfl rfl rfl (at_off rfl rfl rfl rfl (at_lt (lt_pick true rfl rfl rfl) rfl (s_as rfl (s_nt (at_true rfl rfl (s_sr (s_as rfl (s_as rfl ?_)))))))))
   refine s_nt (at_ret ?_)
   have hq := oinj hr
   clear hr
   subst hq
   refine at_in_ret (at_then_ret (at_int .i64 0 (by simp only [lo, hi]; omega) (at_int .i64 3 (by simp only [lo, hi]; omega) ?_)))
   exact at_return (.tuple #[.int .i64 0, .int .i64 3]) [1, 0] hS Tryz.results173 (.cons (.tmp rfl) (.cons (.tmp rfl) .nil)) rfl rfl ⟨rfl, rfl⟩
  replace hr := ineg h255 hr
  refine at_on rfl rfl (decide_eq_false (by first | exact h255 | omega)) ?_
  refine s_mv rfl ?_
  refine at_on rfl rfl (decide_eq_false (by first | exact h255 | omega)) ?_
  refine at_lt (lt_eql rfl rfl) rfl ?_
  refine at_lt (lt_pick false rfl (decide_eq_false (by first | exact h255 | omega)) rfl) rfl ?_
  refine s_mv rfl ?_
  by_cases h256 : x240 = 179
  ·replace hr := ipos h256 hr
   refine at_off rfl rfl (decide_eq_true (by first | exact h256 | omega)) rfl ?_
   refine at_off rfl rfl (decide_eq_true (by first | exact h256 | omega)) rfl ?_
   refine at_lt (lt_pick true rfl (decide_eq_true (by first | exact h256 | omega)) rfl) rfl ?_
   refine s_as rfl (s_nt (at_true rfl rfl (s_sr (s_as rfl (s_as rfl (s_nt (at_ret ?_)))))))
   have hq := oinj hr
   clear hr
   subst hq
   refine at_in_ret (at_then_ret (at_int .i64 0 (by simp only [lo, hi]; omega) (at_int .i64 3 (by simp only [lo, hi]; omega) ?_)))
   exact at_return (.tuple #[.int .i64 0, .int .i64 3]) [1, 0] hS Tryz.results173 (.cons (.tmp rfl) (.cons (.tmp rfl) .nil)) rfl rfl ⟨rfl, rfl⟩
  replace hr := ineg h256 hr
  refine at_on rfl rfl (decide_eq_false (by first | exact h256 | omega)) ?_
  refine s_mv rfl ?_
  refine at_on rfl rfl (decide_eq_false (by first | exact h256 | omega)) ?_
  refine at_lt (lt_eql rfl rfl) rfl ?_
  refine at_lt (lt_pick false rfl (decide_eq_false (by first | exact h256 | omega)) rfl) rfl ?_
  refine s_as rfl (s_nt ?_)
  by_cases h257 : x240 = 185
  ·replace hr := ipos h257 hr
   refine at_true rfl (decide_eq_true (by first | exact h257 | omega)) ?_
   refine s_sr (s_as rfl (s_as rfl (s_nt (at_ret ?_))))
   have hq := oinj hr
   clear hr
   subst hq
   refine at_in_ret (at_then_ret (at_int .i64 0 (by simp only [lo, hi]; omega) (at_int .i64 3 (by simp only [lo, hi]; omega) ?_)))
   exact at_return (.tuple #[.int .i64 0, .int .i64 3]) [1, 0] hS Tryz.results173 (.cons (.tmp rfl) (.cons (.tmp rfl) .nil)) rfl rfl ⟨rfl, rfl⟩
  replace hr := ineg h257 hr
  refine at_false rfl (decide_eq_false (by first | exact h257 | omega)) ?_
  refine s_sr (s_mv rfl ?_)
  replace hr := obind hr
  obtain ⟨x258, h259, hr⟩ := hr
  refine at_hv rfl (hv_call0 [3] (f193_spec h259) rfl rfl rfl rfl ?_)
  rintro _ _ ⟨rfl, rfl⟩
  refine s_as rfl (s_nt ?_)
  by_cases h260 : x258 = true
  ·replace hr := ipos h260 hr
   refine at_true rfl h260 (s_sr (s_as rfl (s_as rfl (s_nt (at_ret ?_)))))
   have hq := oinj hr
   clear hr
   subst hq
   refine at_in_ret (at_then_ret (at_int .i64 0 (by simp only [lo, hi]; omega) (at_int .i64 2 (by simp only [lo, hi]; omega) ?_)))
   exact at_return (.tuple #[.int .i64 0, .int .i64 2]) [1, 0] hS Tryz.results173 (.cons (.tmp rfl) (.cons (.tmp rfl) .nil)) rfl rfl ⟨rfl, rfl⟩
  replace hr := ineg h260 hr
  refine at_false rfl (bf h260) (s_sr (s_mv rfl (at_lt (lt_leq rfl rfl) rfl (s_as rfl (s_nt ?_)))))
  by_cases h261 : x240 ≤ 126
  ·replace hr := ipos h261 hr
   refine at_true rfl (decide_eq_true (by first | exact h261 | omega)) ?_
   refine s_sr (s_as rfl (s_as rfl (s_nt (at_ret ?_))))
   have hq := oinj hr
   clear hr
   subst hq
   refine at_in_ret (at_then_ret (at_int .i64 0 (by simp only [lo, hi]; omega) (at_int .i64 5 (by simp only [lo, hi]; omega) ?_)))
   exact at_return (.tuple #[.int .i64 0, .int .i64 5]) [1, 0] hS Tryz.results173 (.cons (.tmp rfl) (.cons (.tmp rfl) .nil)) rfl rfl ⟨rfl, rfl⟩
  replace hr := ineg h261 hr
  refine at_false rfl (decide_eq_false (by first | exact h261 | omega)) ?_
  refine at_skip (at_in (s_tsr (s_as rfl (s_as rfl (s_nt (at_ret ?_))))))
  have hq := oinj hr
  clear hr
  subst hq
  refine at_int .i64 0 (by simp only [lo, hi]; omega) ?_
  exact at_return (.tuple #[.int .i64 0, .int .i64 0]) [0, 0] hS Tryz.results173 (.cons (.tmp rfl) (.cons (.tmp rfl) .nil)) rfl rfl ⟨rfl, rfl⟩
 replace hr := ineg h249 hr
 refine at_true rfl (nf (decide_eq_false (by first | exact h249 | omega))) ?_
 refine s_sr (s_mv rfl (s_as rfl (s_as rfl (s_nt (at_ret ?_)))))
 have hq := oinj hr
 clear hr
 subst hq
 refine at_in_ret (at_then_ret (at_int .i64 1 (by simp only [lo, hi]; omega) ?_))
 exact at_return (.tuple #[.int .i64 x246, .int .i64 1]) [1, 0] hS Tryz.results173 (.cons (.tmp rfl) (.cons (.tmp rfl) .nil)) rfl rfl ⟨rfl, rfl⟩
def m143 (a0 : Int) : Option Bool :=
  (m173 a0).bind fun x263 =>
  some (!decide (x263.2 = 0))
def post143 (r : Bool) (v : Value) (fs : List Fact) : Prop := v = .bool r ∧ fs = []
theorem en143 : Enters Tryz.prog 143 := ⟨_, Tryz.func143, by kernel_rfl, rfl⟩
theorem f143_spec {a0 : Int} {r : Bool} (hr : m143 a0 = some r) : Spec Tryz.prog 143 [.int .i64 a0] [((Ty.int .i64).fact a0 [.int .i64 a0])] (post143 r) := by
 refine spec_start (N := 12) Tryz.func143 (by kernel_rfl) rfl rfl rfl ?_
 intro g hS
 unfold m143 at hr
 refine at_inv 0 rfl (fun l262 => ?_)
 replace l262 : (-9223372036854775808) ≤ a0 ∧ a0 ≤ 9223372036854775807 := l262
 refine s_sr (s_as rfl (s_ntsr (s_mv rfl ?_)))
 replace hr := obind hr
 obtain ⟨x263, h264, hr⟩ := hr
 refine at_hv rfl (hv_call0 [0] (f173_spec h264) rfl rfl rfl rfl ?_)
 rintro _ _ ⟨rfl, rfl⟩
 refine at_inv 0 rfl (fun l265 => ?_)
 replace l265 : (-9223372036854775808) ≤ x263.1 ∧ x263.1 ≤ 9223372036854775807 := l265
 refine at_inv 1 rfl (fun l266 => ?_)
 replace l266 : (-9223372036854775808) ≤ x263.2 ∧ x263.2 ≤ 9223372036854775807 := l266
 refine s_mv rfl (at_lt (lt_extract rfl rfl) rfl (at_lt (lt_extract rfl rfl) rfl (s_as rfl (s_as rfl (s_ntsr (s_mv rfl (at_lt (lt_neq rfl rfl) rfl (s_as rfl (s_nt ?_)))))))))
 refine at_ret ?_
 have hq := oinj hr
 clear hr
 subst hq
 exact at_return (.bool (!decide (x263.2 = 0))) [] hS Tryz.results143 (.cons (.tmp rfl) .nil) rfl rfl ⟨rfl, rfl⟩
def m125_l1 : Nat → Str → (List Int) → Option (Fl ((List Int) × Bool) (List Int))
  | 0, _, _ => none
  | k + 1, x270, x271 =>
    if 0 < x270.length then
     (m142 x270).bind fun x284 =>
     if x284.1 = 65533 then
      some (Fl.ret (([] : (List Int)), false))
     else
      (m143 x284.1).bind fun x289 =>
      if x289 = true then
       if x271.length + 1 ≤ 17592186044416 then
        if 0 ≤ x284.2 ∧ x284.2.toNat ≤ x270.length then
         m125_l1 k (x270.drop x284.2.toNat) (x271 ++ [x284.1])
        else none
       else none
      else
       some (Fl.ret (([] : (List Int)), false))
    else
     some (Fl.go x271)
def m125 (a0 : Str) : Option ((List Int) × Bool) :=
  if a0.length ≤ 17592186044416 then
   (m125_l1 (a0.length + 1) a0 ([] : (List Int))).bind fun r => match r with
   | .ret x => some x
   | .go x275 =>
    some (x275, true)
  else none
def post125 (r : ((List Int) × Bool)) (v : Value) (fs : List Fact) : Prop := ∃ s301 : Value, v = .tuple #[s301, .bool r.2] ∧ fs = [((Ty.slice (Ty.int .i64)).fact r.1 [s301])]
theorem en125 : Enters Tryz.prog 125 := ⟨_, Tryz.func125, by kernel_rfl, rfl⟩
theorem f125_spec {a0 : Str} {r : ((List Int) × Bool)} (hr : m125 a0 = some r) : Spec Tryz.prog 125 [str a0] [(Ty.str.fact a0 [str a0]), (tabsF Tryz.prog 4 5)] (post125 r) := by
 refine spec_start (N := 35) Tryz.func125 (by kernel_rfl) rfl rfl rfl ?_
 intro g hS
 unfold m125 at hr
 refine s_sr (s_as rfl (s_as rfl (s_ntsr (s_mv rfl ?_))))
 refine at_inv 0 rfl (fun l267 => ?_)
 replace l267 : a0.length ≤ 9223372036854775807 := l267
 refine at_lt (lt_slen rfl und9) rfl ?_
 replace hr := imust hr
 obtain ⟨h268, hr⟩ := hr
 refine at_hv rfl ?_
 refine hv_make0 a0.length rfl rfl rfl (by omega) und140 ti3 (by omega) (by omega) rfl (fun s269 => ?_)
 refine s_as rfl (s_nt (at_seq (at_rownil (Ty.int .i64) ?_)))
 refine at_mkpure (q := (([] : (List Int)).length * (Ty.int .i64).bytes ≤ 140737488355328)) (by simp only [List.nil_append, List.cons_append, List.length_cons, List.length_nil, Ty.int_bytes, Ty.u8_bytes, Ty.str_bytes, Ty.slice_bytes, Ty.bool_bytes, nb] <;> omega) ?_
 replace hr := obind hr
 obtain ⟨r279, hl280, hk281⟩ := hr
 refine at_cutP (V := ((List Int)) × (Value × Nat × (List Value))) (fun v => r279 = Fl.go v.1) (fun v => (⟨[(4, v.2.1)], [], [⟨v.2.1, 3, 1, v.2.2.1, v.2.2.2⟩], [((Ty.int .i64).row v.1 v.2.2.2), (pureF (v.1.length * (Ty.int .i64).bytes ≤ 140737488355328)), (tabsF Tryz.prog 4 5)]⟩ : St)) ?_ ?_
 ·refine at_block ?_
  refine at_loopW (σ := (Str × (List Int))) (V := Value × Nat × (List Value)) (r := r279) (fun n s => m125_l1 n s.1 s.2) (fun s e => (⟨[(0, str s.1), (4, e.1)], [], [⟨e.1, 3, 1, e.2.1, e.2.2⟩], [(Ty.str.fact s.1 [str s.1]), ((Ty.int .i64).row s.2 e.2.2), (pureF (s.2.length * (Ty.int .i64).bytes ≤ 140737488355328)), (tabsF Tryz.prog 4 5)]⟩ : St)) (fun _ => rfl) _ (a0, ([] : (List Int))) (s269, 0, []) hl280 ⟨⟨rfl, ⟨rfl, trivial⟩⟩, ⟨[], rfl⟩, ⟨[true], rfl⟩, ⟨[2, 1, 0, 3], rfl⟩⟩ ?_
  clear hl280
  intro n s hr e
  obtain ⟨x270, x271⟩ := s
  obtain ⟨v272, n273, i274⟩ := e
  change m125_l1 (n + 1) x270 x271 = some r279 at hr
  change At _ _ (⟨[(0, str x270), (4, v272)], [], [⟨v272, 3, 1, n273, i274⟩], [(Ty.str.fact x270 [str x270]), ((Ty.int .i64).row x271 i274), (pureF (x271.length * (Ty.int .i64).bytes ≤ 140737488355328)), (tabsF Tryz.prog 4 5)]⟩ : St) _
  rw [m125_l1] at hr
  refine at_seq (s_sr (s_mv rfl ?_))
  refine at_inv 0 rfl (fun l282 => ?_)
  replace l282 : x270.length ≤ 9223372036854775807 := l282
  refine at_lt (lt_slen rfl und9) rfl (at_lt (lt_gtr rfl rfl) rfl (s_nt ?_))
  by_cases h283 : 0 < x270.length
  ·replace hr := ipos h283 hr
   refine at_true rfl (decide_eq_true (by omega)) ?_
   refine at_skip (at_then (at_block (s_sr (s_mv rfl ?_))))
   replace hr := obind hr
   obtain ⟨x284, h285, hr⟩ := hr
   refine at_hv rfl (hv_call0 [0, 3] (f142_spec h285) rfl rfl rfl rfl ?_)
   rintro _ _ ⟨rfl, rfl⟩
   refine at_inv 0 rfl (fun l286 => ?_)
   replace l286 : (-2147483648) ≤ x284.1 ∧ x284.1 ≤ 2147483647 := l286
   refine at_inv 1 rfl (fun l287 => ?_)
   replace l287 : (-9223372036854775808) ≤ x284.2 ∧ x284.2 ≤ 9223372036854775807 := l287
   refine s_mv rfl (at_lt (lt_extract rfl rfl) rfl (at_lt (lt_extract rfl rfl) rfl (s_as rfl (s_as rfl (s_nt (at_seq (s_sr (s_mv rfl (at_lt (lt_eql rfl rfl) rfl ?_)))))))))
   refine s_mv rfl ?_
   by_cases h288 : x284.1 = 65533
   ·replace hr := ipos h288 hr
    refine at_off rfl rfl (decide_eq_true (by first | exact h288 | omega)) rfl ?_
    refine at_off rfl rfl (decide_eq_true (by first | exact h288 | omega)) rfl ?_
    refine at_off rfl rfl (decide_eq_true (by first | exact h288 | omega)) rfl ?_
    refine at_off rfl rfl (decide_eq_true (by first | exact h288 | omega)) rfl ?_
    refine at_lt (lt_pick true rfl (decide_eq_true (by first | exact h288 | omega)) rfl) rfl ?_
    refine s_nt (at_true rfl rfl (s_sr (s_as rfl (s_as rfl (s_nt (at_ret ?_))))))
    have hq := oinj hr
    clear hr
    subst hq
    have hq := oinj hk281
    clear hk281
    subst hq
    refine at_then_ret (at_in_ret (at_then_ret (at_in_ret (at_then_ret (at_then_ret (at_fnil (Ty.int .i64) none ?_))))))
    exact at_return (.tuple #[(.slice none 0 0), .bool false]) [0] hS Tryz.results125 (.cons (.tmp rfl) (.cons (.tmp rfl) .nil)) rfl rfl ⟨((.slice none 0 0)), rfl, rfl⟩
   replace hr := ineg h288 hr
   refine at_on rfl rfl (decide_eq_false (by first | exact h288 | omega)) ?_
   refine s_mv rfl ?_
   refine at_on rfl rfl (decide_eq_false (by first | exact h288 | omega)) ?_
   refine at_lt (lt_convint rfl (iso und21) und3 (by simp only [lo, hi]; omega)) rfl ?_
   replace hr := obind hr
   obtain ⟨x289, h290, hr⟩ := hr
   refine at_int .i64 x284.1 (by simp only [lo, hi]; omega) ?_
   refine at_on rfl rfl (decide_eq_false (by first | exact h288 | omega)) ?_
   refine at_hv rfl (hv_call0 [0] (f143_spec h290) rfl rfl rfl rfl ?_)
   rintro _ _ ⟨rfl, rfl⟩
   refine at_on rfl rfl (decide_eq_false (by first | exact h288 | omega)) ?_
   refine at_lt (lt_not rfl) rfl ?_
   refine at_lt (lt_pick false rfl (decide_eq_false (by first | exact h288 | omega)) rfl) rfl ?_
   refine s_nt ?_
   by_cases h291 : x289 = true
   ·replace hr := ipos h291 hr
    refine at_false rfl (nt h291) (at_skip (at_then ?_))
    replace hr := imust hr
    obtain ⟨h293, hr⟩ := hr
    replace hr := imust hr
    obtain ⟨h296, hr⟩ := hr
    refine aa_start 10 (by kernel_rfl) ?_
    refine aa_p 0 rfl (lt_move rfl) (aa_p 1 rfl (lt_move rfl) (aa_p 2 rfl (lt_convint rfl (iso und21) und3 (by simp only [lo, hi]; omega)) (aa_p 5 rfl (lt_move rfl) (aa_p 6 rfl (lt_move rfl) ?_))))
    refine aa_p 7 rfl (lt_scut_l x284.2.toNat rfl rfl (by omega) und9 (by omega)) ?_
    refine aa_one 3 (aa_op rfl rfl ?_)
    refine hv_bslice (cs := [.int .i64 x284.1]) rfl und140 ti3 rfl rfl rfl rfl rfl (fun s297 => ?_)
    refine aa_one 4 ?_
    refine at_rown 1 4 rfl rfl rfl (fun hn299 => ?_)
    refine aa_op rfl rfl ?_
    refine hv_append 1 0 rfl rfl rfl rfl und140 ti3 rfl rfl rfl (by omega) (by omega) rfl (fun s298 => ?_)
    refine at_rowsnoc 4 0 rfl rfl ?_
    refine aa_pure 8 rfl (by kernel_rfl) rfl rfl (lt_assign rfl) rfl (ts_in 0 1 rfl rfl) ?_
    refine aa_pure 9 rfl (by kernel_rfl) rfl rfl (lt_assign rfl) rfl (ts_in 0 1 rfl rfl) ?_
    refine aa_done (by kernel_rfl) (ts_in 0 1 rfl rfl) ?_
    refine at_in ?_
    refine at_str (x270.drop x284.2.toNat) (by simp only [List.length_take, List.length_drop]; omega) ?_
    refine at_mkpure (q := ((x271 ++ [x284.1]).length * (Ty.int .i64).bytes ≤ 140737488355328)) (by simp only [List.length_append, List.length_cons, List.length_nil, Ty.int_bytes, Ty.u8_bytes, Ty.str_bytes, Ty.slice_bytes, Ty.bool_bytes, nb] <;> omega) ?_
    exact at_again (σ := (Str × (List Int))) (V := Value × Nat × (List Value)) (lp := fun n s => m125_l1 n s.1 s.2) (S := fun s e => (⟨[(0, str s.1), (4, e.1)], [], [⟨e.1, 3, 1, e.2.1, e.2.2⟩], [(Ty.str.fact s.1 [str s.1]), ((Ty.int .i64).row s.2 e.2.2), (pureF (s.2.length * (Ty.int .i64).bytes ≤ 140737488355328)), (tabsF Tryz.prog 4 5)]⟩ : St)) (x270.drop x284.2.toNat, x271 ++ [x284.1]) (s298, n273 + 1, i274 ++ [.int .i64 x284.1]) hr ⟨⟨rfl, ⟨rfl, trivial⟩⟩, ⟨[], rfl⟩, ⟨[false, true], rfl⟩, ⟨[1, 2, 0, 9], rfl⟩⟩
   replace hr := ineg h291 hr
   refine at_true rfl (nf (bf h291)) (s_sr (s_as rfl (s_as rfl (s_nt (at_ret ?_)))))
   have hq := oinj hr
   clear hr
   subst hq
   have hq := oinj hk281
   clear hk281
   subst hq
   refine at_then_ret (at_in_ret (at_then_ret (at_in_ret (at_then_ret (at_then_ret (at_fnil (Ty.int .i64) none ?_))))))
   exact at_return (.tuple #[(.slice none 0 0), .bool false]) [0] hS Tryz.results125 (.cons (.tmp rfl) (.cons (.tmp rfl) .nil)) rfl rfl ⟨((.slice none 0 0)), rfl, rfl⟩
  replace hr := ineg h283 hr
  refine at_false rfl (decide_eq_false (by omega)) ?_
  refine at_exit (at_then_exit (at_then_exit (at_in_exit ?_)))
  have hq := oinj hr
  clear hr
  subst hq
  exact at_leafP (x271, (v272, n273, i274)) rfl ⟨⟨rfl, trivial⟩, ⟨[], rfl⟩, ⟨[true], rfl⟩, ⟨[1, 2, 3], rfl⟩⟩
 rintro ⟨x275, ⟨v276, n277, i278⟩⟩ hp
 replace hr := hk281
 subst hp
 clear hl280
 change At _ _ (⟨[(4, v276)], [], [⟨v276, 3, 1, n277, i278⟩], [((Ty.int .i64).row x275 i278), (pureF (x275.length * (Ty.int .i64).bytes ≤ 140737488355328)), (tabsF Tryz.prog 4 5)]⟩ : St) _
 refine s_tsr (s_mv rfl (s_as rfl (s_as rfl (s_nt (at_ret ?_)))))
 have hq := oinj hr
 clear hr
 subst hq
 refine at_pure 1 rfl (fun hb300 => ?_)
 refine at_release 0 0 rfl rfl rfl hb300 ?_
 exact at_return (.tuple #[v276, .bool true]) [0] hS Tryz.results125 (.cons (.tmp rfl) (.cons (.tmp rfl) .nil)) rfl rfl ⟨v276, rfl, rfl⟩
def m144_l1 (a1 : UInt8) : Nat → Str → Option Str
  | 0, _ => none
  | k + 1, x302 =>
    if 0 < x302.length then
     (x302[0]?).bind fun c308 =>
     if c308.toNat = a1.toNat then
      if 1 ≤ x302.length then
       m144_l1 a1 k (x302.drop 1)
      else none
     else
      some x302
    else
     some x302
def m144 (a0 : Str) (a1 : UInt8) : Option Str :=
  (m144_l1 a1 (a0.length + 1) a0).bind fun x303 =>
  some x303
def post144 (r : Str) (v : Value) (fs : List Fact) : Prop := v = str r ∧ fs = [(Ty.str.fact r [str r])]
theorem en144 : Enters Tryz.prog 144 := ⟨_, Tryz.func144, by kernel_rfl, rfl⟩
theorem f144_spec {a0 : Str} {a1 : UInt8} {r : Str} (hr : m144 a0 a1 = some r) : Spec Tryz.prog 144 [str a0, .int .u8 (a1.toNat : Int)] [(Ty.str.fact a0 [str a0])] (post144 r) := by
 refine spec_start (N := 17) Tryz.func144 (by kernel_rfl) rfl rfl rfl ?_
 intro g hS
 unfold m144 at hr
 refine s_sr (s_as rfl (s_nt (at_seq ?_)))
 replace hr := obind hr
 obtain ⟨x303, hl304, hr⟩ := hr
 refine at_cut (V := Unit) (fun e => (⟨[(0, str x303)], [], [], [(Ty.str.fact x303 [str x303])]⟩ : St)) ?_ ?_
 ·refine at_block ?_
  refine at_loopW (σ := Str) (V := Unit) (r := x303) (fun n s => m144_l1 a1 n s) (fun s e => (⟨[(0, str s), (1, .int .u8 (a1.toNat : Int))], [], [], [(Ty.str.fact s [str s])]⟩ : St)) (fun _ => rfl) _ a0 () hl304 ⟨⟨rfl, ⟨rfl, trivial⟩⟩, ⟨[], rfl⟩, ⟨[], rfl⟩, ⟨[0], rfl⟩⟩ ?_
  clear hr hl304
  intro n x302 hr e
  skip
  skip
  change m144_l1 a1 (n + 1) x302 = some x303 at hr
  change At _ _ (⟨[(0, str x302), (1, .int .u8 (a1.toNat : Int))], [], [], [(Ty.str.fact x302 [str x302])]⟩ : St) _
  rw [m144_l1] at hr
  refine at_seq (s_sr (s_mv rfl ?_))
  refine at_inv 0 rfl (fun l306 => ?_)
  replace l306 : x302.length ≤ 9223372036854775807 := l306
  refine at_lt (lt_slen rfl und9) rfl (at_lt (lt_gtr rfl rfl) rfl (s_mv rfl ?_))
  by_cases h307 : 0 < x302.length
  ·replace hr := ipos h307 hr
   refine at_on rfl rfl (decide_eq_true (by omega)) ?_
   refine s_mv rfl ?_
   replace hr := obind hr
   obtain ⟨c308, h309, hr⟩ := hr
   have := (List.getElem?_eq_some_iff.1 h309).1
   have := c308.toNat_lt
   refine at_on rfl rfl (decide_eq_true (by omega)) ?_
   refine at_lt (lt_sidx rfl rfl und9 (by omega) h309) rfl ?_
   refine at_on rfl rfl (decide_eq_true (by omega)) ?_
   refine s_mv rfl ?_
   refine at_on rfl rfl (decide_eq_true (by omega)) ?_
   refine at_lt (lt_eql rfl rfl) rfl ?_
   refine at_lt (lt_pick true rfl (decide_eq_true (by omega)) rfl) rfl ?_
   refine s_nt ?_
   by_cases h310 : c308.toNat = a1.toNat
   ·replace hr := ipos h310 hr
    refine at_true rfl (decide_eq_true (by omega)) ?_
    refine at_skip (at_then (at_block (at_region (s_mv rfl ?_))))
    replace hr := imust hr
    obtain ⟨h311, hr⟩ := hr
    refine at_lt (lt_scut_l 1 rfl rfl (by omega) und9 (by omega)) rfl ?_
    refine s_as rfl (at_nil (at_in ?_))
    refine at_str (x302.drop 1) (by simp only [List.length_take, List.length_drop]; omega) ?_
    exact at_again (σ := Str) (V := Unit) (lp := fun n s => m144_l1 a1 n s) (S := fun s e => (⟨[(0, str s), (1, .int .u8 (a1.toNat : Int))], [], [], [(Ty.str.fact s [str s])]⟩ : St)) (x302.drop 1) () hr ⟨⟨rfl, ⟨rfl, trivial⟩⟩, ⟨[], rfl⟩, ⟨[], rfl⟩, ⟨[0], rfl⟩⟩
   replace hr := ineg h310 hr
   refine at_false rfl (decide_eq_false (by omega)) ?_
   refine at_exit (at_then_exit (at_then_exit (at_in_exit ?_)))
   have hq := oinj hr
   clear hr
   subst hq
   exact at_leaf () ⟨⟨rfl, trivial⟩, ⟨[], rfl⟩, ⟨[], rfl⟩, ⟨[0], rfl⟩⟩
  replace hr := ineg h307 hr
  refine at_off rfl rfl (decide_eq_false (by omega)) rfl ?_
  refine at_off rfl rfl (decide_eq_false (by omega)) rfl ?_
  refine at_off rfl rfl (decide_eq_false (by omega)) rfl ?_
  refine at_off rfl rfl (decide_eq_false (by omega)) rfl ?_
  refine at_lt (lt_pick false rfl (decide_eq_false (by omega)) rfl) rfl ?_
  refine s_nt (at_false rfl rfl (at_exit (at_then_exit (at_then_exit (at_in_exit ?_)))))
  have hq := oinj hr
  clear hr
  subst hq
  exact at_leaf () ⟨⟨rfl, trivial⟩, ⟨[], rfl⟩, ⟨[], rfl⟩, ⟨[0], rfl⟩⟩
 clear hl304
 intro e
 change At _ _ (⟨[(0, str x303)], [], [], [(Ty.str.fact x303 [str x303])]⟩ : St) _
 refine s_tsr (s_mv rfl (s_as rfl (s_nt (at_ret ?_))))
 have hq := oinj hr
 clear hr
 subst hq
 exact at_return (str x303) [0] hS Tryz.results144 (.cons (.tmp rfl) .nil) rfl rfl ⟨rfl, rfl⟩
def m145_l1 (a1 : UInt8) : Nat → Str → Option Str
  | 0, _ => none
  | k + 1, x312 =>
    if 0 < x312.length then
     (at? x312 ((x312.length : Int) - 1)).bind fun c318 =>
     if c318.toNat = a1.toNat then
      if 0 ≤ (x312.length : Int) - 1 ∧ ((x312.length : Int) - 1).toNat ≤ x312.length then
       m145_l1 a1 k (x312.take (((x312.length : Int) - 1).toNat))
      else none
     else
      some x312
    else
     some x312
def m145 (a0 : Str) (a1 : UInt8) : Option Str :=
  (m145_l1 a1 (a0.length + 1) a0).bind fun x313 =>
  some x313
def post145 (r : Str) (v : Value) (fs : List Fact) : Prop := v = str r ∧ fs = [(Ty.str.fact r [str r])]
theorem en145 : Enters Tryz.prog 145 := ⟨_, Tryz.func145, by kernel_rfl, rfl⟩
theorem f145_spec {a0 : Str} {a1 : UInt8} {r : Str} (hr : m145 a0 a1 = some r) : Spec Tryz.prog 145 [str a0, .int .u8 (a1.toNat : Int)] [(Ty.str.fact a0 [str a0])] (post145 r) := by
 refine spec_start (N := 23) Tryz.func145 (by kernel_rfl) rfl rfl rfl ?_
 intro g hS
 unfold m145 at hr
 refine s_sr (s_as rfl (s_nt (at_seq ?_)))
 replace hr := obind hr
 obtain ⟨x313, hl314, hr⟩ := hr
 refine at_cut (V := Unit) (fun e => (⟨[(0, str x313)], [], [], [(Ty.str.fact x313 [str x313])]⟩ : St)) ?_ ?_
 ·refine at_block ?_
  refine at_loopW (σ := Str) (V := Unit) (r := x313) (fun n s => m145_l1 a1 n s) (fun s e => (⟨[(0, str s), (1, .int .u8 (a1.toNat : Int))], [], [], [(Ty.str.fact s [str s])]⟩ : St)) (fun _ => rfl) _ a0 () hl314 ⟨⟨rfl, ⟨rfl, trivial⟩⟩, ⟨[], rfl⟩, ⟨[], rfl⟩, ⟨[0], rfl⟩⟩ ?_
  clear hr hl314
  intro n x312 hr e
  skip
  skip
  change m145_l1 a1 (n + 1) x312 = some x313 at hr
  change At _ _ (⟨[(0, str x312), (1, .int .u8 (a1.toNat : Int))], [], [], [(Ty.str.fact x312 [str x312])]⟩ : St) _
  rw [m145_l1] at hr
  refine at_seq (s_sr (s_mv rfl ?_))
  refine at_inv 0 rfl (fun l316 => ?_)
  replace l316 : x312.length ≤ 9223372036854775807 := l316
  refine at_lt (lt_slen rfl und9) rfl (at_lt (lt_gtr rfl rfl) rfl (s_mv rfl ?_))
  by_cases h317 : 0 < x312.length
  ·replace hr := ipos h317 hr
   refine at_on rfl rfl (decide_eq_true (by omega)) ?_
   refine s_mv rfl ?_
   refine at_on rfl rfl (decide_eq_true (by omega)) ?_
   refine s_mv rfl ?_
   refine at_on rfl rfl (decide_eq_true (by omega)) ?_
   refine at_lt (lt_slen rfl und9) rfl ?_
   refine at_on rfl rfl (decide_eq_true (by omega)) ?_
   refine at_lt (lt_sub rfl rfl (by simp only [lo, hi]; omega)) rfl ?_
   replace hr := obind hr
   obtain ⟨c318, h319, hr⟩ := hr
   have := at?_lt h319
   have := c318.toNat_lt
   refine at_on rfl rfl (decide_eq_true (by omega)) ?_
   refine at_lt (lt_sidx rfl rfl und9 (at?_lt h319).1 (at?_get h319)) rfl ?_
   refine at_on rfl rfl (decide_eq_true (by omega)) ?_
   refine s_mv rfl ?_
   refine at_on rfl rfl (decide_eq_true (by omega)) ?_
   refine at_lt (lt_eql rfl rfl) rfl ?_
   refine at_lt (lt_pick true rfl (decide_eq_true (by omega)) rfl) rfl ?_
   refine s_nt ?_
   by_cases h320 : c318.toNat = a1.toNat
   ·replace hr := ipos h320 hr
    refine at_true rfl (decide_eq_true (by omega)) ?_
    refine at_skip (at_then (at_block (at_region (s_mv rfl (s_mv rfl (at_lt (lt_slen rfl und9) rfl (at_lt (lt_sub rfl rfl (by simp only [lo, hi]; omega)) rfl ?_)))))))
    replace hr := imust hr
    obtain ⟨h321, hr⟩ := hr
    refine at_lt (lt_scut_h (((x312.length : Int) - 1).toNat) rfl rfl (by omega) und9 (by omega)) rfl ?_
    refine s_as rfl (at_nil (at_in ?_))
    refine at_str (x312.take (((x312.length : Int) - 1).toNat)) (by simp only [List.length_take, List.length_drop]; omega) ?_
    exact at_again (σ := Str) (V := Unit) (lp := fun n s => m145_l1 a1 n s) (S := fun s e => (⟨[(0, str s), (1, .int .u8 (a1.toNat : Int))], [], [], [(Ty.str.fact s [str s])]⟩ : St)) (x312.take (((x312.length : Int) - 1).toNat)) () hr ⟨⟨rfl, ⟨rfl, trivial⟩⟩, ⟨[], rfl⟩, ⟨[], rfl⟩, ⟨[0], rfl⟩⟩
   replace hr := ineg h320 hr
   refine at_false rfl (decide_eq_false (by omega)) ?_
   refine at_exit (at_then_exit (at_then_exit (at_in_exit ?_)))
   have hq := oinj hr
   clear hr
   subst hq
   exact at_leaf () ⟨⟨rfl, trivial⟩, ⟨[], rfl⟩, ⟨[], rfl⟩, ⟨[0], rfl⟩⟩
  replace hr := ineg h317 hr
  refine at_off rfl rfl (decide_eq_false (by omega)) rfl ?_
  refine at_off rfl rfl (decide_eq_false (by omega)) rfl ?_
  refine at_off rfl rfl (decide_eq_false (by omega)) rfl ?_
  refine at_off rfl rfl (decide_eq_false (by omega)) rfl ?_
  refine at_off rfl rfl (decide_eq_false (by omega)) rfl ?_
  refine at_off rfl rfl (decide_eq_false (by omega)) rfl ?_
  refine at_off rfl rfl (decide_eq_false (by omega)) rfl ?_
  refine at_lt (lt_pick false rfl (decide_eq_false (by omega)) rfl) rfl ?_
  refine s_nt (at_false rfl rfl (at_exit (at_then_exit (at_then_exit (at_in_exit ?_)))))
  have hq := oinj hr
  clear hr
  subst hq
  exact at_leaf () ⟨⟨rfl, trivial⟩, ⟨[], rfl⟩, ⟨[], rfl⟩, ⟨[0], rfl⟩⟩
 clear hl314
 intro e
 change At _ _ (⟨[(0, str x313)], [], [], [(Ty.str.fact x313 [str x313])]⟩ : St) _
 refine s_tsr (s_mv rfl (s_as rfl (s_nt (at_ret ?_))))
 have hq := oinj hr
 clear hr
 subst hq
 exact at_return (str x313) [0] hS Tryz.results145 (.cons (.tmp rfl) .nil) rfl rfl ⟨rfl, rfl⟩
def m149_l1 (a1 : Str) : Nat → Str → Option Str
  | 0, _ => none
  | k + 1, x322 =>
    if 0 < x322.length then
     (m142 x322).bind fun x328 =>
     (m175 a1 x328.1).bind fun x332 =>
     if x332 = true then
      if 0 ≤ x328.2 ∧ x328.2.toNat ≤ x322.length then
       m149_l1 a1 k (x322.drop x328.2.toNat)
      else none
     else
      some x322
    else
     some x322
def m149 (a0 : Str) (a1 : Str) : Option Str :=
  (m149_l1 a1 (a0.length + 1) a0).bind fun x323 =>
  some x323
def post149 (r : Str) (v : Value) (fs : List Fact) : Prop := v = str r ∧ fs = [(Ty.str.fact r [str r])]
theorem en149 : Enters Tryz.prog 149 := ⟨_, Tryz.func149, by kernel_rfl, rfl⟩
theorem f149_spec {a0 : Str} {a1 : Str} {r : Str} (hr : m149 a0 a1 = some r) : Spec Tryz.prog 149 [str a0, str a1] [(Ty.str.fact a0 [str a0]), (Ty.str.fact a1 [str a1]), (tabsF Tryz.prog 4 5)] (post149 r) := by
 refine spec_start (N := 23) Tryz.func149 (by kernel_rfl) rfl rfl rfl ?_
 intro g hS
 unfold m149 at hr
 refine s_sr (s_as rfl (s_nt (at_seq ?_)))
 replace hr := obind hr
 obtain ⟨x323, hl324, hr⟩ := hr
 refine at_cut (V := Unit) (fun e => (⟨[(0, str x323)], [], [], [(Ty.str.fact x323 [str x323]), (tabsF Tryz.prog 4 5)]⟩ : St)) ?_ ?_
 ·refine at_block ?_
  refine at_loopW (σ := Str) (V := Unit) (r := x323) (fun n s => m149_l1 a1 n s) (fun s e => (⟨[(0, str s), (1, str a1)], [], [], [(Ty.str.fact s [str s]), (Ty.str.fact a1 [str a1]), (tabsF Tryz.prog 4 5)]⟩ : St)) (fun _ => rfl) _ a0 () hl324 ⟨⟨rfl, ⟨rfl, trivial⟩⟩, ⟨[], rfl⟩, ⟨[], rfl⟩, ⟨[0, 1, 2], rfl⟩⟩ ?_
  clear hr hl324
  intro n x322 hr e
  skip
  skip
  change m149_l1 a1 (n + 1) x322 = some x323 at hr
  change At _ _ (⟨[(0, str x322), (1, str a1)], [], [], [(Ty.str.fact x322 [str x322]), (Ty.str.fact a1 [str a1]), (tabsF Tryz.prog 4 5)]⟩ : St) _
  rw [m149_l1] at hr
  refine at_seq (s_sr (s_mv rfl ?_))
  refine at_inv 0 rfl (fun l326 => ?_)
  replace l326 : x322.length ≤ 9223372036854775807 := l326
  refine at_lt (lt_slen rfl und9) rfl (at_lt (lt_gtr rfl rfl) rfl (s_nt ?_))
  by_cases h327 : 0 < x322.length
  ·replace hr := ipos h327 hr
   refine at_true rfl (decide_eq_true (by omega)) ?_
   refine at_skip (at_then (at_block (s_sr (s_mv rfl ?_))))
   replace hr := obind hr
   obtain ⟨x328, h329, hr⟩ := hr
   refine at_hv rfl (hv_call0 [0, 2] (f142_spec h329) rfl rfl rfl rfl ?_)
   rintro _ _ ⟨rfl, rfl⟩
   refine at_inv 0 rfl (fun l330 => ?_)
   replace l330 : (-2147483648) ≤ x328.1 ∧ x328.1 ≤ 2147483647 := l330
   refine at_inv 1 rfl (fun l331 => ?_)
   replace l331 : (-9223372036854775808) ≤ x328.2 ∧ x328.2 ≤ 9223372036854775807 := l331
   refine s_mv rfl (at_lt (lt_extract rfl rfl) rfl (at_lt (lt_extract rfl rfl) rfl (s_as rfl (s_as rfl (s_nt (at_seq (s_sr (s_mv rfl (s_mv rfl ?_)))))))))
   replace hr := obind hr
   obtain ⟨x332, h333, hr⟩ := hr
   refine at_hv rfl (hv_call0 [3, 0] (f175_spec h333) rfl rfl rfl rfl ?_)
   rintro _ _ ⟨rfl, rfl⟩
   refine at_lt (lt_not rfl) rfl (s_nt ?_)
   by_cases h334 : x332 = true
   ·replace hr := ipos h334 hr
    refine at_false rfl (nt h334) (at_skip (s_tr (s_mv rfl (s_mv rfl ?_))))
    replace hr := imust hr
    obtain ⟨h335, hr⟩ := hr
    refine at_lt (lt_scut_l x328.2.toNat rfl rfl (by omega) und9 (by omega)) rfl ?_
    refine s_as rfl (at_nil (at_in ?_))
    refine at_str (x322.drop x328.2.toNat) (by simp only [List.length_take, List.length_drop]; omega) ?_
    exact at_again (σ := Str) (V := Unit) (lp := fun n s => m149_l1 a1 n s) (S := fun s e => (⟨[(0, str s), (1, str a1)], [], [], [(Ty.str.fact s [str s]), (Ty.str.fact a1 [str a1]), (tabsF Tryz.prog 4 5)]⟩ : St)) (x322.drop x328.2.toNat) () hr ⟨⟨rfl, ⟨rfl, trivial⟩⟩, ⟨[], rfl⟩, ⟨[], rfl⟩, ⟨[0, 4, 5], rfl⟩⟩
   replace hr := ineg h334 hr
   refine at_true rfl (nf (bf h334)) (at_exit (at_then_exit (at_in_other rfl (at_then_exit (at_in_exit ?_)))))
   have hq := oinj hr
   clear hr
   subst hq
   exact at_leaf () ⟨⟨rfl, trivial⟩, ⟨[], rfl⟩, ⟨[], rfl⟩, ⟨[2, 4], rfl⟩⟩
  replace hr := ineg h327 hr
  refine at_false rfl (decide_eq_false (by omega)) ?_
  refine at_exit (at_then_exit (at_then_exit (at_in_exit ?_)))
  have hq := oinj hr
  clear hr
  subst hq
  exact at_leaf () ⟨⟨rfl, trivial⟩, ⟨[], rfl⟩, ⟨[], rfl⟩, ⟨[0, 2], rfl⟩⟩
 clear hl324
 intro e
 change At _ _ (⟨[(0, str x323)], [], [], [(Ty.str.fact x323 [str x323]), (tabsF Tryz.prog 4 5)]⟩ : St) _
 refine s_tsr (s_mv rfl (s_as rfl (s_nt (at_ret ?_))))
 have hq := oinj hr
 clear hr
 subst hq
 exact at_return (str x323) [0] hS Tryz.results149 (.cons (.tmp rfl) .nil) rfl rfl ⟨rfl, rfl⟩
def m195 (a0 : UInt8) : Option Bool :=
  some (!decide (bits .and .u8 (a0.toNat : Int) 192 = 128))
def post195 (r : Bool) (v : Value) (fs : List Fact) : Prop := v = .bool r ∧ fs = []
theorem en195 : Enters Tryz.prog 195 := ⟨_, Tryz.func195, by kernel_rfl, rfl⟩
theorem f195_spec {a0 : UInt8} {r : Bool} (hr : m195 a0 = some r) : Spec Tryz.prog 195 [.int .u8 (a0.toNat : Int)] [] (post195 r) := by
 refine spec_start (N := 6) Tryz.func195 (by kernel_rfl) rfl rfl rfl ?_
 intro g hS
 unfold m195 at hr
 refine s_sr (s_as rfl (s_ntsr (s_mv rfl (at_lt (lt_and rfl rfl) rfl (at_lt (lt_neq rfl rfl) rfl (s_as rfl (s_nt (at_ret ?_))))))))
 have hq := oinj hr
 clear hr
 subst hq
 exact at_return (.bool (!decide (bits .and .u8 (a0.toNat : Int) 192 = 128))) [] hS Tryz.results195 (.cons (.tmp rfl) .nil) rfl rfl ⟨rfl, rfl⟩
def m176_l1 (a0 : Str) : Nat → Int → Option Int
  | 0, _ => none
  | k + 1, x341 =>
    if max ((a0.length : Int) - 4) (0 : Int) ≤ x341 then
     (at? a0 x341).bind fun c347 =>
     (m195 c347).bind fun x349 =>
     if x349 = true then
      some x341
     else
      m176_l1 a0 k (IntKind.i64.wrap (x341 - 1))
    else
     some x341
def m176 (a0 : Str) : Option (Int × Int) :=
  if a0.length = 0 then
   some (65533, 0)
  else
   (at? a0 ((a0.length : Int) - 1)).bind fun c338 =>
   if (c338.toNat : Int) < 128 then
    some ((c338.toNat : Int), 1)
   else
    (m176_l1 a0 9223372036854775808 (IntKind.i64.wrap ((a0.length : Int) - 1 - 1))).bind fun x342 =>
    Option.bind (α := Int) (
     if x342 < 0 then
      some 0
     else
      some x342
    ) fun x353 =>
    if 0 ≤ x353 ∧ x353.toNat ≤ a0.length ∧ a0.length ≤ a0.length then
     (m142 ((a0.take a0.length).drop x353.toNat)).bind fun x358 =>
     if IntKind.i64.wrap (x353 + x358.2) = (a0.length : Int) then
      some (x358.1, x358.2)
     else
      some (65533, 1)
    else none
def post176 (r : (Int × Int)) (v : Value) (fs : List Fact) : Prop := v = .tuple #[.int .i32 r.1, .int .i64 r.2] ∧ fs = [((Ty.int .i32).fact r.1 [.int .i32 r.1]), ((Ty.int .i64).fact r.2 [.int .i64 r.2])]
theorem en176 : Enters Tryz.prog 176 := ⟨_, Tryz.func176, by kernel_rfl, rfl⟩
theorem f176_spec {a0 : Str} {r : (Int × Int)} (hr : m176 a0 = some r) : Spec Tryz.prog 176 [str a0] [(Ty.str.fact a0 [str a0]), (tabsF Tryz.prog 4 5)] (post176 r) := by
 refine spec_start (N := 51) Tryz.func176 (by kernel_rfl) rfl rfl rfl ?_
 intro g hS
 unfold m176 at hr
 refine s_sr (s_as rfl (s_as rfl (s_ntsr (s_mv rfl ?_))))
 refine at_inv 0 rfl (fun l336 => ?_)
 replace l336 : a0.length ≤ 9223372036854775807 := l336
 refine at_lt (lt_slen rfl und9) rfl (s_as rfl (s_nt (at_seq (s_sr (s_mv rfl (at_lt (lt_eql rfl rfl) rfl (s_nt ?_)))))))
 by_cases h337 : a0.length = 0
 ·replace hr := ipos h337 hr
  refine at_true rfl (decide_eq_true (by omega)) ?_
  refine s_sr (s_as rfl (s_as rfl (s_nt (at_ret ?_))))
  have hq := oinj hr
  clear hr
  subst hq
  refine at_then_ret (at_int .i32 65533 (by simp only [lo, hi]; omega) (at_int .i64 0 (by simp only [lo, hi]; omega) ?_))
  exact at_return (.tuple #[.int .i32 65533, .int .i64 0]) [1, 0] hS Tryz.results176 (.cons (.tmp rfl) (.cons (.tmp rfl) .nil)) rfl rfl ⟨rfl, rfl⟩
 replace hr := ineg h337 hr
 refine at_false rfl (decide_eq_false (by omega)) ?_
 refine at_skip (s_tsr (s_mv rfl (at_lt (lt_sub rfl rfl (by simp only [lo, hi]; omega)) rfl (s_as rfl (s_ntsr (s_mv rfl (s_mv rfl ?_)))))))
 replace hr := obind hr
 obtain ⟨c338, h339, hr⟩ := hr
 have := at?_lt h339
 have := c338.toNat_lt
 refine at_lt (lt_sidx rfl rfl und9 (at?_lt h339).1 (at?_get h339)) rfl ?_
 refine at_lt (lt_convint rfl (iso und5) und21 (u8_in_i32 c338)) rfl (s_as rfl (s_nt (at_seq (s_sr (s_mv rfl (at_lt (lt_lss rfl rfl) rfl (s_nt ?_)))))))
 by_cases h340 : (c338.toNat : Int) < 128
 ·replace hr := ipos h340 hr
  refine at_true rfl (decide_eq_true (by first | exact h340 | omega)) ?_
  refine s_sr (s_mv rfl (s_as rfl (s_as rfl (s_nt (at_ret ?_)))))
  have hq := oinj hr
  clear hr
  subst hq
  refine at_then_ret (at_int .i32 (c338.toNat : Int) (u8_in_i32 c338) (at_int .i64 1 (by simp only [lo, hi]; omega) ?_))
  exact at_return (.tuple #[.int .i32 (c338.toNat : Int), .int .i64 1]) [1, 0] hS Tryz.results176 (.cons (.tmp rfl) (.cons (.tmp rfl) .nil)) rfl rfl ⟨rfl, rfl⟩
 replace hr := ineg h340 hr
 refine at_false rfl (decide_eq_false (by first | exact h340 | omega)) ?_
 refine at_skip (s_tsr (s_mv rfl (at_lt (lt_sub rfl rfl (by simp only [lo, hi]; omega)) rfl (at_lt (lt_max rfl rfl) rfl (s_as rfl (s_nt (at_seq (s_sr (s_mv rfl ?_)))))))))
 refine at_lt (lt_subw rfl rfl) rfl (s_as rfl (s_nt (at_int .i64 (IntKind.i64.wrap ((a0.length : Int) - 1 - 1)) (wrap_bd .i64 _) ?_)))
 replace hr := obind hr
 obtain ⟨x342, hl343, hr⟩ := hr
 refine at_cut (V := Unit) (fun e => (⟨[(0, str a0), (4, .int .i64 (a0.length : Int)), (5, .int .i64 x342)], [], [], [((Ty.int .i64).fact x342 [.int .i64 x342]), (Ty.str.fact a0 [str a0]), (tabsF Tryz.prog 4 5)]⟩ : St)) ?_ ?_
 ·refine at_block ?_
  refine at_loopW (σ := Int) (V := Unit) (r := x342) (fun n s => m176_l1 a0 n s) (fun s e => (⟨[(0, str a0), (4, .int .i64 (a0.length : Int)), (5, .int .i64 s), (6, .int .i64 (max ((a0.length : Int) - 4) (0 : Int)))], [], [], [((Ty.int .i64).fact s [.int .i64 s]), (Ty.str.fact a0 [str a0]), (tabsF Tryz.prog 4 5)]⟩ : St)) (fun _ => rfl) _ (IntKind.i64.wrap ((a0.length : Int) - 1 - 1)) () hl343 ⟨⟨rfl, ⟨rfl, ⟨rfl, ⟨rfl, trivial⟩⟩⟩⟩, ⟨[], rfl⟩, ⟨[], rfl⟩, ⟨[0, 1, 2], rfl⟩⟩ ?_
  clear hr hl343
  intro n x341 hr e
  skip
  skip
  change m176_l1 a0 (n + 1) x341 = some x342 at hr
  change At _ _ (⟨[(0, str a0), (4, .int .i64 (a0.length : Int)), (5, .int .i64 x341), (6, .int .i64 (max ((a0.length : Int) - 4) (0 : Int)))], [], [], [((Ty.int .i64).fact x341 [.int .i64 x341]), (Ty.str.fact a0 [str a0]), (tabsF Tryz.prog 4 5)]⟩ : St) _
  rw [m176_l1] at hr
  refine at_inv 0 rfl (fun l345 => ?_)
  replace l345 : (-9223372036854775808) ≤ x341 ∧ x341 ≤ 9223372036854775807 := l345
  refine at_seq (s_sr (s_mv rfl (s_mv rfl (at_lt (lt_geq rfl rfl) rfl (s_nt ?_)))))
  by_cases h346 : max ((a0.length : Int) - 4) (0 : Int) ≤ x341
  ·replace hr := ipos h346 hr
   refine at_true rfl (decide_eq_true (by first | exact h346 | omega)) ?_
   refine at_skip (at_then (at_seq (at_block (s_sr (s_mv rfl (s_mv rfl ?_))))))
   replace hr := obind hr
   obtain ⟨c347, h348, hr⟩ := hr
   have := at?_lt h348
   have := c347.toNat_lt
   refine at_lt (lt_sidx rfl rfl und9 (at?_lt h348).1 (at?_get h348)) rfl ?_
   replace hr := obind hr
   obtain ⟨x349, h350, hr⟩ := hr
   refine at_hv rfl (hv_call0 [] (f195_spec h350) rfl rfl rfl rfl ?_)
   rintro _ _ ⟨rfl, rfl⟩
   refine s_nt ?_
   by_cases h351 : x349 = true
   ·replace hr := ipos h351 hr
    refine at_true rfl h351 (at_exit (at_in_other rfl (at_then_exit (at_then_exit (at_in_exit ?_)))))
    have hq := oinj hr
    clear hr
    subst hq
    exact at_leaf () ⟨⟨rfl, ⟨rfl, ⟨rfl, trivial⟩⟩⟩, ⟨[], rfl⟩, ⟨[], rfl⟩, ⟨[0, 1, 2], rfl⟩⟩
   replace hr := ineg h351 hr
   refine at_false rfl (bf h351) (at_skip (at_in (s_tr (s_mv rfl (at_lt (lt_subw rfl rfl) rfl (s_as rfl (at_nil (at_int .i64 (IntKind.i64.wrap (x341 - 1)) (wrap_bd .i64 _) ?_))))))))
   exact at_again (σ := Int) (V := Unit) (lp := fun n s => m176_l1 a0 n s) (S := fun s e => (⟨[(0, str a0), (4, .int .i64 (a0.length : Int)), (5, .int .i64 s), (6, .int .i64 (max ((a0.length : Int) - 4) (0 : Int)))], [], [], [((Ty.int .i64).fact s [.int .i64 s]), (Ty.str.fact a0 [str a0]), (tabsF Tryz.prog 4 5)]⟩ : St)) (IntKind.i64.wrap (x341 - 1)) () hr ⟨⟨rfl, ⟨rfl, ⟨rfl, ⟨rfl, trivial⟩⟩⟩⟩, ⟨[], rfl⟩, ⟨[], rfl⟩, ⟨[0, 2, 3], rfl⟩⟩
  replace hr := ineg h346 hr
  refine at_false rfl (decide_eq_false (by first | exact h346 | omega)) ?_
  refine at_exit (at_then_exit (at_then_exit (at_in_exit ?_)))
  have hq := oinj hr
  clear hr
  subst hq
  exact at_leaf () ⟨⟨rfl, ⟨rfl, ⟨rfl, trivial⟩⟩⟩, ⟨[], rfl⟩, ⟨[], rfl⟩, ⟨[0, 1, 2], rfl⟩⟩
 clear hl343
 intro e
 change At _ _ (⟨[(0, str a0), (4, .int .i64 (a0.length : Int)), (5, .int .i64 x342)], [], [], [((Ty.int .i64).fact x342 [.int .i64 x342]), (Ty.str.fact a0 [str a0]), (tabsF Tryz.prog 4 5)]⟩ : St) _
 refine at_inv 0 rfl (fun l352 => ?_)
 replace l352 : (-9223372036854775808) ≤ x342 ∧ x342 ≤ 9223372036854775807 := l352
 refine at_then (at_seq (s_sr (s_mv rfl (at_lt (lt_lss rfl rfl) rfl (s_nt ?_)))))
 replace hr := obind hr
 obtain ⟨x353, hc354, hr⟩ := hr
 refine at_cut (V := Unit) (fun e => (⟨[(0, str a0), (4, .int .i64 (a0.length : Int)), (5, .int .i64 x353)], [], [], [((Ty.int .i64).fact x353 [.int .i64 x353]), (Ty.str.fact a0 [str a0]), (tabsF Tryz.prog 4 5)]⟩ : St)) ?_ ?_
 ·clear hr
  have hr := hc354
  clear hc354
  by_cases h355 : x342 < 0
  ·replace hr := ipos h355 hr
   refine at_true rfl (decide_eq_true (by first | exact h355 | omega)) ?_
   refine at_region (s_as rfl (at_nil ?_))
   have hq := oinj hr
   clear hr
   subst hq
   refine at_int .i64 0 (by simp only [lo, hi]; omega) ?_
   exact at_leaf () ⟨⟨rfl, ⟨rfl, ⟨rfl, trivial⟩⟩⟩, ⟨[], rfl⟩, ⟨[], rfl⟩, ⟨[0, 2, 3], rfl⟩⟩
  replace hr := ineg h355 hr
  refine at_false rfl (decide_eq_false (by first | exact h355 | omega)) ?_
  refine at_skip ?_
  have hq := oinj hr
  clear hr
  subst hq
  exact at_leaf () ⟨⟨rfl, ⟨rfl, ⟨rfl, trivial⟩⟩⟩, ⟨[], rfl⟩, ⟨[], rfl⟩, ⟨[0, 1, 2], rfl⟩⟩
 clear hc354
 intro _
 change At _ _ (⟨[(0, str a0), (4, .int .i64 (a0.length : Int)), (5, .int .i64 x353)], [], [], [((Ty.int .i64).fact x353 [.int .i64 x353]), (Ty.str.fact a0 [str a0]), (tabsF Tryz.prog 4 5)]⟩ : St) _
 refine at_inv 0 rfl (fun l356 => ?_)
 replace l356 : (-9223372036854775808) ≤ x353 ∧ x353 ≤ 9223372036854775807 := l356
 refine s_tsr (s_mv rfl (s_mv rfl (s_mv rfl ?_)))
 replace hr := imust hr
 obtain ⟨h357, hr⟩ := hr
 refine at_lt (lt_scut_lh x353.toNat a0.length rfl rfl rfl (by omega) (by omega) und9 (by omega) (by omega)) rfl ?_
 replace hr := obind hr
 obtain ⟨x358, h359, hr⟩ := hr
 refine at_str ((a0.take a0.length).drop x353.toNat) (by simp only [List.length_take, List.length_drop]; omega) ?_
 refine at_hv rfl (hv_call0 [0, 3] (f142_spec h359) rfl rfl rfl rfl ?_)
 rintro _ _ ⟨rfl, rfl⟩
 refine at_inv 0 rfl (fun l360 => ?_)
 replace l360 : (-2147483648) ≤ x358.1 ∧ x358.1 ≤ 2147483647 := l360
 refine at_inv 1 rfl (fun l361 => ?_)
 replace l361 : (-9223372036854775808) ≤ x358.2 ∧ x358.2 ≤ 9223372036854775807 := l361
 refine s_mv rfl (at_lt (lt_extract rfl rfl) rfl (at_lt (lt_extract rfl rfl) rfl (s_as rfl (s_as rfl (s_nt (at_seq (s_sr (s_mv rfl (s_mv rfl ?_)))))))))
 refine at_lt (lt_addw rfl rfl) rfl (s_mv rfl (at_lt (lt_neq rfl rfl) rfl (s_nt ?_)))
 by_cases h362 : IntKind.i64.wrap (x353 + x358.2) = (a0.length : Int)
 ·replace hr := ipos h362 hr
  refine at_false rfl (nt (decide_eq_true (by first | exact h362 | omega))) ?_
  refine at_skip (s_tsr (s_mv rfl (s_mv rfl (s_as rfl (s_as rfl (s_nt (at_ret ?_)))))))
  have hq := oinj hr
  clear hr
  subst hq
  exact at_return (.tuple #[.int .i32 x358.1, .int .i64 x358.2]) [0, 1] hS Tryz.results176 (.cons (.tmp rfl) (.cons (.tmp rfl) .nil)) rfl rfl ⟨rfl, rfl⟩
 replace hr := ineg h362 hr
 refine at_true rfl (nf (decide_eq_false (by first | exact h362 | omega))) ?_
 refine s_sr (s_as rfl (s_as rfl (s_nt (at_ret ?_))))
 have hq := oinj hr
 clear hr
 subst hq
 refine at_then_ret (at_int .i32 65533 (by simp only [lo, hi]; omega) (at_int .i64 1 (by simp only [lo, hi]; omega) ?_))
 exact at_return (.tuple #[.int .i32 65533, .int .i64 1]) [1, 0] hS Tryz.results176 (.cons (.tmp rfl) (.cons (.tmp rfl) .nil)) rfl rfl ⟨rfl, rfl⟩
def m150_l1 (a1 : Str) : Nat → Str → Option Str
  | 0, _ => none
  | k + 1, x363 =>
    if 0 < x363.length then
     (at? x363 ((x363.length : Int) - 1)).bind fun c369 =>
     Option.bind (α := (Int × Int)) (
      if (128 : Int) ≤ (c369.toNat : Int) then
       (m176 x363).bind fun x376 =>
       some (x376.1, x376.2)
      else
       some ((c369.toNat : Int), 1)
     ) fun (x371, x372) =>
     (m175 a1 x371).bind fun x382 =>
     if x382 = true then
      if 0 ≤ IntKind.i64.wrap ((x363.length : Int) - x372) ∧ (IntKind.i64.wrap ((x363.length : Int) - x372)).toNat ≤ x363.length then
       m150_l1 a1 k (x363.take ((IntKind.i64.wrap ((x363.length : Int) - x372)).toNat))
      else none
     else
      some x363
    else
     some x363
def m150 (a0 : Str) (a1 : Str) : Option Str :=
  (m150_l1 a1 (a0.length + 1) a0).bind fun x364 =>
  some x364
def post150 (r : Str) (v : Value) (fs : List Fact) : Prop := v = str r ∧ fs = [(Ty.str.fact r [str r])]
theorem en150 : Enters Tryz.prog 150 := ⟨_, Tryz.func150, by kernel_rfl, rfl⟩
theorem f150_spec {a0 : Str} {a1 : Str} {r : Str} (hr : m150 a0 a1 = some r) : Spec Tryz.prog 150 [str a0, str a1] [(Ty.str.fact a0 [str a0]), (Ty.str.fact a1 [str a1]), (tabsF Tryz.prog 4 5)] (post150 r) := by
 refine spec_start (N := 34) Tryz.func150 (by kernel_rfl) rfl rfl rfl ?_
 intro g hS
 unfold m150 at hr
 refine s_sr (s_as rfl (s_nt (at_seq ?_)))
 replace hr := obind hr
 obtain ⟨x364, hl365, hr⟩ := hr
 refine at_cut (V := Unit) (fun e => (⟨[(0, str x364)], [], [], [(Ty.str.fact x364 [str x364]), (tabsF Tryz.prog 4 5)]⟩ : St)) ?_ ?_
 ·refine at_block ?_
  refine at_loopW (σ := Str) (V := Unit) (r := x364) (fun n s => m150_l1 a1 n s) (fun s e => (⟨[(0, str s), (1, str a1)], [], [], [(Ty.str.fact s [str s]), (Ty.str.fact a1 [str a1]), (tabsF Tryz.prog 4 5)]⟩ : St)) (fun _ => rfl) _ a0 () hl365 ⟨⟨rfl, ⟨rfl, trivial⟩⟩, ⟨[], rfl⟩, ⟨[], rfl⟩, ⟨[0, 1, 2], rfl⟩⟩ ?_
  clear hr hl365
  intro n x363 hr e
  skip
  skip
  change m150_l1 a1 (n + 1) x363 = some x364 at hr
  change At _ _ (⟨[(0, str x363), (1, str a1)], [], [], [(Ty.str.fact x363 [str x363]), (Ty.str.fact a1 [str a1]), (tabsF Tryz.prog 4 5)]⟩ : St) _
  rw [m150_l1] at hr
  refine at_seq (s_sr (s_mv rfl ?_))
  refine at_inv 0 rfl (fun l367 => ?_)
  replace l367 : x363.length ≤ 9223372036854775807 := l367
  refine at_lt (lt_slen rfl und9) rfl (at_lt (lt_gtr rfl rfl) rfl (s_nt ?_))
  by_cases h368 : 0 < x363.length
  ·replace hr := ipos h368 hr
   refine at_true rfl (decide_eq_true (by omega)) ?_
   refine at_skip (at_then (at_block (s_sr (s_mv rfl (s_mv rfl (at_lt (lt_slen rfl und9) rfl (at_lt (lt_sub rfl rfl (by simp only [lo, hi]; omega)) rfl ?_)))))))
   replace hr := obind hr
   obtain ⟨c369, h370, hr⟩ := hr
   have := at?_lt h370
   have := c369.toNat_lt
   refine at_lt (lt_sidx rfl rfl und9 (at?_lt h370).1 (at?_get h370)) rfl ?_
   refine at_lt (lt_convint rfl (iso und5) und21 (u8_in_i32 c369)) rfl (s_as rfl (s_as rfl (s_nt (at_seq (s_sr (s_mv rfl (at_lt (lt_geq rfl rfl) rfl (s_nt ?_))))))))
   replace hr := obind hr
   obtain ⟨r373, hc374, hr⟩ := hr
   refine at_cut (V := Unit) (fun e => (⟨[(0, str x363), (1, str a1), (5, .int .i32 r373.1), (6, .int .i64 r373.2)], [], [], [((Ty.int .i32).fact r373.1 [.int .i32 r373.1]), ((Ty.int .i64).fact r373.2 [.int .i64 r373.2]), (Ty.str.fact x363 [str x363]), (Ty.str.fact a1 [str a1]), (tabsF Tryz.prog 4 5)]⟩ : St)) ?_ ?_
   ·clear hr
    have hr := hc374
    clear hc374
    by_cases h375 : (128 : Int) ≤ (c369.toNat : Int)
    ·replace hr := ipos h375 hr
     refine at_true rfl (decide_eq_true (by first | exact h375 | omega)) ?_
     refine at_region (s_mv rfl ?_)
     replace hr := obind hr
     obtain ⟨x376, h377, hr⟩ := hr
     refine at_hv rfl (hv_call0 [0, 2] (f176_spec h377) rfl rfl rfl rfl ?_)
     rintro _ _ ⟨rfl, rfl⟩
     refine at_inv 0 rfl (fun l378 => ?_)
     replace l378 : (-2147483648) ≤ x376.1 ∧ x376.1 ≤ 2147483647 := l378
     refine at_inv 1 rfl (fun l379 => ?_)
     replace l379 : (-9223372036854775808) ≤ x376.2 ∧ x376.2 ≤ 9223372036854775807 := l379
     refine s_mv rfl (at_lt (lt_extract rfl rfl) rfl (at_lt (lt_extract rfl rfl) rfl (s_as rfl (s_as rfl (at_nil ?_)))))
     have hq := oinj hr
     clear hr
     subst hq
     exact at_leaf () ⟨⟨rfl, ⟨rfl, ⟨rfl, ⟨rfl, trivial⟩⟩⟩⟩, ⟨[], rfl⟩, ⟨[], rfl⟩, ⟨[0, 1, 2, 3, 4], rfl⟩⟩
    replace hr := ineg h375 hr
    refine at_false rfl (decide_eq_false (by first | exact h375 | omega)) ?_
    refine at_skip ?_
    have hq := oinj hr
    clear hr
    subst hq
    refine at_int .i32 (c369.toNat : Int) (u8_in_i32 c369) (at_int .i64 1 (by simp only [lo, hi]; omega) ?_)
    exact at_leaf () ⟨⟨rfl, ⟨rfl, ⟨rfl, ⟨rfl, trivial⟩⟩⟩⟩, ⟨[], rfl⟩, ⟨[], rfl⟩, ⟨[1, 0, 2, 3, 4], rfl⟩⟩
   clear hc374
   obtain ⟨x371, x372⟩ := r373
   intro _
   change At _ _ (⟨[(0, str x363), (1, str a1), (5, .int .i32 x371), (6, .int .i64 x372)], [], [], [((Ty.int .i32).fact x371 [.int .i32 x371]), ((Ty.int .i64).fact x372 [.int .i64 x372]), (Ty.str.fact x363 [str x363]), (Ty.str.fact a1 [str a1]), (tabsF Tryz.prog 4 5)]⟩ : St) _
   refine at_inv 0 rfl (fun l380 => ?_)
   replace l380 : (-2147483648) ≤ x371 ∧ x371 ≤ 2147483647 := l380
   refine at_inv 1 rfl (fun l381 => ?_)
   replace l381 : (-9223372036854775808) ≤ x372 ∧ x372 ≤ 9223372036854775807 := l381
   refine at_then (at_seq (s_sr (s_mv rfl (s_mv rfl ?_))))
   replace hr := obind hr
   obtain ⟨x382, h383, hr⟩ := hr
   refine at_hv rfl (hv_call0 [3, 0] (f175_spec h383) rfl rfl rfl rfl ?_)
   rintro _ _ ⟨rfl, rfl⟩
   refine at_lt (lt_not rfl) rfl (s_nt ?_)
   by_cases h384 : x382 = true
   ·replace hr := ipos h384 hr
    refine at_false rfl (nt h384) (at_skip (s_tr (s_mv rfl (s_mv rfl (at_lt (lt_slen rfl und9) rfl (s_mv rfl (at_lt (lt_subw rfl rfl) rfl ?_)))))))
    replace hr := imust hr
    obtain ⟨h385, hr⟩ := hr
    refine at_lt (lt_scut_h ((IntKind.i64.wrap ((x363.length : Int) - x372)).toNat) rfl rfl (by omega) und9 (by omega)) rfl ?_
    refine s_as rfl (at_nil (at_in ?_))
    refine at_str (x363.take ((IntKind.i64.wrap ((x363.length : Int) - x372)).toNat)) (by simp only [List.length_take, List.length_drop]; omega) ?_
    exact at_again (σ := Str) (V := Unit) (lp := fun n s => m150_l1 a1 n s) (S := fun s e => (⟨[(0, str s), (1, str a1)], [], [], [(Ty.str.fact s [str s]), (Ty.str.fact a1 [str a1]), (tabsF Tryz.prog 4 5)]⟩ : St)) (x363.take ((IntKind.i64.wrap ((x363.length : Int) - x372)).toNat)) () hr ⟨⟨rfl, ⟨rfl, trivial⟩⟩, ⟨[], rfl⟩, ⟨[], rfl⟩, ⟨[0, 4, 5], rfl⟩⟩
   replace hr := ineg h384 hr
   refine at_true rfl (nf (bf h384)) (at_exit (at_then_exit (at_in_other rfl (at_then_exit (at_in_exit ?_)))))
   have hq := oinj hr
   clear hr
   subst hq
   exact at_leaf () ⟨⟨rfl, trivial⟩, ⟨[], rfl⟩, ⟨[], rfl⟩, ⟨[2, 4], rfl⟩⟩
  replace hr := ineg h368 hr
  refine at_false rfl (decide_eq_false (by omega)) ?_
  refine at_exit (at_then_exit (at_then_exit (at_in_exit ?_)))
  have hq := oinj hr
  clear hr
  subst hq
  exact at_leaf () ⟨⟨rfl, trivial⟩, ⟨[], rfl⟩, ⟨[], rfl⟩, ⟨[0, 2], rfl⟩⟩
 clear hl365
 intro e
 change At _ _ (⟨[(0, str x364)], [], [], [(Ty.str.fact x364 [str x364]), (tabsF Tryz.prog 4 5)]⟩ : St) _
 refine s_tsr (s_mv rfl (s_as rfl (s_nt (at_ret ?_))))
 have hq := oinj hr
 clear hr
 subst hq
 exact at_return (str x364) [0] hS Tryz.results150 (.cons (.tmp rfl) .nil) rfl rfl ⟨rfl, rfl⟩
def m126 (a0 : Str) (a1 : Str) : Option Str :=
  if a0 = ([] : Str) then
   some a0
  else
   if a1 = ([] : Str) then
    some a0
   else
    Option.bind (α := Bool) (
     if a1.length = 1 then
      (a1[0]?).bind fun c392 =>
      some (decide ((c392.toNat : Int) < 128))
     else
      some false
    ) fun x388 =>
    if x388 = true then
     (a1[0]?).bind fun c395 =>
     (m145 a0 c395).bind fun x397 =>
     (a1[0]?).bind fun c399 =>
     (m144 x397 c399).bind fun x401 =>
     some x401
    else
     none
def post126 (r : Str) (v : Value) (fs : List Fact) : Prop := v = str r ∧ fs = [(Ty.str.fact r [str r])]
theorem en126 : Enters Tryz.prog 126 := ⟨_, Tryz.func126, by kernel_rfl, rfl⟩
theorem f126_spec {a0 : Str} {a1 : Str} {r : Str} (hr : m126 a0 a1 = some r) : Spec Tryz.prog 126 [str a0, str a1] [(Ty.str.fact a0 [str a0]), (Ty.str.fact a1 [str a1]), (tabsF Tryz.prog 4 5)] (post126 r) := by
 refine spec_start (N := 43) Tryz.func126 (by kernel_rfl) rfl rfl rfl ?_
 intro g hS
 unfold m126 at hr
 refine s_sr (s_as rfl (s_nt (at_seq (s_sr (s_mv rfl (at_lt (lt_seql rfl rfl) rfl (s_mv rfl ?_)))))))
 by_cases h386 : a0 = ([] : Str)
 ·replace hr := ipos h386 hr
  refine at_off rfl rfl (decide_eq_true h386) rfl (at_off rfl rfl (decide_eq_true h386) rfl (at_lt (lt_pick true rfl (decide_eq_true h386) rfl) rfl (s_nt (at_true rfl rfl (s_sr (s_mv rfl (s_as rfl (s_nt (at_ret ?_)))))))))
  have hq := oinj hr
  clear hr
  subst hq
  refine at_then_ret ?_
  exact at_return (str a0) [0] hS Tryz.results126 (.cons (.tmp rfl) .nil) rfl rfl ⟨rfl, rfl⟩
 replace hr := ineg h386 hr
 refine at_on rfl rfl (decide_eq_false h386) (s_mv rfl (at_on rfl rfl (decide_eq_false h386) (at_lt (lt_seql rfl rfl) rfl (at_lt (lt_pick false rfl (decide_eq_false h386) rfl) rfl (s_nt ?_)))))
 by_cases h387 : a1 = ([] : Str)
 ·replace hr := ipos h387 hr
  refine at_true rfl (decide_eq_true h387) (s_sr (s_mv rfl (s_as rfl (s_nt (at_ret ?_)))))
  have hq := oinj hr
  clear hr
  subst hq
  refine at_then_ret ?_
  exact at_return (str a0) [0] hS Tryz.results126 (.cons (.tmp rfl) .nil) rfl rfl ⟨rfl, rfl⟩
 replace hr := ineg h387 hr
 refine at_false rfl (decide_eq_false h387) (at_skip (at_then (at_seq (at_seq ?_))))
 replace hr := obind hr
 obtain ⟨x388, hc389, hr⟩ := hr
 refine at_cut (V := Unit) (fun e => (⟨[(0, str a0), (1, str a1), (21, .bool x388)], [], [], [(Ty.str.fact a0 [str a0]), (Ty.str.fact a1 [str a1]), (tabsF Tryz.prog 4 5)]⟩ : St)) ?_ ?_
 ·clear hr
  have hr := hc389
  clear hc389
  refine at_region (s_mv rfl ?_)
  refine at_inv 1 rfl (fun l390 => ?_)
  replace l390 : a1.length ≤ 9223372036854775807 := l390
  refine at_lt (lt_slen rfl und9) rfl (at_lt (lt_eql rfl rfl) rfl (s_mv rfl ?_))
  by_cases h391 : a1.length = 1
  ·replace hr := ipos h391 hr
   refine at_on rfl rfl (decide_eq_true (by omega)) ?_
   refine s_mv rfl ?_
   replace hr := obind hr
   obtain ⟨c392, h393, hr⟩ := hr
   have := (List.getElem?_eq_some_iff.1 h393).1
   have := c392.toNat_lt
   refine at_on rfl rfl (decide_eq_true (by omega)) ?_
   refine at_lt (lt_sidx rfl rfl und9 (by omega) h393) rfl ?_
   refine at_on rfl rfl (decide_eq_true (by omega)) ?_
   refine at_lt (lt_lss rfl rfl) rfl ?_
   refine at_lt (lt_pick true rfl (decide_eq_true (by omega)) rfl) rfl ?_
   refine at_nil ?_
   have hq := oinj hr
   clear hr
   subst hq
   exact at_leaf () ⟨⟨rfl, ⟨rfl, ⟨rfl, trivial⟩⟩⟩, ⟨[], rfl⟩, ⟨[], rfl⟩, ⟨[0, 1, 2], rfl⟩⟩
  replace hr := ineg h391 hr
  refine at_off rfl rfl (decide_eq_false (by omega)) rfl ?_
  refine at_off rfl rfl (decide_eq_false (by omega)) rfl ?_
  refine at_off rfl rfl (decide_eq_false (by omega)) rfl ?_
  refine at_lt (lt_pick false rfl (decide_eq_false (by omega)) rfl) rfl ?_
  refine at_nil ?_
  have hq := oinj hr
  clear hr
  subst hq
  exact at_leaf () ⟨⟨rfl, ⟨rfl, ⟨rfl, trivial⟩⟩⟩, ⟨[], rfl⟩, ⟨[], rfl⟩, ⟨[0, 1, 2], rfl⟩⟩
 clear hc389
 intro _
 change At _ _ (⟨[(0, str a0), (1, str a1), (21, .bool x388)], [], [], [(Ty.str.fact a0 [str a0]), (Ty.str.fact a1 [str a1]), (tabsF Tryz.prog 4 5)]⟩ : St) _
 refine at_then ?_
 by_cases h394 : x388 = true
 ·replace hr := ipos h394 hr
  refine at_true rfl h394 (at_seq ?_)
  replace hr := obind hr
  obtain ⟨c395, h396, hr⟩ := hr
  have := (List.getElem?_eq_some_iff.1 h396).1
  have := c395.toNat_lt
  replace hr := obind hr
  obtain ⟨x397, h398, hr⟩ := hr
  replace hr := obind hr
  obtain ⟨c399, h400, hr⟩ := hr
  have := (List.getElem?_eq_some_iff.1 h400).1
  have := c399.toNat_lt
  replace hr := obind hr
  obtain ⟨x401, h402, hr⟩ := hr
  refine aa_start 8 (by kernel_rfl) ?_
  refine aa_p 0 rfl (lt_move rfl) (aa_p 1 rfl (lt_move rfl) ?_)
  refine aa_p 2 rfl (lt_sidx rfl rfl und9 (by omega) h396) ?_
  refine aa_p 4 rfl (lt_move rfl) ?_
  refine aa_p 5 rfl (lt_sidx rfl rfl und9 (by omega) h400) ?_
  refine aa_one 3 (aa_op rfl rfl (hv_call0 [0] (f145_spec h398) rfl rfl rfl rfl ?_))
  rintro _ _ ⟨rfl, rfl⟩
  refine aa_all (rs := [6]) (by kernel_rfl) rfl (ts_in 0 1 rfl rfl) (List.forall_mem_singleton.2 ?_)
  refine aa_op rfl rfl (hv_call0 [0] (f144_spec h402) rfl rfl rfl rfl ?_)
  rintro _ _ ⟨rfl, rfl⟩
  refine aa_pure 7 rfl (by kernel_rfl) rfl rfl (lt_assign rfl) rfl (ts_in 0 2 rfl rfl) ?_
  refine aa_done (by kernel_rfl) (ts_in 0 2 rfl rfl) ?_
  refine at_then (at_ret ?_)
  have hq := oinj hr
  clear hr
  subst hq
  refine at_then_ret ?_
  exact at_return (str x401) [0] hS Tryz.results126 (.cons (.tmp rfl) .nil) rfl rfl ⟨rfl, rfl⟩
 replace hr := ineg h394 hr
 cases hr
def m78 (a0 : Str) : Option Bool :=
  (m125 a0).bind fun x405 =>
  if x405.2 = true then
   if a0 = ([] : Str) then
    some false
   else
    if a0.length ≤ 400 then
     (m126 a0 ([32] : Str)).bind fun x412 =>
     some (decide (x412 = a0))
    else
     some false
  else
   some false
def post78 (r : Bool) (v : Value) (fs : List Fact) : Prop := v = .bool r ∧ fs = []
theorem en78 : Enters Tryz.prog 78 := ⟨_, Tryz.func78, by kernel_rfl, rfl⟩
theorem f78_spec {a0 : Str} {r : Bool} (hr : m78 a0 = some r) : Spec Tryz.prog 78 [str a0] [(Ty.str.fact a0 [str a0]), (tabsF Tryz.prog 4 5)] (post78 r) := by
 refine spec_start (N := 26) Tryz.func78 (by kernel_rfl) rfl rfl rfl ?_
 intro g hS
 unfold m78 at hr
 refine s_sr (s_as rfl (s_ntsr (s_mv rfl ?_)))
 replace hr := obind hr
 obtain ⟨x405, h406, hr⟩ := hr
 refine at_hv rfl (hv_call0 [0, 1] (f125_spec h406) rfl rfl rfl rfl ?_)
 rintro _ _ ⟨s407, rfl, rfl⟩
 refine s_mv rfl (at_lt (lt_extract rfl rfl) rfl (at_lt (lt_extract rfl rfl) rfl (s_as rfl (s_as rfl (s_ntsr (s_mv rfl (s_mv rfl ?_)))))))
 by_cases h408 : x405.2 = true
 ·replace hr := ipos h408 hr
  refine at_on rfl rfl h408 (s_mv rfl (at_on rfl rfl h408 (at_lt (lt_sneq rfl rfl) rfl (at_lt (lt_pick true rfl h408 rfl) rfl (s_mv rfl ?_)))))
  by_cases h409 : a0 = ([] : Str)
  ·replace hr := ipos h409 hr
   refine at_off rfl rfl (nt (decide_eq_true h409)) rfl (at_off rfl rfl (nt (decide_eq_true h409)) rfl (at_off rfl rfl (nt (decide_eq_true h409)) rfl (at_lt (lt_pick false rfl (nt (decide_eq_true h409)) rfl) rfl (s_mv rfl (at_off rfl rfl rfl rfl (at_off rfl rfl rfl rfl (at_off rfl rfl rfl rfl (at_off rfl rfl rfl rfl (at_lt (lt_pick false rfl rfl rfl) rfl ?_)))))))))
   refine s_as rfl (s_nt (at_ret ?_))
   have hq := oinj hr
   clear hr
   subst hq
   exact at_return (.bool false) [] hS Tryz.results78 (.cons (.tmp rfl) .nil) rfl rfl ⟨rfl, rfl⟩
  replace hr := ineg h409 hr
  refine at_on rfl rfl (nf (decide_eq_false h409)) (s_mv rfl ?_)
  refine at_inv 1 rfl (fun l410 => ?_)
  replace l410 : a0.length ≤ 9223372036854775807 := l410
  refine at_on rfl rfl (nf (decide_eq_false h409)) (at_lt (lt_slen rfl und9) rfl (at_on rfl rfl (nf (decide_eq_false h409)) (at_lt (lt_leq rfl rfl) rfl (at_lt (lt_pick true rfl (nf (decide_eq_false h409)) rfl) rfl (s_mv rfl ?_)))))
  by_cases h411 : a0.length ≤ 400
  ·replace hr := ipos h411 hr
   refine at_on rfl rfl (decide_eq_true (by omega)) ?_
   refine s_mv rfl ?_
   replace hr := obind hr
   obtain ⟨x412, h413, hr⟩ := hr
   refine at_str ([32] : Str) (by decide) ?_
   refine at_on rfl rfl (decide_eq_true (by omega)) ?_
   refine at_hv rfl (hv_call0 [2, 0, 3] (f126_spec h413) rfl rfl rfl rfl ?_)
   rintro _ _ ⟨rfl, rfl⟩
   refine at_on rfl rfl (decide_eq_true (by omega)) ?_
   refine s_mv rfl ?_
   refine at_on rfl rfl (decide_eq_true (by omega)) ?_
   refine at_lt (lt_seql rfl rfl) rfl ?_
   refine at_lt (lt_pick true rfl (decide_eq_true (by omega)) rfl) rfl ?_
   refine s_as rfl (s_nt (at_ret ?_))
   have hq := oinj hr
   clear hr
   subst hq
   exact at_return (.bool (decide (x412 = a0))) [] hS Tryz.results78 (.cons (.tmp rfl) .nil) rfl rfl ⟨rfl, rfl⟩
  replace hr := ineg h411 hr
  refine at_off rfl rfl (decide_eq_false (by omega)) rfl ?_
  refine at_off rfl rfl (decide_eq_false (by omega)) rfl ?_
  refine at_off rfl rfl (decide_eq_false (by omega)) rfl ?_
  refine at_off rfl rfl (decide_eq_false (by omega)) rfl ?_
  refine at_lt (lt_pick false rfl (decide_eq_false (by omega)) rfl) rfl ?_
  refine s_as rfl (s_nt (at_ret ?_))
  have hq := oinj hr
  clear hr
  subst hq
  exact at_return (.bool false) [] hS Tryz.results78 (.cons (.tmp rfl) .nil) rfl rfl ⟨rfl, rfl⟩
 replace hr := ineg h408 hr
 refine at_off rfl rfl (bf h408) rfl (at_off rfl rfl (bf h408) rfl (at_lt (lt_pick false rfl (bf h408) rfl) rfl (s_mv rfl (at_off rfl rfl rfl rfl (at_off rfl rfl rfl rfl (at_off rfl rfl rfl rfl (at_lt (lt_pick false rfl rfl rfl) rfl (s_mv rfl (at_off rfl rfl rfl rfl ?_)))))))))
 refine at_off rfl rfl rfl rfl (at_off rfl rfl rfl rfl (at_off rfl rfl rfl rfl (at_lt (lt_pick false rfl rfl rfl) rfl (s_as rfl (s_nt (at_ret ?_))))))
 have hq := oinj hr
 clear hr
 subst hq
 exact at_return (.bool false) [] hS Tryz.results78 (.cons (.tmp rfl) .nil) rfl rfl ⟨rfl, rfl⟩
def m76 (a0 : D_api_Sub) : Option Bool :=
  (m77 a0.Code).bind fun x415 =>
  if x415 = true then
   (m78 a0.Value).bind fun x418 =>
   some (!x418)
  else
   some true
def post76 (r : Bool) (v : Value) (fs : List Fact) : Prop := v = .bool r ∧ fs = []
theorem en76 : Enters Tryz.prog 76 := ⟨_, Tryz.func76, by kernel_rfl, rfl⟩
theorem f76_spec {a0 : D_api_Sub} {r : Bool} (hr : m76 a0 = some r) : Spec Tryz.prog 76 [.agg #[.int .u8 (a0.Code.toNat : Int), str a0.Value]] [(ty67.fact a0 [.int .u8 (a0.Code.toNat : Int), str a0.Value]), (tabsF Tryz.prog 4 5)] (post76 r) := by
 refine spec_start (N := 13) Tryz.func76 (by kernel_rfl) rfl rfl rfl ?_
 intro g hS
 unfold m76 at hr
 refine at_open (A := Unit) 0 rfl (fun _ => True) (fun _ => [(Ty.str.fact a0.Value [str a0.Value])]) (fun F w h => ⟨(), trivial, ex67 h⟩) (fun _ _ => ?_)
 refine s_sr (at_hv rfl ?_)
 refine hv_box (cs := [.int .u8 (a0.Code.toNat : Int), str a0.Value]) rfl rfl rfl (fun b414 => ?_)
 refine s_as rfl (s_ntsr (at_lt (lt_fieldAddr 0 rfl fld67_0 rfl) rfl (at_lt (lt_load_box 0 rfl ti5 rfl rfl rfl rfl rfl) rfl ?_)))
 replace hr := obind hr
 obtain ⟨x415, h416, hr⟩ := hr
 refine at_hv rfl (hv_call0 [] (f77_spec h416) rfl rfl rfl rfl ?_)
 rintro _ _ ⟨rfl, rfl⟩
 refine at_lt (lt_not rfl) rfl (s_mv rfl ?_)
 by_cases h417 : x415 = true
 ·replace hr := ipos h417 hr
  refine at_on rfl rfl (nt h417) (at_lt (lt_fieldAddr 1 rfl fld67_1 rfl) rfl (at_on rfl rfl (nt h417) (at_lt (lt_load_box 0 rfl ti9 rfl rfl rfl rfl rfl) rfl ?_)))
  replace hr := obind hr
  obtain ⟨x418, h419, hr⟩ := hr
  refine at_on rfl rfl (nt h417) (at_hv rfl (hv_call0 [0, 2] (f78_spec h419) rfl rfl rfl rfl ?_))
  rintro _ _ ⟨rfl, rfl⟩
  refine at_on rfl rfl (nt h417) (at_lt (lt_not rfl) rfl (at_lt (lt_pick false rfl (nt h417) rfl) rfl (s_as rfl (s_nt (at_ret ?_)))))
  have hq := oinj hr
  clear hr
  subst hq
  exact at_return (.bool (!x418)) [] hS Tryz.results76 (.cons (.tmp rfl) .nil) rfl rfl ⟨rfl, rfl⟩
 replace hr := ineg h417 hr
 refine at_off rfl rfl (nf (bf h417)) rfl (at_off rfl rfl (nf (bf h417)) rfl (at_off rfl rfl (nf (bf h417)) rfl (at_off rfl rfl (nf (bf h417)) rfl (at_lt (lt_pick true rfl (nf (bf h417)) rfl) rfl (s_as rfl (s_nt (at_ret ?_)))))))
 have hq := oinj hr
 clear hr
 subst hq
 exact at_return (.bool true) [] hS Tryz.results76 (.cons (.tmp rfl) .nil) rfl rfl ⟨rfl, rfl⟩
def m35 (a0 : D_api_Field) : Option Bool :=
  (m38 a0.Tag).bind fun x422 =>
  if x422 = true then
   (m74 a0.Ind_0).bind fun x425 =>
   if x425 = true then
    (m74 a0.Ind_1).bind fun x428 =>
    if x428 = true then
     if a0.Subs.length < 1 then
      some false
     else
      if 20 < a0.Subs.length then
       some false
      else
       (m75 a0.Subs m76).bind fun x435 =>
       some (!x435)
    else
     some false
   else
    some false
  else
   some false
def post35 (r : Bool) (v : Value) (fs : List Fact) : Prop := v = .bool r ∧ fs = []
theorem en35 : Enters Tryz.prog 35 := ⟨_, Tryz.func35, by kernel_rfl, rfl⟩
theorem f35_spec {a0 : D_api_Field} {s420 : Value} {r : Bool} (hr : m35 a0 = some r) : Spec Tryz.prog 35 [.agg #[str a0.Tag, .int .u8 (a0.Ind_0.toNat : Int), .int .u8 (a0.Ind_1.toNat : Int), s420]] [(ty59.fact a0 [str a0.Tag, .int .u8 (a0.Ind_0.toNat : Int), .int .u8 (a0.Ind_1.toNat : Int), s420]), (tabsF Tryz.prog 4 5)] (post35 r) := by
 refine spec_start (N := 37) Tryz.func35 (by kernel_rfl) rfl rfl rfl ?_
 intro g hS
 unfold m35 at hr
 refine at_open (A := Unit) 0 rfl (fun _ => True) (fun _ => [(Ty.str.fact a0.Tag [str a0.Tag]), ((Ty.slice ty67).fact a0.Subs [s420])]) (fun F w h => ⟨(), trivial, ex59 h⟩) (fun _ _ => ?_)
 refine s_sr (at_hv rfl ?_)
 refine hv_box (cs := [str a0.Tag, .int .u8 (a0.Ind_0.toNat : Int), .int .u8 (a0.Ind_1.toNat : Int), s420]) rfl rfl rfl (fun b421 => ?_)
 refine s_as rfl (s_nt (at_seq (s_sr (at_lt (lt_fieldAddr 0 rfl fld59_0 rfl) rfl (at_lt (lt_load_box 0 rfl ti9 rfl rfl rfl rfl rfl) rfl ?_)))))
 replace hr := obind hr
 obtain ⟨x422, h423, hr⟩ := hr
 refine at_hv rfl (hv_call0 [0] (f38_spec h423) rfl rfl rfl rfl ?_)
 rintro _ _ ⟨rfl, rfl⟩
 refine at_lt (lt_not rfl) rfl (s_mv rfl ?_)
 by_cases h424 : x422 = true
 ·replace hr := ipos h424 hr
  refine at_on rfl rfl (nt h424) (at_lt (lt_fieldAddr 1 rfl fld59_1 rfl) rfl (at_on rfl rfl (nt h424) (at_lt (lt_aidx 0 rfl rfl rfl rfl und56 ti5 rfl) rfl (at_on rfl rfl (nt h424) (at_lt (lt_load_box 0 rfl ti5 rfl rfl rfl rfl rfl) rfl ?_)))))
  replace hr := obind hr
  obtain ⟨x425, h426, hr⟩ := hr
  refine at_on rfl rfl (nt h424) (at_hv rfl (hv_call0 [] (f74_spec h426) rfl rfl rfl rfl ?_))
  rintro _ _ ⟨rfl, rfl⟩
  refine at_on rfl rfl (nt h424) (at_lt (lt_not rfl) rfl (at_lt (lt_pick false rfl (nt h424) rfl) rfl (s_mv rfl ?_)))
  by_cases h427 : x425 = true
  ·replace hr := ipos h427 hr
   refine at_on rfl rfl (nt h427) (at_lt (lt_fieldAddr 1 rfl fld59_1 rfl) rfl (at_on rfl rfl (nt h427) (at_lt (lt_aidx 1 rfl rfl rfl rfl und56 ti5 rfl) rfl (at_on rfl rfl (nt h427) (at_lt (lt_load_box 0 rfl ti5 rfl rfl rfl rfl rfl) rfl ?_)))))
   replace hr := obind hr
   obtain ⟨x428, h429, hr⟩ := hr
   refine at_on rfl rfl (nt h427) (at_hv rfl (hv_call0 [] (f74_spec h429) rfl rfl rfl rfl ?_))
   rintro _ _ ⟨rfl, rfl⟩
   refine at_on rfl rfl (nt h427) (at_lt (lt_not rfl) rfl (at_lt (lt_pick false rfl (nt h427) rfl) rfl (s_mv rfl ?_)))
   by_cases h430 : x428 = true
   ·replace hr := ipos h430 hr
    refine at_on rfl rfl (nt h430) (at_lt (lt_fieldAddr 3 rfl fld59_2 rfl) rfl (at_on rfl rfl (nt h430) (at_lt (lt_load_box 0 rfl ti57 rfl rfl rfl rfl rfl) rfl ?_)))
    refine at_inv 1 rfl (fun i431 => ?_)
    have l432 := slice_len i431
    refine at_on rfl rfl (nt h430) (at_lt (lt_flen 1 rfl rfl und57) rfl (at_on rfl rfl (nt h430) (at_lt (lt_lss rfl rfl) rfl (at_lt (lt_pick false rfl (nt h430) rfl) rfl (s_mv rfl ?_)))))
    by_cases h433 : a0.Subs.length < 1
    ·replace hr := ipos h433 hr
     refine at_off rfl rfl (decide_eq_true (by omega)) rfl ?_
     refine at_off rfl rfl (decide_eq_true (by omega)) rfl ?_
     refine at_off rfl rfl (decide_eq_true (by omega)) rfl ?_
     refine at_off rfl rfl (decide_eq_true (by omega)) rfl ?_
     refine at_lt (lt_pick true rfl (decide_eq_true (by omega)) rfl) rfl ?_
     refine s_nt (at_true rfl rfl (s_sr (s_as rfl (s_nt (at_ret ?_)))))
     have hq := oinj hr
     clear hr
     subst hq
     refine at_then_ret ?_
     exact at_return (.bool false) [] hS Tryz.results35 (.cons (.tmp rfl) .nil) rfl rfl ⟨rfl, rfl⟩
    replace hr := ineg h433 hr
    refine at_on rfl rfl (decide_eq_false (by omega)) ?_
    refine at_lt (lt_fieldAddr 3 rfl fld59_2 rfl) rfl ?_
    refine at_on rfl rfl (decide_eq_false (by omega)) ?_
    refine at_lt (lt_load_box 0 rfl ti57 rfl rfl rfl rfl rfl) rfl ?_
    refine at_on rfl rfl (decide_eq_false (by omega)) ?_
    refine at_lt (lt_flen 1 rfl rfl und57) rfl ?_
    refine at_on rfl rfl (decide_eq_false (by omega)) ?_
    refine at_lt (lt_gtr rfl rfl) rfl ?_
    refine at_lt (lt_pick false rfl (decide_eq_false (by omega)) rfl) rfl ?_
    refine s_nt ?_
    by_cases h434 : 20 < a0.Subs.length
    ·replace hr := ipos h434 hr
     refine at_true rfl (decide_eq_true (by omega)) ?_
     refine s_sr (s_as rfl (s_nt (at_ret ?_)))
     have hq := oinj hr
     clear hr
     subst hq
     refine at_then_ret ?_
     exact at_return (.bool false) [] hS Tryz.results35 (.cons (.tmp rfl) .nil) rfl rfl ⟨rfl, rfl⟩
    replace hr := ineg h434 hr
    refine at_false rfl (decide_eq_false (by omega)) ?_
    refine at_skip (s_tsr (at_lt (lt_fieldAddr 3 rfl fld59_2 rfl) rfl (at_lt (lt_load_box 0 rfl ti57 rfl rfl rfl rfl rfl) rfl ?_)))
    replace hr := obind hr
    obtain ⟨x435, h436, hr⟩ := hr
    refine at_fn 76 [] [3] (sp101 m76) en76 rfl (by rintro _ _ _ ⟨a0, r, h, rfl, rfl, rfl⟩; exact f76_spec h) ?_
    refine at_hv rfl (hv_call0 [2, 0] (f75_spec h436) rfl rfl rfl rfl ?_)
    rintro _ _ ⟨rfl, rfl⟩
    refine at_lt (lt_not rfl) rfl (s_as rfl (s_nt (at_ret ?_)))
    have hq := oinj hr
    clear hr
    subst hq
    exact at_return (.bool (!x435)) [] hS Tryz.results35 (.cons (.tmp rfl) .nil) rfl rfl ⟨rfl, rfl⟩
   replace hr := ineg h430 hr
   refine at_off rfl rfl (nf (bf h430)) rfl (at_off rfl rfl (nf (bf h430)) rfl (at_off rfl rfl (nf (bf h430)) rfl (at_off rfl rfl (nf (bf h430)) rfl (at_lt (lt_pick true rfl (nf (bf h430)) rfl) rfl (s_mv rfl (at_off rfl rfl rfl rfl (at_off rfl rfl rfl rfl (at_off rfl rfl rfl rfl (at_off rfl rfl rfl rfl ?_)))))))))
   refine at_lt (lt_pick true rfl rfl rfl) rfl (s_nt (at_true rfl rfl (s_sr (s_as rfl (s_nt (at_ret ?_))))))
   have hq := oinj hr
   clear hr
   subst hq
   refine at_then_ret ?_
   exact at_return (.bool false) [] hS Tryz.results35 (.cons (.tmp rfl) .nil) rfl rfl ⟨rfl, rfl⟩
  replace hr := ineg h427 hr
  refine at_off rfl rfl (nf (bf h427)) rfl (at_off rfl rfl (nf (bf h427)) rfl (at_off rfl rfl (nf (bf h427)) rfl (at_off rfl rfl (nf (bf h427)) rfl (at_off rfl rfl (nf (bf h427)) rfl (at_lt (lt_pick true rfl (nf (bf h427)) rfl) rfl (s_mv rfl (at_off rfl rfl rfl rfl (at_off rfl rfl rfl rfl (at_off rfl rfl rfl rfl ?_)))))))))
  refine at_off rfl rfl rfl rfl (at_lt (lt_pick true rfl rfl rfl) rfl (s_mv rfl (at_off rfl rfl rfl rfl (at_off rfl rfl rfl rfl (at_off rfl rfl rfl rfl (at_off rfl rfl rfl rfl (at_lt (lt_pick true rfl rfl rfl) rfl (s_nt (at_true rfl rfl ?_)))))))))
  refine s_sr (s_as rfl (s_nt (at_ret ?_)))
  have hq := oinj hr
  clear hr
  subst hq
  refine at_then_ret ?_
  exact at_return (.bool false) [] hS Tryz.results35 (.cons (.tmp rfl) .nil) rfl rfl ⟨rfl, rfl⟩
 replace hr := ineg h424 hr
 refine at_off rfl rfl (nf (bf h424)) rfl (at_off rfl rfl (nf (bf h424)) rfl (at_off rfl rfl (nf (bf h424)) rfl (at_off rfl rfl (nf (bf h424)) rfl (at_off rfl rfl (nf (bf h424)) rfl (at_lt (lt_pick true rfl (nf (bf h424)) rfl) rfl (s_mv rfl (at_off rfl rfl rfl rfl (at_off rfl rfl rfl rfl (at_off rfl rfl rfl rfl ?_)))))))))
 refine at_off rfl rfl rfl rfl (at_off rfl rfl rfl rfl (at_lt (lt_pick true rfl rfl rfl) rfl (s_mv rfl (at_off rfl rfl rfl rfl (at_off rfl rfl rfl rfl (at_off rfl rfl rfl rfl (at_off rfl rfl rfl rfl (at_lt (lt_pick true rfl rfl rfl) rfl (s_mv rfl ?_)))))))))
 refine at_off rfl rfl rfl rfl (at_off rfl rfl rfl rfl (at_off rfl rfl rfl rfl (at_off rfl rfl rfl rfl (at_lt (lt_pick true rfl rfl rfl) rfl (s_nt (at_true rfl rfl (s_sr (s_as rfl (s_nt ?_)))))))))
 refine at_ret ?_
 have hq := oinj hr
 clear hr
 subst hq
 refine at_then_ret ?_
 exact at_return (.bool false) [] hS Tryz.results35 (.cons (.tmp rfl) .nil) rfl rfl ⟨rfl, rfl⟩
def m82 (a0 : D_api_Field) : Option Bool :=
  (m35 (⟨a0.Tag, a0.Ind_0, a0.Ind_1, a0.Subs⟩ : D_api_Field)).bind fun x439 =>
  some (!x439)
def post82 (r : Bool) (v : Value) (fs : List Fact) : Prop := v = .bool r ∧ fs = []
theorem en82 : Enters Tryz.prog 82 := ⟨_, Tryz.func82, by kernel_rfl, rfl⟩
theorem f82_spec {a0 : D_api_Field} {s437 : Value} {r : Bool} (hr : m82 a0 = some r) : Spec Tryz.prog 82 [.agg #[str a0.Tag, .int .u8 (a0.Ind_0.toNat : Int), .int .u8 (a0.Ind_1.toNat : Int), s437]] [(ty59.fact a0 [str a0.Tag, .int .u8 (a0.Ind_0.toNat : Int), .int .u8 (a0.Ind_1.toNat : Int), s437]), (tabsF Tryz.prog 4 5)] (post82 r) := by
 refine spec_start (N := 6) Tryz.func82 (by kernel_rfl) rfl rfl rfl ?_
 intro g hS
 unfold m82 at hr
 refine at_open (A := Unit) 0 rfl (fun _ => True) (fun _ => [(Ty.str.fact a0.Tag [str a0.Tag]), ((Ty.slice ty67).fact a0.Subs [s437])]) (fun F w h => ⟨(), trivial, ex59 h⟩) (fun _ _ => ?_)
 refine s_sr (at_hv rfl ?_)
 refine hv_box (cs := [str a0.Tag, .int .u8 (a0.Ind_0.toNat : Int), .int .u8 (a0.Ind_1.toNat : Int), s437]) rfl rfl rfl (fun b438 => ?_)
 refine s_as rfl (s_ntsr (at_lt (lt_load_box 0 rfl ti59 rfl rfl rfl rfl rfl) rfl ?_))
 replace hr := obind hr
 obtain ⟨x439, h440, hr⟩ := hr
 refine at_derive [0, 1] (ty59.fact (⟨a0.Tag, a0.Ind_0, a0.Ind_1, a0.Subs⟩ : D_api_Field) [str a0.Tag, .int .u8 (a0.Ind_0.toNat : Int), .int .u8 (a0.Ind_1.toNat : Int), s437]) rfl (fun F w h => mk59 (x := (⟨a0.Tag, a0.Ind_0, a0.Ind_1, a0.Subs⟩ : D_api_Field)) h) ?_
 refine at_hv rfl (hv_call0 [0, 4] (f35_spec h440) rfl rfl rfl rfl ?_)
 rintro _ _ ⟨rfl, rfl⟩
 refine at_lt (lt_not rfl) rfl (s_as rfl (s_nt (at_ret ?_)))
 have hq := oinj hr
 clear hr
 subst hq
 exact at_return (.bool (!x439)) [] hS Tryz.results82 (.cons (.tmp rfl) .nil) rfl rfl ⟨rfl, rfl⟩
def m37 (a0 : D_api_Record) : Option Bool :=
  if a0.ID < 1 then
   some false
  else
   if (1000000000 : Int) < a0.ID then
    some false
   else
    if a0.Fields.length < 1 then
     some false
    else
     if 60 < a0.Fields.length then
      some false
     else
      (m81 a0.Fields m82).bind fun x450 =>
      some (!x450)
def post37 (r : Bool) (v : Value) (fs : List Fact) : Prop := v = .bool r ∧ fs = []
theorem en37 : Enters Tryz.prog 37 := ⟨_, Tryz.func37, by kernel_rfl, rfl⟩
theorem f37_spec {a0 : D_api_Record} {s441 : Value} {r : Bool} (hr : m37 a0 = some r) : Spec Tryz.prog 37 [.agg #[.int .i64 a0.ID, s441]] [(ty24.fact a0 [.int .i64 a0.ID, s441]), (tabsF Tryz.prog 4 5)] (post37 r) := by
 refine spec_start (N := 27) Tryz.func37 (by kernel_rfl) rfl rfl rfl ?_
 intro g hS
 unfold m37 at hr
 refine at_open (A := Unit) 0 rfl (fun _ => True) (fun _ => [((Ty.int .i64).fact a0.ID [.int .i64 a0.ID]), ((Ty.slice ty59).fact a0.Fields [s441])]) (fun F w h => ⟨(), trivial, ex24 h⟩) (fun _ _ => ?_)
 refine at_inv 0 rfl (fun l442 => ?_)
 replace l442 : (-9223372036854775808) ≤ a0.ID ∧ a0.ID ≤ 9223372036854775807 := l442
 refine s_sr (at_hv rfl ?_)
 refine hv_box (cs := [.int .i64 a0.ID, s441]) rfl rfl rfl (fun b443 => ?_)
 refine s_as rfl (s_nt (at_seq (s_sr (at_lt (lt_fieldAddr 0 rfl fld24_0 rfl) rfl (at_lt (lt_load_box 0 rfl ti3 rfl rfl rfl rfl rfl) rfl (at_lt (lt_lss rfl rfl) rfl (s_mv rfl ?_)))))))
 by_cases h444 : a0.ID < 1
 ·replace hr := ipos h444 hr
  refine at_off rfl rfl (decide_eq_true (by first | exact h444 | omega)) rfl ?_
  refine at_off rfl rfl (decide_eq_true (by first | exact h444 | omega)) rfl ?_
  refine at_off rfl rfl (decide_eq_true (by first | exact h444 | omega)) rfl ?_
  refine at_lt (lt_pick true rfl (decide_eq_true (by first | exact h444 | omega)) rfl) rfl ?_
  refine s_mv rfl (at_off rfl rfl rfl rfl (at_off rfl rfl rfl rfl (at_off rfl rfl rfl rfl (at_off rfl rfl rfl rfl (at_lt (lt_pick true rfl rfl rfl) rfl (s_mv rfl (at_off rfl rfl rfl rfl (at_off rfl rfl rfl rfl (at_off rfl rfl rfl rfl ?_)))))))))
  refine at_off rfl rfl rfl rfl (at_lt (lt_pick true rfl rfl rfl) rfl (s_nt (at_true rfl rfl (s_sr (s_as rfl (s_nt (at_ret ?_)))))))
  have hq := oinj hr
  clear hr
  subst hq
  refine at_then_ret ?_
  exact at_return (.bool false) [] hS Tryz.results37 (.cons (.tmp rfl) .nil) rfl rfl ⟨rfl, rfl⟩
 replace hr := ineg h444 hr
 refine at_on rfl rfl (decide_eq_false (by first | exact h444 | omega)) ?_
 refine at_lt (lt_fieldAddr 0 rfl fld24_0 rfl) rfl ?_
 refine at_on rfl rfl (decide_eq_false (by first | exact h444 | omega)) ?_
 refine at_lt (lt_load_box 0 rfl ti3 rfl rfl rfl rfl rfl) rfl ?_
 refine at_on rfl rfl (decide_eq_false (by first | exact h444 | omega)) ?_
 refine at_lt (lt_gtr rfl rfl) rfl ?_
 refine at_lt (lt_pick false rfl (decide_eq_false (by first | exact h444 | omega)) rfl) rfl ?_
 refine s_mv rfl ?_
 by_cases h445 : (1000000000 : Int) < a0.ID
 ·replace hr := ipos h445 hr
  refine at_off rfl rfl (decide_eq_true (by first | exact h445 | omega)) rfl ?_
  refine at_off rfl rfl (decide_eq_true (by first | exact h445 | omega)) rfl ?_
  refine at_off rfl rfl (decide_eq_true (by first | exact h445 | omega)) rfl ?_
  refine at_off rfl rfl (decide_eq_true (by first | exact h445 | omega)) rfl ?_
  refine at_lt (lt_pick true rfl (decide_eq_true (by first | exact h445 | omega)) rfl) rfl ?_
  refine s_mv rfl (at_off rfl rfl rfl rfl (at_off rfl rfl rfl rfl (at_off rfl rfl rfl rfl (at_off rfl rfl rfl rfl (at_lt (lt_pick true rfl rfl rfl) rfl (s_nt (at_true rfl rfl (s_sr (s_as rfl ?_)))))))))
  refine s_nt (at_ret ?_)
  have hq := oinj hr
  clear hr
  subst hq
  refine at_then_ret ?_
  exact at_return (.bool false) [] hS Tryz.results37 (.cons (.tmp rfl) .nil) rfl rfl ⟨rfl, rfl⟩
 replace hr := ineg h445 hr
 refine at_on rfl rfl (decide_eq_false (by first | exact h445 | omega)) ?_
 refine at_lt (lt_fieldAddr 1 rfl fld24_1 rfl) rfl ?_
 refine at_on rfl rfl (decide_eq_false (by first | exact h445 | omega)) ?_
 refine at_lt (lt_load_box 0 rfl ti22 rfl rfl rfl rfl rfl) rfl ?_
 refine at_inv 1 rfl (fun i446 => ?_)
 have l447 := slice_len i446
 refine at_on rfl rfl (decide_eq_false (by first | exact h445 | omega)) ?_
 refine at_lt (lt_flen 1 rfl rfl und22) rfl ?_
 refine at_on rfl rfl (decide_eq_false (by first | exact h445 | omega)) ?_
 refine at_lt (lt_lss rfl rfl) rfl ?_
 refine at_lt (lt_pick false rfl (decide_eq_false (by first | exact h445 | omega)) rfl) rfl ?_
 refine s_mv rfl ?_
 by_cases h448 : a0.Fields.length < 1
 ·replace hr := ipos h448 hr
  refine at_off rfl rfl (decide_eq_true (by omega)) rfl ?_
  refine at_off rfl rfl (decide_eq_true (by omega)) rfl ?_
  refine at_off rfl rfl (decide_eq_true (by omega)) rfl ?_
  refine at_off rfl rfl (decide_eq_true (by omega)) rfl ?_
  refine at_lt (lt_pick true rfl (decide_eq_true (by omega)) rfl) rfl ?_
  refine s_nt (at_true rfl rfl (s_sr (s_as rfl (s_nt (at_ret ?_)))))
  have hq := oinj hr
  clear hr
  subst hq
  refine at_then_ret ?_
  exact at_return (.bool false) [] hS Tryz.results37 (.cons (.tmp rfl) .nil) rfl rfl ⟨rfl, rfl⟩
 replace hr := ineg h448 hr
 refine at_on rfl rfl (decide_eq_false (by omega)) ?_
 refine at_lt (lt_fieldAddr 1 rfl fld24_1 rfl) rfl ?_
 refine at_on rfl rfl (decide_eq_false (by omega)) ?_
 refine at_lt (lt_load_box 0 rfl ti22 rfl rfl rfl rfl rfl) rfl ?_
 refine at_on rfl rfl (decide_eq_false (by omega)) ?_
 refine at_lt (lt_flen 1 rfl rfl und22) rfl ?_
 refine at_on rfl rfl (decide_eq_false (by omega)) ?_
 refine at_lt (lt_gtr rfl rfl) rfl ?_
 refine at_lt (lt_pick false rfl (decide_eq_false (by omega)) rfl) rfl ?_
 refine s_nt ?_
 by_cases h449 : 60 < a0.Fields.length
 ·replace hr := ipos h449 hr
  refine at_true rfl (decide_eq_true (by omega)) ?_
  refine s_sr (s_as rfl (s_nt (at_ret ?_)))
  have hq := oinj hr
  clear hr
  subst hq
  refine at_then_ret ?_
  exact at_return (.bool false) [] hS Tryz.results37 (.cons (.tmp rfl) .nil) rfl rfl ⟨rfl, rfl⟩
 replace hr := ineg h449 hr
 refine at_false rfl (decide_eq_false (by omega)) ?_
 refine at_skip (s_tsr (at_lt (lt_fieldAddr 1 rfl fld24_1 rfl) rfl (at_lt (lt_load_box 0 rfl ti22 rfl rfl rfl rfl rfl) rfl ?_)))
 replace hr := obind hr
 obtain ⟨x450, h451, hr⟩ := hr
 refine at_fn 82 [] [3] (sp55 m82) en82 rfl (by rintro _ _ _ ⟨a0, r, s452, h, rfl, rfl, rfl⟩; exact f82_spec h) ?_
 refine at_hv rfl (hv_call0 [2, 0] (f81_spec h451) rfl rfl rfl rfl ?_)
 rintro _ _ ⟨rfl, rfl⟩
 refine at_lt (lt_not rfl) rfl (s_as rfl (s_nt (at_ret ?_)))
 have hq := oinj hr
 clear hr
 subst hq
 exact at_return (.bool (!x450)) [] hS Tryz.results37 (.cons (.tmp rfl) .nil) rfl rfl ⟨rfl, rfl⟩
def m106 (a0 : UInt8) : Option UInt8 :=
  if a0.toNat = 32 then
   some 95
  else
   some a0
def post106 (r : UInt8) (v : Value) (fs : List Fact) : Prop := v = .int .u8 (r.toNat : Int) ∧ fs = []
theorem en106 : Enters Tryz.prog 106 := ⟨_, Tryz.func106, by kernel_rfl, rfl⟩
theorem f106_spec {a0 : UInt8} {r : UInt8} (hr : m106 a0 = some r) : Spec Tryz.prog 106 [.int .u8 (a0.toNat : Int)] [] (post106 r) := by
 refine spec_start (N := 6) Tryz.func106 (by kernel_rfl) rfl rfl rfl ?_
 intro g hS
 unfold m106 at hr
 refine s_sr (s_as rfl (s_nt (at_seq (s_sr (s_mv rfl (at_lt (lt_eql rfl rfl) rfl (s_nt ?_)))))))
 by_cases h453 : a0.toNat = 32
 ·replace hr := ipos h453 hr
  refine at_true rfl (decide_eq_true (by omega)) ?_
  refine s_sr (s_as rfl (s_nt (at_ret ?_)))
  have hq := oinj hr
  clear hr
  subst hq
  refine at_then_ret ?_
  exact at_return (.int .u8 95) [] hS Tryz.results106 (.cons (.tmp rfl) .nil) rfl rfl ⟨rfl, rfl⟩
 replace hr := ineg h453 hr
 refine at_false rfl (decide_eq_false (by omega)) ?_
 refine at_skip (s_tsr (s_mv rfl (s_as rfl (s_nt (at_ret ?_)))))
 have hq := oinj hr
 clear hr
 subst hq
 exact at_return (.int .u8 (a0.toNat : Int)) [] hS Tryz.results106 (.cons (.tmp rfl) .nil) rfl rfl ⟨rfl, rfl⟩
end Go.WK.S
