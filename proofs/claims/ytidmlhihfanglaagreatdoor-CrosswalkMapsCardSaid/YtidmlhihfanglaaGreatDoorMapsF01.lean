
/- What functions of this program compute: a model of each, and the proof that it is kept. -/
import Derived.Test.YtidmlhihfanglaaGreatDoorMapsS
import Derived.KernelRfl
set_option linter.unusedSimpArgs false
set_option linter.unusedVariables false
namespace Go.WK.S
open Go Go.Proofs Go.WK Go.RowKit
set_option linter.unusedVariables false
set_option maxRecDepth 100000
set_option maxHeartbeats 4000000
def m91 (a0 : UInt8) : Option Bool :=
  if 48 ≤ a0.toNat then
   if a0.toNat ≤ 57 then
    some true
   else
    if 97 ≤ a0.toNat then
     some (decide ((a0.toNat : Int) ≤ 122))
    else
     some false
  else
   if 97 ≤ a0.toNat then
    some (decide ((a0.toNat : Int) ≤ 122))
   else
    some false
def post91 (r : Bool) (v : Value) (fs : List Fact) : Prop := v = .bool r ∧ fs = []
theorem en91 : Enters Tryz.prog 91 := ⟨_, Tryz.func91, by kernel_rfl, rfl⟩
theorem f91_spec {a0 : UInt8} {r : Bool} (hr : m91 a0 = some r) : Spec Tryz.prog 91 [.int .u8 (a0.toNat : Int)] [] (post91 r) := by
 refine spec_start (N := 17) Tryz.func91 (by kernel_rfl) rfl rfl rfl ?_
 intro g hS
 unfold m91 at hr
 refine s_sr (s_as rfl (s_ntsr (s_mv rfl (at_lt (lt_geq rfl rfl) rfl (s_mv rfl ?_)))))
 by_cases h1 : 48 ≤ a0.toNat
 ·replace hr := ipos h1 hr
  refine at_on rfl rfl (decide_eq_true (by omega)) ?_
  refine s_mv rfl ?_
  refine at_on rfl rfl (decide_eq_true (by omega)) ?_
  refine at_lt (lt_leq rfl rfl) rfl ?_
  refine at_lt (lt_pick true rfl (decide_eq_true (by omega)) rfl) rfl ?_
  refine s_mv rfl ?_
  by_cases h2 : a0.toNat ≤ 57
  ·replace hr := ipos h2 hr
   refine at_off rfl rfl (decide_eq_true (by omega)) rfl ?_
   refine at_off rfl rfl (decide_eq_true (by omega)) rfl ?_
   refine at_off rfl rfl (decide_eq_true (by omega)) rfl ?_
   refine at_offu rfl rfl rfl (at_offu rfl rfl rfl ?_)
   refine at_off rfl rfl (decide_eq_true (by omega)) rfl ?_
   refine at_lt (lt_pick true rfl (decide_eq_true (by omega)) rfl) rfl ?_
   refine s_as rfl (s_nt (at_ret ?_))
   have hq := oinj hr
   clear hr
   subst hq
   exact at_return (.bool true) [] hS Tryz.results91 (.cons (.tmp rfl) .nil) rfl rfl ⟨rfl, rfl⟩
  replace hr := ineg h2 hr
  refine at_on rfl rfl (decide_eq_false (by omega)) ?_
  refine s_mv rfl ?_
  refine at_on rfl rfl (decide_eq_false (by omega)) ?_
  refine at_lt (lt_geq rfl rfl) rfl ?_
  refine at_on rfl rfl (decide_eq_false (by omega)) ?_
  refine s_mv rfl ?_
  by_cases h3 : 97 ≤ a0.toNat
  ·replace hr := ipos h3 hr
   refine at_on rfl rfl (decide_eq_true (by omega)) ?_
   refine s_mv rfl ?_
   refine at_on rfl rfl (decide_eq_true (by omega)) ?_
   refine at_lt (lt_leq rfl rfl) rfl ?_
   refine at_on rfl rfl (decide_eq_false (by omega)) ?_
   refine at_lt (lt_pick true rfl (decide_eq_true (by omega)) rfl) rfl ?_
   refine at_lt (lt_pick false rfl (decide_eq_false (by omega)) rfl) rfl ?_
   refine s_as rfl (s_nt (at_ret ?_))
   have hq := oinj hr
   clear hr
   subst hq
   exact at_return (.bool (decide ((a0.toNat : Int) ≤ 122))) [] hS Tryz.results91 (.cons (.tmp rfl) .nil) rfl rfl ⟨rfl, rfl⟩
  replace hr := ineg h3 hr
  refine at_off rfl rfl (decide_eq_false (by omega)) rfl ?_
  refine at_off rfl rfl (decide_eq_false (by omega)) rfl ?_
  refine at_on rfl rfl (decide_eq_false (by omega)) ?_
  refine at_lt (lt_pick false rfl (decide_eq_false (by omega)) rfl) rfl ?_
  refine at_lt (lt_pick false rfl (decide_eq_false (by omega)) rfl) rfl ?_
  refine s_as rfl (s_nt (at_ret ?_))
  have hq := oinj hr
  clear hr
  subst hq
  exact at_return (.bool false) [] hS Tryz.results91 (.cons (.tmp rfl) .nil) rfl rfl ⟨rfl, rfl⟩
 replace hr := ineg h1 hr
 refine at_off rfl rfl (decide_eq_false (by omega)) rfl ?_
 refine at_off rfl rfl (decide_eq_false (by omega)) rfl ?_
 refine at_lt (lt_pick false rfl (decide_eq_false (by omega)) rfl) rfl ?_
 refine s_mv rfl (at_on rfl rfl rfl (s_mv rfl (at_on rfl rfl rfl (at_lt (lt_geq rfl rfl) rfl (at_on rfl rfl rfl (s_mv rfl ?_))))))
 by_cases h4 : 97 ≤ a0.toNat
 ·replace hr := ipos h4 hr
  refine at_on rfl rfl (decide_eq_true (by omega)) ?_
  refine s_mv rfl ?_
  refine at_on rfl rfl (decide_eq_true (by omega)) ?_
  refine at_lt (lt_leq rfl rfl) rfl (at_on rfl rfl rfl ?_)
  refine at_lt (lt_pick true rfl (decide_eq_true (by omega)) rfl) rfl ?_
  refine at_lt (lt_pick false rfl rfl rfl) rfl (s_as rfl (s_nt (at_ret ?_)))
  have hq := oinj hr
  clear hr
  subst hq
  exact at_return (.bool (decide ((a0.toNat : Int) ≤ 122))) [] hS Tryz.results91 (.cons (.tmp rfl) .nil) rfl rfl ⟨rfl, rfl⟩
 replace hr := ineg h4 hr
 refine at_off rfl rfl (decide_eq_false (by omega)) rfl ?_
 refine at_off rfl rfl (decide_eq_false (by omega)) rfl ?_
 refine at_on rfl rfl rfl ?_
 refine at_lt (lt_pick false rfl (decide_eq_false (by omega)) rfl) rfl ?_
 refine at_lt (lt_pick false rfl rfl rfl) rfl (s_as rfl (s_nt (at_ret ?_)))
 have hq := oinj hr
 clear hr
 subst hq
 exact at_return (.bool false) [] hS Tryz.results91 (.cons (.tmp rfl) .nil) rfl rfl ⟨rfl, rfl⟩
def m117 (a0 : UInt8) : Option Bool :=
  if 48 ≤ a0.toNat then
   some (decide ((a0.toNat : Int) ≤ 57))
  else
   some false
def post117 (r : Bool) (v : Value) (fs : List Fact) : Prop := v = .bool r ∧ fs = []
theorem en117 : Enters Tryz.prog 117 := ⟨_, Tryz.func117, by kernel_rfl, rfl⟩
theorem f117_spec {a0 : UInt8} {r : Bool} (hr : m117 a0 = some r) : Spec Tryz.prog 117 [.int .u8 (a0.toNat : Int)] [] (post117 r) := by
 refine spec_start (N := 9) Tryz.func117 (by kernel_rfl) rfl rfl rfl ?_
 intro g hS
 unfold m117 at hr
 refine s_sr (s_as rfl (s_ntsr (s_mv rfl (at_lt (lt_geq rfl rfl) rfl (s_mv rfl ?_)))))
 by_cases h5 : 48 ≤ a0.toNat
 ·replace hr := ipos h5 hr
  refine at_on rfl rfl (decide_eq_true (by omega)) ?_
  refine s_mv rfl ?_
  refine at_on rfl rfl (decide_eq_true (by omega)) ?_
  refine at_lt (lt_leq rfl rfl) rfl ?_
  refine at_lt (lt_pick true rfl (decide_eq_true (by omega)) rfl) rfl ?_
  refine s_as rfl (s_nt (at_ret ?_))
  have hq := oinj hr
  clear hr
  subst hq
  exact at_return (.bool (decide ((a0.toNat : Int) ≤ 57))) [] hS Tryz.results117 (.cons (.tmp rfl) .nil) rfl rfl ⟨rfl, rfl⟩
 replace hr := ineg h5 hr
 refine at_off rfl rfl (decide_eq_false (by omega)) rfl ?_
 refine at_off rfl rfl (decide_eq_false (by omega)) rfl ?_
 refine at_lt (lt_pick false rfl (decide_eq_false (by omega)) rfl) rfl ?_
 refine s_as rfl (s_nt (at_ret ?_))
 have hq := oinj hr
 clear hr
 subst hq
 exact at_return (.bool false) [] hS Tryz.results117 (.cons (.tmp rfl) .nil) rfl rfl ⟨rfl, rfl⟩
def m92 (a0 : Str) : Option Bool :=
  if a0.length = 3 then
   if a0 = ([48, 48, 48] : Str) then
    some false
   else
    (a0[0]?).bind fun c9 =>
    (m117 c9).bind fun x11 =>
    if x11 = true then
     (a0[1]?).bind fun c14 =>
     (m117 c14).bind fun x16 =>
     if x16 = true then
      (a0[2]?).bind fun c19 =>
      (m117 c19).bind fun x21 =>
      some x21
     else
      some false
    else
     some false
  else
   some false
def post92 (r : Bool) (v : Value) (fs : List Fact) : Prop := v = .bool r ∧ fs = []
theorem en92 : Enters Tryz.prog 92 := ⟨_, Tryz.func92, by kernel_rfl, rfl⟩
theorem f92_spec {a0 : Str} {r : Bool} (hr : m92 a0 = some r) : Spec Tryz.prog 92 [str a0] [(Ty.str.fact a0 [str a0])] (post92 r) := by
 refine spec_start (N := 25) Tryz.func92 (by kernel_rfl) rfl rfl rfl ?_
 intro g hS
 unfold m92 at hr
 refine s_sr (s_as rfl (s_ntsr (s_mv rfl ?_)))
 refine at_inv 0 rfl (fun l6 => ?_)
 replace l6 : a0.length ≤ 9223372036854775807 := l6
 refine at_lt (lt_slen rfl und9) rfl (at_lt (lt_eql rfl rfl) rfl (s_mv rfl ?_))
 by_cases h7 : a0.length = 3
 ·replace hr := ipos h7 hr
  refine at_on rfl rfl (decide_eq_true (by omega)) ?_
  refine s_mv rfl ?_
  refine at_on rfl rfl (decide_eq_true (by omega)) ?_
  refine at_lt (lt_sneq rfl rfl) rfl ?_
  refine at_lt (lt_pick true rfl (decide_eq_true (by omega)) rfl) rfl ?_
  refine s_mv rfl ?_
  by_cases h8 : a0 = ([48, 48, 48] : Str)
  ·replace hr := ipos h8 hr
   refine at_off rfl rfl (nt (decide_eq_true h8)) rfl (at_off rfl rfl (nt (decide_eq_true h8)) rfl (at_off rfl rfl (nt (decide_eq_true h8)) rfl (at_lt (lt_pick false rfl (nt (decide_eq_true h8)) rfl) rfl (s_mv rfl (at_off rfl rfl rfl rfl (at_off rfl rfl rfl rfl (at_off rfl rfl rfl rfl (at_lt (lt_pick false rfl rfl rfl) rfl (s_mv rfl ?_)))))))))
   refine at_off rfl rfl rfl rfl (at_off rfl rfl rfl rfl (at_off rfl rfl rfl rfl (at_lt (lt_pick false rfl rfl rfl) rfl (s_as rfl (s_nt (at_ret ?_))))))
   have hq := oinj hr
   clear hr
   subst hq
   exact at_return (.bool false) [] hS Tryz.results92 (.cons (.tmp rfl) .nil) rfl rfl ⟨rfl, rfl⟩
  replace hr := ineg h8 hr
  refine at_on rfl rfl (nf (decide_eq_false h8)) (s_mv rfl ?_)
  replace hr := obind hr
  obtain ⟨c9, h10, hr⟩ := hr
  have := (List.getElem?_eq_some_iff.1 h10).1
  have := c9.toNat_lt
  refine at_on rfl rfl (nf (decide_eq_false h8)) ?_
  refine at_lt (lt_sidx rfl rfl und9 (by omega) h10) rfl ?_
  replace hr := obind hr
  obtain ⟨x11, h12, hr⟩ := hr
  refine at_on rfl rfl (nf (decide_eq_false h8)) (at_hv rfl (hv_call0 [] (f117_spec h12) rfl rfl rfl rfl ?_))
  rintro _ _ ⟨rfl, rfl⟩
  refine at_lt (lt_pick true rfl (nf (decide_eq_false h8)) rfl) rfl (s_mv rfl ?_)
  by_cases h13 : x11 = true
  ·replace hr := ipos h13 hr
   refine at_on rfl rfl h13 (s_mv rfl ?_)
   replace hr := obind hr
   obtain ⟨c14, h15, hr⟩ := hr
   have := (List.getElem?_eq_some_iff.1 h15).1
   have := c14.toNat_lt
   refine at_on rfl rfl h13 ?_
   refine at_lt (lt_sidx rfl rfl und9 (by omega) h15) rfl ?_
   replace hr := obind hr
   obtain ⟨x16, h17, hr⟩ := hr
   refine at_on rfl rfl h13 (at_hv rfl (hv_call0 [] (f117_spec h17) rfl rfl rfl rfl ?_))
   rintro _ _ ⟨rfl, rfl⟩
   refine at_lt (lt_pick true rfl h13 rfl) rfl (s_mv rfl ?_)
   by_cases h18 : x16 = true
   ·replace hr := ipos h18 hr
    refine at_on rfl rfl h18 (s_mv rfl ?_)
    replace hr := obind hr
    obtain ⟨c19, h20, hr⟩ := hr
    have := (List.getElem?_eq_some_iff.1 h20).1
    have := c19.toNat_lt
    refine at_on rfl rfl h18 ?_
    refine at_lt (lt_sidx rfl rfl und9 (by omega) h20) rfl ?_
    replace hr := obind hr
    obtain ⟨x21, h22, hr⟩ := hr
    refine at_on rfl rfl h18 (at_hv rfl (hv_call0 [] (f117_spec h22) rfl rfl rfl rfl ?_))
    rintro _ _ ⟨rfl, rfl⟩
    refine at_lt (lt_pick true rfl h18 rfl) rfl (s_as rfl (s_nt (at_ret ?_)))
    have hq := oinj hr
    clear hr
    subst hq
    exact at_return (.bool x21) [] hS Tryz.results92 (.cons (.tmp rfl) .nil) rfl rfl ⟨rfl, rfl⟩
   replace hr := ineg h18 hr
   refine at_off rfl rfl (bf h18) rfl (at_off rfl rfl (bf h18) rfl (at_off rfl rfl (bf h18) rfl (at_lt (lt_pick false rfl (bf h18) rfl) rfl (s_as rfl (s_nt (at_ret ?_))))))
   have hq := oinj hr
   clear hr
   subst hq
   exact at_return (.bool false) [] hS Tryz.results92 (.cons (.tmp rfl) .nil) rfl rfl ⟨rfl, rfl⟩
  replace hr := ineg h13 hr
  refine at_off rfl rfl (bf h13) rfl (at_off rfl rfl (bf h13) rfl (at_off rfl rfl (bf h13) rfl (at_lt (lt_pick false rfl (bf h13) rfl) rfl (s_mv rfl (at_off rfl rfl rfl rfl (at_off rfl rfl rfl rfl (at_off rfl rfl rfl rfl (at_lt (lt_pick false rfl rfl rfl) rfl (s_as rfl ?_)))))))))
  refine s_nt (at_ret ?_)
  have hq := oinj hr
  clear hr
  subst hq
  exact at_return (.bool false) [] hS Tryz.results92 (.cons (.tmp rfl) .nil) rfl rfl ⟨rfl, rfl⟩
 replace hr := ineg h7 hr
 refine at_off rfl rfl (decide_eq_false (by omega)) rfl ?_
 refine at_off rfl rfl (decide_eq_false (by omega)) rfl ?_
 refine at_lt (lt_pick false rfl (decide_eq_false (by omega)) rfl) rfl ?_
 refine s_mv rfl (at_off rfl rfl rfl rfl (at_off rfl rfl rfl rfl (at_off rfl rfl rfl rfl (at_lt (lt_pick false rfl rfl rfl) rfl (s_mv rfl (at_off rfl rfl rfl rfl (at_off rfl rfl rfl rfl (at_off rfl rfl rfl rfl (at_lt (lt_pick false rfl rfl rfl) rfl ?_)))))))))
 refine s_mv rfl (at_off rfl rfl rfl rfl (at_off rfl rfl rfl rfl (at_off rfl rfl rfl rfl (at_lt (lt_pick false rfl rfl rfl) rfl (s_as rfl (s_nt (at_ret ?_)))))))
 have hq := oinj hr
 clear hr
 subst hq
 exact at_return (.bool false) [] hS Tryz.results92 (.cons (.tmp rfl) .nil) rfl rfl ⟨rfl, rfl⟩
def m57_l1 (a0 : D_crosswalk_Entry) : Nat → Nat → Option (Fl Bool Unit)
  | 0, _ => none
  | k + 1, x27 =>
    if x27 < a0.Codes.length then
     (a0.Codes[x27]?).bind fun x32 =>
     (m91 x32.From).bind fun x37 =>
     if x37 = true then
      (m91 x32.To).bind fun x40 =>
      if x40 = true then
       if 0 < x27 then
        (at? a0.Codes ((x27 : Int) - 1)).bind fun x44 =>
        if x32.From.toNat ≤ x44.From.toNat then
         some (Fl.ret false)
        else
         m57_l1 a0 k (x27 + 1)
       else
        m57_l1 a0 k (x27 + 1)
      else
       some (Fl.ret false)
     else
      some (Fl.ret false)
    else
     some (Fl.go ())
def m57 (a0 : D_crosswalk_Entry) : Option Bool :=
  (m57_l1 a0 (a0.Codes.length + 1) 0).bind fun r => match r with
  | .ret x => some x
  | .go _ =>
   (m92 a0.From).bind fun x49 =>
   if x49 = true then
    (m92 a0.To).bind fun x52 =>
    if x52 = true then
     some (decide ((0 : Int) < (a0.Codes.length : Int)))
    else
     some false
   else
    some false
def post57 (r : Bool) (v : Value) (fs : List Fact) : Prop := v = .bool r ∧ fs = []
theorem en57 : Enters Tryz.prog 57 := ⟨_, Tryz.func57, by kernel_rfl, rfl⟩
theorem f57_spec {a0 : D_crosswalk_Entry} {s23 : Value} {r : Bool} (hr : m57 a0 = some r) : Spec Tryz.prog 57 [.agg #[str a0.From, str a0.To, s23]] [(ty76.fact a0 [str a0.From, str a0.To, s23])] (post57 r) := by
 refine spec_start (N := 54) Tryz.func57 (by kernel_rfl) rfl rfl rfl ?_
 intro g hS
 unfold m57 at hr
 refine at_open (A := Unit) 0 rfl (fun _ => True) (fun _ => [(Ty.str.fact a0.From [str a0.From]), (Ty.str.fact a0.To [str a0.To]), ((Ty.slice ty82).fact a0.Codes [s23])]) (fun F w h => ⟨(), trivial, ex76 h⟩) (fun _ _ => ?_)
 refine s_sr (at_hv rfl ?_)
 refine hv_box (cs := [str a0.From, str a0.To, s23]) rfl rfl rfl (fun b24 => ?_)
 refine s_as rfl (s_nt (at_seq (s_sr (at_lt (lt_fieldAddr 2 rfl fld76_2 rfl) rfl (at_lt (lt_load_box 0 rfl ti74 rfl rfl rfl rfl rfl) rfl ?_)))))
 refine at_inv 2 rfl (fun i25 => ?_)
 have l26 := slice_len i25
 refine at_lt (lt_flen 2 rfl rfl und74) rfl (s_mv rfl (s_nt (at_int .i64 0 (by simp only [lo, hi]; omega) ?_)))
 replace hr := obind hr
 obtain ⟨r28, hl29, hk30⟩ := hr
 refine at_cutP (V := (Unit) × (Unit)) (fun v => r28 = Fl.go v.1) (fun v => (⟨[(1, .pointer (some (Addr.add ⟨b24, 0, none⟩ 0)))], [⟨b24, [str a0.From, str a0.To, s23], 76⟩], [], [(Ty.str.fact a0.From [str a0.From]), (Ty.str.fact a0.To [str a0.To]), ((Ty.slice ty82).fact a0.Codes [s23])]⟩ : St)) ?_ ?_
 ·refine at_block ?_
  refine at_loopW (σ := Nat) (V := Unit) (r := r28) (fun n s => m57_l1 a0 n s) (fun s e => (⟨[(1, .pointer (some (Addr.add ⟨b24, 0, none⟩ 0))), (6, s23), (7, .int .i64 (a0.Codes.length : Int)), (8, .int .i64 (s : Int))], [⟨b24, [str a0.From, str a0.To, s23], 76⟩], [], [((Ty.int .i64).fact (s : Int) [.int .i64 (s : Int)]), ((Ty.slice ty82).fact a0.Codes [s23]), (Ty.str.fact a0.From [str a0.From]), (Ty.str.fact a0.To [str a0.To])]⟩ : St)) (fun _ => rfl) _ 0 () hl29 ⟨⟨rfl, ⟨rfl, ⟨rfl, ⟨rfl, trivial⟩⟩⟩⟩, ⟨[true], rfl⟩, ⟨[], rfl⟩, ⟨[0, 3, 1, 2], rfl⟩⟩ ?_
  clear hl29
  intro n x27 hr e
  skip
  skip
  change m57_l1 a0 (n + 1) x27 = some r28 at hr
  change At _ _ (⟨[(1, .pointer (some (Addr.add ⟨b24, 0, none⟩ 0))), (6, s23), (7, .int .i64 (a0.Codes.length : Int)), (8, .int .i64 (x27 : Int))], [⟨b24, [str a0.From, str a0.To, s23], 76⟩], [], [((Ty.int .i64).fact (x27 : Int) [.int .i64 (x27 : Int)]), ((Ty.slice ty82).fact a0.Codes [s23]), (Ty.str.fact a0.From [str a0.From]), (Ty.str.fact a0.To [str a0.To])]⟩ : St) _
  rw [m57_l1] at hr
  refine s_sr (at_lt (lt_lss rfl rfl) rfl (s_nt (at_seq ?_)))
  by_cases h31 : x27 < a0.Codes.length
  ·replace hr := ipos h31 hr
   refine at_true rfl (decide_eq_true (by omega)) ?_
   refine at_skip (at_then (at_seq (at_block (s_sr (s_mv rfl ?_)))))
   replace hr := obind hr
   obtain ⟨x32, h33, hr⟩ := hr
   have := (List.getElem?_eq_some_iff.1 h33).1
   refine at_elem 1 rfl (nat_at' h33) (fun p34 ec pa35 => ?_)
   refine at_open (A := Unit) 0 rfl _ _ (fun F w h => op82 h) ?_
   rintro _ rfl
   refine at_lt (lt_idx rfl rfl pa35 und74 ti82) rfl (at_lt (lt_load_peek 1 rfl ti82 rfl rfl rfl rfl rfl) rfl (at_hv rfl ?_))
   refine hv_alloc (cs := [.int .u8 0, .int .u8 0]) ti82 rfl rfl (fun b36 => ?_)
   refine s_as rfl (at_hv rfl (hv_store_box 0 (cs' := [.int .u8 (x32.From.toNat : Int), .int .u8 (x32.To.toNat : Int)]) rfl rfl ti82 rfl rfl rfl rfl rfl (s_nt (at_seq ?_))))
   replace hr := obind hr
   obtain ⟨x37, h38, hr⟩ := hr
   by_cases h39 : x37 = true
   ·replace hr := ipos h39 hr
    replace hr := obind hr
    obtain ⟨x40, h41, hr⟩ := hr
    by_cases h42 : x40 = true
    ·replace hr := ipos h42 hr
     by_cases h43 : 0 < x27
     ·replace hr := ipos h43 hr
      replace hr := obind hr
      obtain ⟨x44, h45, hr⟩ := hr
      have := at?_lt h45
      refine at_elem 3 rfl h45 (fun p46 ec pa47 => ?_)
      refine at_open (A := Unit) 0 rfl _ _ (fun F w h => op82 h) ?_
      rintro _ rfl
      refine aa_start 26 (by kernel_rfl) ?_
      refine aa_p 0 rfl (lt_fieldAddr 0 rfl fld82_0 rfl) (aa_l 1 rfl (lt_load_box 0 rfl ti5 rfl rfl rfl rfl rfl) (aa_one 2 (aa_op rfl rfl (hv_call0 [] (f91_spec h38) rfl rfl rfl rfl ?_))))
      rintro _ _ ⟨rfl, rfl⟩
      refine aa_p 3 rfl (lt_not rfl) (aa_p 4 rfl (lt_move rfl) ?_)
      refine aa_pg 5 rfl ⟨17, rfl, .inl ⟨_, rfl, gdq (v := false) (nt h39) rfl⟩⟩ (lt_fieldAddr 1 rfl fld82_1 rfl) ?_
      refine aa_lg 6 rfl ⟨17, rfl, .inl ⟨_, rfl, gdq (v := false) (nt h39) rfl⟩⟩ (lt_load_box 0 rfl ti5 rfl rfl rfl rfl rfl) ?_
      refine aa_one 7 ?_
      refine aa_op rfl ⟨17, rfl, .inl ⟨_, rfl, gdq (v := false) (nt h39) rfl⟩⟩ ?_
      refine hv_call0 [] (f91_spec h41) rfl rfl rfl rfl ?_
      rintro _ _ ⟨rfl, rfl⟩
      refine aa_pg 8 rfl ⟨17, rfl, .inl ⟨_, rfl, gdq (v := false) (nt h39) rfl⟩⟩ (lt_not rfl) ?_
      refine aa_p 9 rfl (lt_pick false rfl (nt h39) rfl) (aa_p 10 rfl (lt_move rfl) ?_)
      refine aa_pg 11 rfl ⟨23, rfl, .inl ⟨_, rfl, gdq (v := false) (nt h42) rfl⟩⟩ (lt_move rfl) ?_
      refine aa_pg 12 rfl ⟨23, rfl, .inl ⟨_, rfl, gdq (v := false) (nt h42) rfl⟩⟩ (lt_gtr rfl rfl) ?_
      refine aa_pg 13 rfl ⟨23, rfl, .inl ⟨_, rfl, gdq (v := false) (nt h42) rfl⟩⟩ (lt_move rfl) ?_
      refine aa_pg 14 rfl ⟨26, rfl, .inl ⟨_, rfl, gdq (v := true) (decide_eq_true (by omega)) rfl⟩⟩ (lt_fieldAddr 2 rfl fld76_2 rfl) ?_
      refine aa_lg 15 rfl ⟨26, rfl, .inl ⟨_, rfl, gdq (v := true) (decide_eq_true (by omega)) rfl⟩⟩ (lt_load_box 1 rfl ti74 rfl rfl rfl rfl rfl) ?_
      refine aa_pg 16 rfl ⟨26, rfl, .inl ⟨_, rfl, gdq (v := true) (decide_eq_true (by omega)) rfl⟩⟩ (lt_move rfl) ?_
      refine aa_pg 17 rfl ⟨26, rfl, .inl ⟨_, rfl, gdq (v := true) (decide_eq_true (by omega)) rfl⟩⟩ (lt_sub rfl rfl (by simp only [lo, hi]; omega)) ?_
      refine aa_pg 18 rfl ⟨26, rfl, .inl ⟨_, rfl, gdq (v := true) (decide_eq_true (by omega)) rfl⟩⟩ (lt_idx rfl rfl pa47 und74 ti82) ?_
      refine aa_pg 19 rfl ⟨26, rfl, .inl ⟨_, rfl, gdq (v := true) (decide_eq_true (by omega)) rfl⟩⟩ (lt_fieldAddr 0 rfl fld82_0 rfl) ?_
      refine aa_lg 20 rfl ⟨26, rfl, .inl ⟨_, rfl, gdq (v := true) (decide_eq_true (by omega)) rfl⟩⟩ (lt_load_peek 1 rfl ti5 rfl rfl rfl rfl rfl) ?_
      refine aa_pg 21 rfl ⟨26, rfl, .inl ⟨_, rfl, gdq (v := true) (decide_eq_true (by omega)) rfl⟩⟩ (lt_fieldAddr 0 rfl fld82_0 rfl) ?_
      refine aa_lg 22 rfl ⟨26, rfl, .inl ⟨_, rfl, gdq (v := true) (decide_eq_true (by omega)) rfl⟩⟩ (lt_load_box 0 rfl ti5 rfl rfl rfl rfl rfl) ?_
      refine aa_pg 23 rfl ⟨26, rfl, .inl ⟨_, rfl, gdq (v := true) (decide_eq_true (by omega)) rfl⟩⟩ (lt_geq rfl rfl) ?_
      refine aa_pg 24 rfl ⟨23, rfl, .inl ⟨_, rfl, gdq (v := false) (nt h42) rfl⟩⟩ (lt_pick true rfl (decide_eq_true (by omega)) rfl) ?_
      refine aa_p 25 rfl (lt_pick false rfl (nt h42) rfl) ?_
      refine aa_done (by kernel_rfl) (ts_in 0 0 rfl rfl) ?_
      refine at_then ?_
      by_cases h48 : x32.From.toNat ≤ x44.From.toNat
      ·replace hr := ipos h48 hr
       refine at_true rfl (decide_eq_true (by omega)) ?_
       refine s_sr (s_as rfl (s_nt (at_ret ?_)))
       have hq := oinj hr
       clear hr
       subst hq
       have hq := oinj hk30
       clear hk30
       subst hq
       refine at_in_ret (at_then_ret (at_then_ret (at_in_ret (at_then_ret (at_then_ret ?_)))))
       exact at_return (.bool false) [] hS Tryz.results57 (.cons (.tmp rfl) .nil) rfl rfl ⟨rfl, rfl⟩
      replace hr := ineg h48 hr
      refine at_false rfl (decide_eq_false (by omega)) ?_
      refine at_skip (at_in (s_tr (at_lt (lt_add rfl rfl (by simp only [lo, hi]; omega)) rfl (s_mv rfl (at_nil (at_int .i64 (x27 + 1 : Int) (by simp only [lo, hi]; omega) ?_))))))
      exact at_again (σ := Nat) (V := Unit) (lp := fun n s => m57_l1 a0 n s) (S := fun s e => (⟨[(1, .pointer (some (Addr.add ⟨b24, 0, none⟩ 0))), (6, s23), (7, .int .i64 (a0.Codes.length : Int)), (8, .int .i64 (s : Int))], [⟨b24, [str a0.From, str a0.To, s23], 76⟩], [], [((Ty.int .i64).fact (s : Int) [.int .i64 (s : Int)]), ((Ty.slice ty82).fact a0.Codes [s23]), (Ty.str.fact a0.From [str a0.From]), (Ty.str.fact a0.To [str a0.To])]⟩ : St)) (x27 + 1) () hr ⟨⟨rfl, ⟨rfl, ⟨rfl, ⟨rfl, trivial⟩⟩⟩⟩, ⟨[false, true], rfl⟩, ⟨[], rfl⟩, ⟨[0, 6, 7, 8], rfl⟩⟩
     replace hr := ineg h43 hr
     refine aa_start 26 (by kernel_rfl) ?_
     refine aa_p 0 rfl (lt_fieldAddr 0 rfl fld82_0 rfl) (aa_l 1 rfl (lt_load_box 0 rfl ti5 rfl rfl rfl rfl rfl) (aa_one 2 (aa_op rfl rfl (hv_call0 [] (f91_spec h38) rfl rfl rfl rfl ?_))))
     rintro _ _ ⟨rfl, rfl⟩
     refine aa_p 3 rfl (lt_not rfl) (aa_p 4 rfl (lt_move rfl) ?_)
     refine aa_pg 5 rfl ⟨17, rfl, .inl ⟨_, rfl, gdq (v := false) (nt h39) rfl⟩⟩ (lt_fieldAddr 1 rfl fld82_1 rfl) ?_
     refine aa_lg 6 rfl ⟨17, rfl, .inl ⟨_, rfl, gdq (v := false) (nt h39) rfl⟩⟩ (lt_load_box 0 rfl ti5 rfl rfl rfl rfl rfl) ?_
     refine aa_one 7 ?_
     refine aa_op rfl ⟨17, rfl, .inl ⟨_, rfl, gdq (v := false) (nt h39) rfl⟩⟩ ?_
     refine hv_call0 [] (f91_spec h41) rfl rfl rfl rfl ?_
     rintro _ _ ⟨rfl, rfl⟩
     refine aa_pg 8 rfl ⟨17, rfl, .inl ⟨_, rfl, gdq (v := false) (nt h39) rfl⟩⟩ (lt_not rfl) ?_
     refine aa_p 9 rfl (lt_pick false rfl (nt h39) rfl) (aa_p 10 rfl (lt_move rfl) ?_)
     refine aa_pg 11 rfl ⟨23, rfl, .inl ⟨_, rfl, gdq (v := false) (nt h42) rfl⟩⟩ (lt_move rfl) ?_
     refine aa_pg 12 rfl ⟨23, rfl, .inl ⟨_, rfl, gdq (v := false) (nt h42) rfl⟩⟩ (lt_gtr rfl rfl) ?_
     refine aa_pg 13 rfl ⟨23, rfl, .inl ⟨_, rfl, gdq (v := false) (nt h42) rfl⟩⟩ (lt_move rfl) ?_
     refine aa_o 14 rfl ⟨26, rfl, .inl ⟨_, rfl, gdq (v := false) (decide_eq_false (by omega)) rfl⟩⟩ ?_
     refine aa_o 15 rfl ⟨26, rfl, .inl ⟨_, rfl, gdq (v := false) (decide_eq_false (by omega)) rfl⟩⟩ ?_
     refine aa_o 16 rfl ⟨26, rfl, .inl ⟨_, rfl, gdq (v := false) (decide_eq_false (by omega)) rfl⟩⟩ ?_
     refine aa_o 17 rfl ⟨26, rfl, .inl ⟨_, rfl, gdq (v := false) (decide_eq_false (by omega)) rfl⟩⟩ ?_
     refine aa_o 18 rfl ⟨26, rfl, .inl ⟨_, rfl, gdq (v := false) (decide_eq_false (by omega)) rfl⟩⟩ ?_
     refine aa_o 19 rfl ⟨26, rfl, .inl ⟨_, rfl, gdq (v := false) (decide_eq_false (by omega)) rfl⟩⟩ ?_
     refine aa_o 20 rfl ⟨26, rfl, .inl ⟨_, rfl, gdq (v := false) (decide_eq_false (by omega)) rfl⟩⟩ ?_
     refine aa_o 21 rfl ⟨26, rfl, .inl ⟨_, rfl, gdq (v := false) (decide_eq_false (by omega)) rfl⟩⟩ ?_
     refine aa_o 22 rfl ⟨26, rfl, .inl ⟨_, rfl, gdq (v := false) (decide_eq_false (by omega)) rfl⟩⟩ ?_
     refine aa_o 23 rfl ⟨26, rfl, .inl ⟨_, rfl, gdq (v := false) (decide_eq_false (by omega)) rfl⟩⟩ ?_
     refine aa_pg 24 rfl ⟨23, rfl, .inl ⟨_, rfl, gdq (v := false) (nt h42) rfl⟩⟩ (lt_pick false rfl (decide_eq_false (by omega)) rfl) ?_
     refine aa_p 25 rfl (lt_pick false rfl (nt h42) rfl) ?_
     refine aa_done (by kernel_rfl) (ts_in 0 0 rfl rfl) ?_
     refine at_then (at_false rfl rfl (at_skip (at_in (s_tr (at_lt (lt_add rfl rfl (by simp only [lo, hi]; omega)) rfl (s_mv rfl (at_nil (at_int .i64 (x27 + 1 : Int) (by simp only [lo, hi]; omega) ?_))))))))
     exact at_again (σ := Nat) (V := Unit) (lp := fun n s => m57_l1 a0 n s) (S := fun s e => (⟨[(1, .pointer (some (Addr.add ⟨b24, 0, none⟩ 0))), (6, s23), (7, .int .i64 (a0.Codes.length : Int)), (8, .int .i64 (s : Int))], [⟨b24, [str a0.From, str a0.To, s23], 76⟩], [], [((Ty.int .i64).fact (s : Int) [.int .i64 (s : Int)]), ((Ty.slice ty82).fact a0.Codes [s23]), (Ty.str.fact a0.From [str a0.From]), (Ty.str.fact a0.To [str a0.To])]⟩ : St)) (x27 + 1) () hr ⟨⟨rfl, ⟨rfl, ⟨rfl, ⟨rfl, trivial⟩⟩⟩⟩, ⟨[false, true], rfl⟩, ⟨[], rfl⟩, ⟨[0, 4, 5, 6], rfl⟩⟩
    replace hr := ineg h42 hr
    refine aa_start 26 (by kernel_rfl) ?_
    refine aa_p 0 rfl (lt_fieldAddr 0 rfl fld82_0 rfl) (aa_l 1 rfl (lt_load_box 0 rfl ti5 rfl rfl rfl rfl rfl) (aa_one 2 (aa_op rfl rfl (hv_call0 [] (f91_spec h38) rfl rfl rfl rfl ?_))))
    rintro _ _ ⟨rfl, rfl⟩
    refine aa_p 3 rfl (lt_not rfl) (aa_p 4 rfl (lt_move rfl) ?_)
    refine aa_pg 5 rfl ⟨17, rfl, .inl ⟨_, rfl, gdq (v := false) (nt h39) rfl⟩⟩ (lt_fieldAddr 1 rfl fld82_1 rfl) ?_
    refine aa_lg 6 rfl ⟨17, rfl, .inl ⟨_, rfl, gdq (v := false) (nt h39) rfl⟩⟩ (lt_load_box 0 rfl ti5 rfl rfl rfl rfl rfl) ?_
    refine aa_one 7 ?_
    refine aa_op rfl ⟨17, rfl, .inl ⟨_, rfl, gdq (v := false) (nt h39) rfl⟩⟩ ?_
    refine hv_call0 [] (f91_spec h41) rfl rfl rfl rfl ?_
    rintro _ _ ⟨rfl, rfl⟩
    refine aa_pg 8 rfl ⟨17, rfl, .inl ⟨_, rfl, gdq (v := false) (nt h39) rfl⟩⟩ (lt_not rfl) ?_
    refine aa_p 9 rfl (lt_pick false rfl (nt h39) rfl) (aa_p 10 rfl (lt_move rfl) ?_)
    refine aa_o 11 rfl ⟨23, rfl, .inl ⟨_, rfl, gdq (v := true) (nf (bf h42)) rfl⟩⟩ ?_
    refine aa_o 12 rfl ⟨23, rfl, .inl ⟨_, rfl, gdq (v := true) (nf (bf h42)) rfl⟩⟩ ?_
    refine aa_o 13 rfl ⟨23, rfl, .inl ⟨_, rfl, gdq (v := true) (nf (bf h42)) rfl⟩⟩ ?_
    refine aa_o 14 rfl ⟨26, rfl, .inr ⟨rfl, rfl⟩⟩ ?_
    refine aa_o 15 rfl ⟨26, rfl, .inr ⟨rfl, rfl⟩⟩ ?_
    refine aa_o 16 rfl ⟨26, rfl, .inr ⟨rfl, rfl⟩⟩ ?_
    refine aa_o 17 rfl ⟨26, rfl, .inr ⟨rfl, rfl⟩⟩ ?_
    refine aa_o 18 rfl ⟨26, rfl, .inr ⟨rfl, rfl⟩⟩ ?_
    refine aa_o 19 rfl ⟨26, rfl, .inr ⟨rfl, rfl⟩⟩ ?_
    refine aa_o 20 rfl ⟨26, rfl, .inr ⟨rfl, rfl⟩⟩ ?_
    refine aa_o 21 rfl ⟨26, rfl, .inr ⟨rfl, rfl⟩⟩ ?_
    refine aa_o 22 rfl ⟨26, rfl, .inr ⟨rfl, rfl⟩⟩ ?_
    refine aa_o 23 rfl ⟨26, rfl, .inr ⟨rfl, rfl⟩⟩ ?_
    refine aa_o 24 rfl ⟨23, rfl, .inl ⟨_, rfl, gdq (v := true) (nf (bf h42)) rfl⟩⟩ ?_
    refine aa_p 25 rfl (lt_pick true rfl (nf (bf h42)) rfl) ?_
    refine aa_done (by kernel_rfl) (ts_in 0 0 rfl rfl) ?_
    refine at_then (at_true rfl rfl (s_sr (s_as rfl (s_nt (at_ret ?_)))))
    have hq := oinj hr
    clear hr
    subst hq
    have hq := oinj hk30
    clear hk30
    subst hq
    refine at_in_ret (at_then_ret (at_then_ret (at_in_ret (at_then_ret (at_then_ret ?_)))))
    exact at_return (.bool false) [] hS Tryz.results57 (.cons (.tmp rfl) .nil) rfl rfl ⟨rfl, rfl⟩
   replace hr := ineg h39 hr
   refine aa_start 26 (by kernel_rfl) ?_
   refine aa_p 0 rfl (lt_fieldAddr 0 rfl fld82_0 rfl) (aa_l 1 rfl (lt_load_box 0 rfl ti5 rfl rfl rfl rfl rfl) (aa_one 2 (aa_op rfl rfl (hv_call0 [] (f91_spec h38) rfl rfl rfl rfl ?_))))
   rintro _ _ ⟨rfl, rfl⟩
   refine aa_p 3 rfl (lt_not rfl) (aa_p 4 rfl (lt_move rfl) ?_)
   refine aa_o 5 rfl ⟨17, rfl, .inl ⟨_, rfl, gdq (v := true) (nf (bf h39)) rfl⟩⟩ ?_
   refine aa_o 6 rfl ⟨17, rfl, .inl ⟨_, rfl, gdq (v := true) (nf (bf h39)) rfl⟩⟩ ?_
   refine aa_o 7 rfl ⟨17, rfl, .inl ⟨_, rfl, gdq (v := true) (nf (bf h39)) rfl⟩⟩ ?_
   refine aa_o 8 rfl ⟨17, rfl, .inl ⟨_, rfl, gdq (v := true) (nf (bf h39)) rfl⟩⟩ ?_
   refine aa_p 9 rfl (lt_pick true rfl (nf (bf h39)) rfl) (aa_p 10 rfl (lt_move rfl) ?_)
   refine aa_o 11 rfl ⟨23, rfl, .inl ⟨_, rfl, gdq (v := true) rfl rfl⟩⟩ ?_
   refine aa_o 12 rfl ⟨23, rfl, .inl ⟨_, rfl, gdq (v := true) rfl rfl⟩⟩ ?_
   refine aa_o 13 rfl ⟨23, rfl, .inl ⟨_, rfl, gdq (v := true) rfl rfl⟩⟩ ?_
   refine aa_o 14 rfl ⟨26, rfl, .inr ⟨rfl, rfl⟩⟩ ?_
   refine aa_o 15 rfl ⟨26, rfl, .inr ⟨rfl, rfl⟩⟩ ?_
   refine aa_o 16 rfl ⟨26, rfl, .inr ⟨rfl, rfl⟩⟩ ?_
   refine aa_o 17 rfl ⟨26, rfl, .inr ⟨rfl, rfl⟩⟩ ?_
   refine aa_o 18 rfl ⟨26, rfl, .inr ⟨rfl, rfl⟩⟩ ?_
   refine aa_o 19 rfl ⟨26, rfl, .inr ⟨rfl, rfl⟩⟩ ?_
   refine aa_o 20 rfl ⟨26, rfl, .inr ⟨rfl, rfl⟩⟩ ?_
   refine aa_o 21 rfl ⟨26, rfl, .inr ⟨rfl, rfl⟩⟩ ?_
   refine aa_o 22 rfl ⟨26, rfl, .inr ⟨rfl, rfl⟩⟩ ?_
   refine aa_o 23 rfl ⟨26, rfl, .inr ⟨rfl, rfl⟩⟩ ?_
   refine aa_o 24 rfl ⟨23, rfl, .inl ⟨_, rfl, gdq (v := true) rfl rfl⟩⟩ ?_
   refine aa_p 25 rfl (lt_pick true rfl rfl rfl) ?_
   refine aa_done (by kernel_rfl) (ts_in 0 0 rfl rfl) ?_
   refine at_then (at_true rfl rfl (s_sr (s_as rfl (s_nt (at_ret ?_)))))
   have hq := oinj hr
   clear hr
   subst hq
   have hq := oinj hk30
   clear hk30
   subst hq
   refine at_in_ret (at_then_ret (at_then_ret (at_in_ret (at_then_ret (at_then_ret ?_)))))
   exact at_return (.bool false) [] hS Tryz.results57 (.cons (.tmp rfl) .nil) rfl rfl ⟨rfl, rfl⟩
  replace hr := ineg h31 hr
  refine at_false rfl (decide_eq_false (by omega)) ?_
  refine at_exit (at_then_exit (at_then_exit (at_in_exit ?_)))
  have hq := oinj hr
  clear hr
  subst hq
  exact at_leafP ((), ()) rfl ⟨⟨rfl, trivial⟩, ⟨[true], rfl⟩, ⟨[], rfl⟩, ⟨[2, 3, 1], rfl⟩⟩
 rintro ⟨_, _⟩ hp
 replace hr := hk30
 subst hp
 clear hl29
 change At _ _ (⟨[(1, .pointer (some (Addr.add ⟨b24, 0, none⟩ 0)))], [⟨b24, [str a0.From, str a0.To, s23], 76⟩], [], [(Ty.str.fact a0.From [str a0.From]), (Ty.str.fact a0.To [str a0.To]), ((Ty.slice ty82).fact a0.Codes [s23])]⟩ : St) _
 refine s_tsr (at_lt (lt_fieldAddr 0 rfl fld76_0 rfl) rfl (at_lt (lt_load_box 0 rfl ti9 rfl rfl rfl rfl rfl) rfl ?_))
 replace hr := obind hr
 obtain ⟨x49, h50, hr⟩ := hr
 refine at_hv rfl (hv_call0 [0] (f92_spec h50) rfl rfl rfl rfl ?_)
 rintro _ _ ⟨rfl, rfl⟩
 refine s_mv rfl ?_
 by_cases h51 : x49 = true
 ·replace hr := ipos h51 hr
  refine at_on rfl rfl h51 (at_lt (lt_fieldAddr 1 rfl fld76_1 rfl) rfl (at_on rfl rfl h51 (at_lt (lt_load_box 0 rfl ti9 rfl rfl rfl rfl rfl) rfl ?_)))
  replace hr := obind hr
  obtain ⟨x52, h53, hr⟩ := hr
  refine at_on rfl rfl h51 (at_hv rfl (hv_call0 [1] (f92_spec h53) rfl rfl rfl rfl ?_))
  rintro _ _ ⟨rfl, rfl⟩
  refine at_lt (lt_pick true rfl h51 rfl) rfl (s_mv rfl ?_)
  by_cases h54 : x52 = true
  ·replace hr := ipos h54 hr
   refine at_on rfl rfl h54 (at_lt (lt_fieldAddr 2 rfl fld76_2 rfl) rfl (at_on rfl rfl h54 (at_lt (lt_load_box 0 rfl ti74 rfl rfl rfl rfl rfl) rfl (at_on rfl rfl h54 (at_lt (lt_flen 2 rfl rfl und74) rfl (at_on rfl rfl h54 (at_lt (lt_gtr rfl rfl) rfl (at_lt (lt_pick true rfl h54 rfl) rfl (s_as rfl ?_)))))))))
   refine s_nt (at_ret ?_)
   have hq := oinj hr
   clear hr
   subst hq
   exact at_return (.bool (decide ((0 : Int) < (a0.Codes.length : Int)))) [] hS Tryz.results57 (.cons (.tmp rfl) .nil) rfl rfl ⟨rfl, rfl⟩
  replace hr := ineg h54 hr
  refine at_off rfl rfl (bf h54) rfl (at_off rfl rfl (bf h54) rfl (at_off rfl rfl (bf h54) rfl (at_off rfl rfl (bf h54) rfl (at_lt (lt_pick false rfl (bf h54) rfl) rfl (s_as rfl (s_nt (at_ret ?_)))))))
  have hq := oinj hr
  clear hr
  subst hq
  exact at_return (.bool false) [] hS Tryz.results57 (.cons (.tmp rfl) .nil) rfl rfl ⟨rfl, rfl⟩
 replace hr := ineg h51 hr
 refine at_off rfl rfl (bf h51) rfl (at_off rfl rfl (bf h51) rfl (at_off rfl rfl (bf h51) rfl (at_lt (lt_pick false rfl (bf h51) rfl) rfl (s_mv rfl (at_off rfl rfl rfl rfl (at_off rfl rfl rfl rfl (at_off rfl rfl rfl rfl (at_off rfl rfl rfl rfl (at_lt (lt_pick false rfl rfl rfl) rfl ?_)))))))))
 refine s_as rfl (s_nt (at_ret ?_))
 have hq := oinj hr
 clear hr
 subst hq
 exact at_return (.bool false) [] hS Tryz.results57 (.cons (.tmp rfl) .nil) rfl rfl ⟨rfl, rfl⟩
def m27_l1 (a0 : (List D_crosswalk_Entry)) : Nat → Nat → Option (Fl Bool Unit)
  | 0, _ => none
  | k + 1, x58 =>
    if x58 < a0.length then
     (a0[x58]?).bind fun x63 =>
     (m57 (⟨x63.From, x63.To, x63.Codes⟩ : D_crosswalk_Entry)).bind fun x70 =>
     if x70 = true then
      if 0 < x58 then
       (at? a0 ((x58 : Int) - 1)).bind fun x74 =>
       if (Op.bytesLess x74.From x63.From) = true then
        m27_l1 a0 k (x58 + 1)
       else
        some (Fl.ret false)
      else
       m27_l1 a0 k (x58 + 1)
     else
      some (Fl.ret false)
    else
     some (Fl.go ())
def m27 (a0 : (List D_crosswalk_Entry)) : Option Bool :=
  (m27_l1 a0 (a0.length + 1) 0).bind fun r => match r with
  | .ret x => some x
  | .go _ =>
   some (decide ((a0.length : Int) ≤ 60))
def post27 (r : Bool) (v : Value) (fs : List Fact) : Prop := v = .bool r ∧ fs = []
theorem en27 : Enters Tryz.prog 27 := ⟨_, Tryz.func27, by kernel_rfl, rfl⟩
theorem f27_spec {a0 : (List D_crosswalk_Entry)} {w55 : Value} {r : Bool} (hr : m27 a0 = some r) : Spec Tryz.prog 27 [w55] [((Ty.slice ty76).fact a0 [w55])] (post27 r) := by
 refine spec_start (N := 34) Tryz.func27 (by kernel_rfl) rfl rfl rfl ?_
 intro g hS
 unfold m27 at hr
 refine s_sr (s_as rfl (s_nt (at_seq (s_sr (s_mv rfl ?_)))))
 refine at_inv 0 rfl (fun i56 => ?_)
 have l57 := slice_len i56
 refine at_lt (lt_flen 0 rfl rfl und34) rfl (s_mv rfl (s_nt (at_int .i64 0 (by simp only [lo, hi]; omega) ?_)))
 replace hr := obind hr
 obtain ⟨r59, hl60, hk61⟩ := hr
 refine at_cutP (V := (Unit) × (Unit)) (fun v => r59 = Fl.go v.1) (fun v => (⟨[(0, w55)], [], [], [((Ty.slice ty76).fact a0 [w55])]⟩ : St)) ?_ ?_
 ·refine at_block ?_
  refine at_loopW (σ := Nat) (V := Unit) (r := r59) (fun n s => m27_l1 a0 n s) (fun s e => (⟨[(0, w55), (5, w55), (6, .int .i64 (a0.length : Int)), (7, .int .i64 (s : Int))], [], [], [((Ty.int .i64).fact (s : Int) [.int .i64 (s : Int)]), ((Ty.slice ty76).fact a0 [w55])]⟩ : St)) (fun _ => rfl) _ 0 () hl60 ⟨⟨rfl, ⟨rfl, ⟨rfl, ⟨rfl, trivial⟩⟩⟩⟩, ⟨[], rfl⟩, ⟨[], rfl⟩, ⟨[0, 1], rfl⟩⟩ ?_
  clear hl60
  intro n x58 hr e
  skip
  skip
  change m27_l1 a0 (n + 1) x58 = some r59 at hr
  change At _ _ (⟨[(0, w55), (5, w55), (6, .int .i64 (a0.length : Int)), (7, .int .i64 (x58 : Int))], [], [], [((Ty.int .i64).fact (x58 : Int) [.int .i64 (x58 : Int)]), ((Ty.slice ty76).fact a0 [w55])]⟩ : St) _
  rw [m27_l1] at hr
  refine s_sr (at_lt (lt_lss rfl rfl) rfl (s_nt (at_seq ?_)))
  by_cases h62 : x58 < a0.length
  ·replace hr := ipos h62 hr
   refine at_true rfl (decide_eq_true (by omega)) ?_
   refine at_skip (at_then (at_seq (at_block (s_sr (s_mv rfl ?_)))))
   replace hr := obind hr
   obtain ⟨x63, h64, hr⟩ := hr
   have := (List.getElem?_eq_some_iff.1 h64).1
   refine at_elem 1 rfl (nat_at' h64) (fun p66 ec pa67 => ?_)
   refine at_open (A := Value) 0 rfl _ _ (fun F w h => op76 h) ?_
   rintro s65 rfl
   refine at_lt (lt_idx rfl rfl pa67 und34 ti76) rfl (at_lt (lt_load_peek 4 rfl ti76 rfl rfl rfl rfl rfl) rfl (at_hv rfl ?_))
   refine hv_alloc (cs := [str ([] : Str), str ([] : Str), (.slice none 0 0)]) ti76 rfl rfl (fun b68 => ?_)
   refine s_as rfl ?_
   refine at_one 2 rfl (fun ho69 => ?_)
   refine at_hv rfl (hv_store_box 0 (cs' := [str x63.From, str x63.To, s65]) rfl rfl ti76 rfl rfl rfl rfl (allc rfl (allc rfl (allc ho69 rfl))) (s_nt (at_seq ?_)))
   replace hr := obind hr
   obtain ⟨x70, h71, hr⟩ := hr
   by_cases h72 : x70 = true
   ·replace hr := ipos h72 hr
    by_cases h73 : 0 < x58
    ·replace hr := ipos h73 hr
     replace hr := obind hr
     obtain ⟨x74, h75, hr⟩ := hr
     have := at?_lt h75
     refine at_elem 6 rfl h75 (fun p77 ec pa78 => ?_)
     refine at_open (A := Value) 0 rfl _ _ (fun F w h => op76 h) ?_
     rintro s76 rfl
     refine aa_start 18 (by kernel_rfl) ?_
     refine aa_l 0 rfl (lt_load_box 0 rfl ti76 rfl rfl rfl rfl rfl) (aa_one 1 ?_)
     refine at_derive [5, 6, 7] (ty76.fact (⟨x63.From, x63.To, x63.Codes⟩ : D_crosswalk_Entry) [str x63.From, str x63.To, s65]) rfl (fun F w h => mk76 (x := (⟨x63.From, x63.To, x63.Codes⟩ : D_crosswalk_Entry)) h) ?_
     refine aa_op rfl rfl (hv_call0 [0] (f57_spec h71) rfl rfl rfl rfl ?_)
     rintro _ _ ⟨rfl, rfl⟩
     refine aa_pure 2 rfl (by kernel_rfl) rfl rfl (lt_not rfl) rfl (ts_in 0 1 rfl rfl) ?_
     refine aa_pure 3 rfl (by kernel_rfl) rfl rfl (lt_move rfl) rfl (ts_in 0 1 rfl rfl) ?_
     refine aa_pure 4 rfl (by kernel_rfl) rfl ⟨15, rfl, .inl ⟨_, rfl, gdq (v := false) (nt h72) rfl⟩⟩ (lt_move rfl) rfl (ts_in 0 1 rfl rfl) ?_
     refine aa_pure 5 rfl (by kernel_rfl) rfl ⟨15, rfl, .inl ⟨_, rfl, gdq (v := false) (nt h72) rfl⟩⟩ (lt_gtr rfl rfl) rfl (ts_in 0 1 rfl rfl) ?_
     refine aa_pure 6 rfl (by kernel_rfl) rfl ⟨15, rfl, .inl ⟨_, rfl, gdq (v := false) (nt h72) rfl⟩⟩ (lt_move rfl) rfl (ts_in 0 1 rfl rfl) ?_
     refine aa_pure 7 rfl (by kernel_rfl) rfl ⟨18, rfl, .inl ⟨_, rfl, gdq (v := true) (decide_eq_true (by omega)) rfl⟩⟩ (lt_move rfl) rfl (ts_in 0 1 rfl rfl) ?_
     refine aa_pure 8 rfl (by kernel_rfl) rfl ⟨18, rfl, .inl ⟨_, rfl, gdq (v := true) (decide_eq_true (by omega)) rfl⟩⟩ (lt_move rfl) rfl (ts_in 0 1 rfl rfl) ?_
     refine aa_pure 9 rfl (by kernel_rfl) rfl ⟨18, rfl, .inl ⟨_, rfl, gdq (v := true) (decide_eq_true (by omega)) rfl⟩⟩ (lt_sub rfl rfl (by simp only [lo, hi]; omega)) rfl (ts_in 0 1 rfl rfl) ?_
     refine aa_pure 10 rfl (by kernel_rfl) rfl ⟨18, rfl, .inl ⟨_, rfl, gdq (v := true) (decide_eq_true (by omega)) rfl⟩⟩ (lt_idx rfl rfl pa78 und34 ti76) rfl (ts_in 0 1 rfl rfl) ?_
     refine aa_pure 11 rfl (by kernel_rfl) rfl ⟨18, rfl, .inl ⟨_, rfl, gdq (v := true) (decide_eq_true (by omega)) rfl⟩⟩ (lt_fieldAddr 0 rfl fld76_0 rfl) rfl (ts_in 0 1 rfl rfl) ?_
     refine aa_load 12 rfl (by kernel_rfl) rfl ⟨18, rfl, .inl ⟨_, rfl, gdq (v := true) (decide_eq_true (by omega)) rfl⟩⟩ (lt_load_peek 4 rfl ti9 rfl rfl rfl rfl rfl) rfl (ts_in 0 1 rfl rfl) ?_
     refine aa_pure 13 rfl (by kernel_rfl) rfl ⟨18, rfl, .inl ⟨_, rfl, gdq (v := true) (decide_eq_true (by omega)) rfl⟩⟩ (lt_fieldAddr 0 rfl fld76_0 rfl) rfl (ts_in 0 1 rfl rfl) ?_
     refine aa_load 14 rfl (by kernel_rfl) rfl ⟨18, rfl, .inl ⟨_, rfl, gdq (v := true) (decide_eq_true (by omega)) rfl⟩⟩ (lt_load_box 0 rfl ti9 rfl rfl rfl rfl rfl) rfl (ts_in 0 1 rfl rfl) ?_
     refine aa_pure 15 rfl (by kernel_rfl) rfl ⟨18, rfl, .inl ⟨_, rfl, gdq (v := true) (decide_eq_true (by omega)) rfl⟩⟩ (lt_sgeq rfl rfl) rfl (ts_in 0 1 rfl rfl) ?_
     refine aa_pure 16 rfl (by kernel_rfl) rfl ⟨15, rfl, .inl ⟨_, rfl, gdq (v := false) (nt h72) rfl⟩⟩ (lt_pick true rfl (decide_eq_true (by omega)) rfl) rfl (ts_in 0 1 rfl rfl) ?_
     refine aa_pure 17 rfl (by kernel_rfl) rfl rfl (lt_pick false rfl (nt h72) rfl) rfl (ts_in 0 1 rfl rfl) ?_
     refine aa_done (by kernel_rfl) (ts_in 0 1 rfl rfl) ?_
     refine at_then ?_
     by_cases h79 : (Op.bytesLess x74.From x63.From) = true
     ·replace hr := ipos h79 hr
      refine at_false rfl (nt h79) (at_skip (at_in (s_tr (at_lt (lt_add rfl rfl (by simp only [lo, hi]; omega)) rfl (s_mv rfl (at_nil (at_int .i64 (x58 + 1 : Int) (by simp only [lo, hi]; omega) ?_)))))))
      exact at_again (σ := Nat) (V := Unit) (lp := fun n s => m27_l1 a0 n s) (S := fun s e => (⟨[(0, w55), (5, w55), (6, .int .i64 (a0.length : Int)), (7, .int .i64 (s : Int))], [], [], [((Ty.int .i64).fact (s : Int) [.int .i64 (s : Int)]), ((Ty.slice ty76).fact a0 [w55])]⟩ : St)) (x58 + 1) () hr ⟨⟨rfl, ⟨rfl, ⟨rfl, ⟨rfl, trivial⟩⟩⟩⟩, ⟨[false], rfl⟩, ⟨[], rfl⟩, ⟨[0, 13], rfl⟩⟩
     replace hr := ineg h79 hr
     refine at_true rfl (nf (bf h79)) (s_sr (s_as rfl (s_nt (at_ret ?_))))
     have hq := oinj hr
     clear hr
     subst hq
     have hq := oinj hk61
     clear hk61
     subst hq
     refine at_in_ret (at_then_ret (at_then_ret (at_in_ret (at_then_ret (at_then_ret ?_)))))
     exact at_return (.bool false) [] hS Tryz.results27 (.cons (.tmp rfl) .nil) rfl rfl ⟨rfl, rfl⟩
    replace hr := ineg h73 hr
    refine aa_start 18 (by kernel_rfl) ?_
    refine aa_l 0 rfl (lt_load_box 0 rfl ti76 rfl rfl rfl rfl rfl) (aa_one 1 ?_)
    refine at_derive [0, 1, 2] (ty76.fact (⟨x63.From, x63.To, x63.Codes⟩ : D_crosswalk_Entry) [str x63.From, str x63.To, s65]) rfl (fun F w h => mk76 (x := (⟨x63.From, x63.To, x63.Codes⟩ : D_crosswalk_Entry)) h) ?_
    refine aa_op rfl rfl (hv_call0 [0] (f57_spec h71) rfl rfl rfl rfl ?_)
    rintro _ _ ⟨rfl, rfl⟩
    refine aa_pure 2 rfl (by kernel_rfl) rfl rfl (lt_not rfl) rfl (ts_in 0 1 rfl rfl) ?_
    refine aa_pure 3 rfl (by kernel_rfl) rfl rfl (lt_move rfl) rfl (ts_in 0 1 rfl rfl) ?_
    refine aa_pure 4 rfl (by kernel_rfl) rfl ⟨15, rfl, .inl ⟨_, rfl, gdq (v := false) (nt h72) rfl⟩⟩ (lt_move rfl) rfl (ts_in 0 1 rfl rfl) ?_
    refine aa_pure 5 rfl (by kernel_rfl) rfl ⟨15, rfl, .inl ⟨_, rfl, gdq (v := false) (nt h72) rfl⟩⟩ (lt_gtr rfl rfl) rfl (ts_in 0 1 rfl rfl) ?_
    refine aa_pure 6 rfl (by kernel_rfl) rfl ⟨15, rfl, .inl ⟨_, rfl, gdq (v := false) (nt h72) rfl⟩⟩ (lt_move rfl) rfl (ts_in 0 1 rfl rfl) ?_
    refine aa_off 7 rfl (by kernel_rfl) rfl ⟨18, rfl, .inl ⟨_, rfl, gdq (v := false) (decide_eq_false (by omega)) rfl⟩⟩ rfl (ts_in 0 1 rfl rfl) ?_
    refine aa_off 8 rfl (by kernel_rfl) rfl ⟨18, rfl, .inl ⟨_, rfl, gdq (v := false) (decide_eq_false (by omega)) rfl⟩⟩ rfl (ts_in 0 1 rfl rfl) ?_
    refine aa_off 9 rfl (by kernel_rfl) rfl ⟨18, rfl, .inl ⟨_, rfl, gdq (v := false) (decide_eq_false (by omega)) rfl⟩⟩ rfl (ts_in 0 1 rfl rfl) ?_
    refine aa_off 10 rfl (by kernel_rfl) rfl ⟨18, rfl, .inl ⟨_, rfl, gdq (v := false) (decide_eq_false (by omega)) rfl⟩⟩ rfl (ts_in 0 1 rfl rfl) ?_
    refine aa_off 11 rfl (by kernel_rfl) rfl ⟨18, rfl, .inl ⟨_, rfl, gdq (v := false) (decide_eq_false (by omega)) rfl⟩⟩ rfl (ts_in 0 1 rfl rfl) ?_
    refine aa_off 12 rfl (by kernel_rfl) rfl ⟨18, rfl, .inl ⟨_, rfl, gdq (v := false) (decide_eq_false (by omega)) rfl⟩⟩ rfl (ts_in 0 1 rfl rfl) ?_
    refine aa_off 13 rfl (by kernel_rfl) rfl ⟨18, rfl, .inl ⟨_, rfl, gdq (v := false) (decide_eq_false (by omega)) rfl⟩⟩ rfl (ts_in 0 1 rfl rfl) ?_
    refine aa_off 14 rfl (by kernel_rfl) rfl ⟨18, rfl, .inl ⟨_, rfl, gdq (v := false) (decide_eq_false (by omega)) rfl⟩⟩ rfl (ts_in 0 1 rfl rfl) ?_
    refine aa_off 15 rfl (by kernel_rfl) rfl ⟨18, rfl, .inl ⟨_, rfl, gdq (v := false) (decide_eq_false (by omega)) rfl⟩⟩ rfl (ts_in 0 1 rfl rfl) ?_
    refine aa_pure 16 rfl (by kernel_rfl) rfl ⟨15, rfl, .inl ⟨_, rfl, gdq (v := false) (nt h72) rfl⟩⟩ (lt_pick false rfl (decide_eq_false (by omega)) rfl) rfl (ts_in 0 1 rfl rfl) ?_
    refine aa_pure 17 rfl (by kernel_rfl) rfl rfl (lt_pick false rfl (nt h72) rfl) rfl (ts_in 0 1 rfl rfl) ?_
    refine aa_done (by kernel_rfl) (ts_in 0 1 rfl rfl) ?_
    refine at_then (at_false rfl rfl (at_skip (at_in (s_tr (at_lt (lt_add rfl rfl (by simp only [lo, hi]; omega)) rfl (s_mv rfl (at_nil (at_int .i64 (x58 + 1 : Int) (by simp only [lo, hi]; omega) ?_))))))))
    exact at_again (σ := Nat) (V := Unit) (lp := fun n s => m27_l1 a0 n s) (S := fun s e => (⟨[(0, w55), (5, w55), (6, .int .i64 (a0.length : Int)), (7, .int .i64 (s : Int))], [], [], [((Ty.int .i64).fact (s : Int) [.int .i64 (s : Int)]), ((Ty.slice ty76).fact a0 [w55])]⟩ : St)) (x58 + 1) () hr ⟨⟨rfl, ⟨rfl, ⟨rfl, ⟨rfl, trivial⟩⟩⟩⟩, ⟨[false], rfl⟩, ⟨[], rfl⟩, ⟨[0, 8], rfl⟩⟩
   replace hr := ineg h72 hr
   refine aa_start 18 (by kernel_rfl) ?_
   refine aa_l 0 rfl (lt_load_box 0 rfl ti76 rfl rfl rfl rfl rfl) (aa_one 1 ?_)
   refine at_derive [0, 1, 2] (ty76.fact (⟨x63.From, x63.To, x63.Codes⟩ : D_crosswalk_Entry) [str x63.From, str x63.To, s65]) rfl (fun F w h => mk76 (x := (⟨x63.From, x63.To, x63.Codes⟩ : D_crosswalk_Entry)) h) ?_
   refine aa_op rfl rfl (hv_call0 [0] (f57_spec h71) rfl rfl rfl rfl ?_)
   rintro _ _ ⟨rfl, rfl⟩
   refine aa_pure 2 rfl (by kernel_rfl) rfl rfl (lt_not rfl) rfl (ts_in 0 1 rfl rfl) ?_
   refine aa_pure 3 rfl (by kernel_rfl) rfl rfl (lt_move rfl) rfl (ts_in 0 1 rfl rfl) ?_
   refine aa_off 4 rfl (by kernel_rfl) rfl ⟨15, rfl, .inl ⟨_, rfl, gdq (v := true) (nf (bf h72)) rfl⟩⟩ rfl (ts_in 0 1 rfl rfl) ?_
   refine aa_off 5 rfl (by kernel_rfl) rfl ⟨15, rfl, .inl ⟨_, rfl, gdq (v := true) (nf (bf h72)) rfl⟩⟩ rfl (ts_in 0 1 rfl rfl) ?_
   refine aa_off 6 rfl (by kernel_rfl) rfl ⟨15, rfl, .inl ⟨_, rfl, gdq (v := true) (nf (bf h72)) rfl⟩⟩ rfl (ts_in 0 1 rfl rfl) ?_
   refine aa_off 7 rfl (by kernel_rfl) rfl ⟨18, rfl, .inr ⟨rfl, rfl⟩⟩ rfl (ts_in 0 1 rfl rfl) ?_
   refine aa_off 8 rfl (by kernel_rfl) rfl ⟨18, rfl, .inr ⟨rfl, rfl⟩⟩ rfl (ts_in 0 1 rfl rfl) ?_
   refine aa_off 9 rfl (by kernel_rfl) rfl ⟨18, rfl, .inr ⟨rfl, rfl⟩⟩ rfl (ts_in 0 1 rfl rfl) ?_
   refine aa_off 10 rfl (by kernel_rfl) rfl ⟨18, rfl, .inr ⟨rfl, rfl⟩⟩ rfl (ts_in 0 1 rfl rfl) ?_
   refine aa_off 11 rfl (by kernel_rfl) rfl ⟨18, rfl, .inr ⟨rfl, rfl⟩⟩ rfl (ts_in 0 1 rfl rfl) ?_
   refine aa_off 12 rfl (by kernel_rfl) rfl ⟨18, rfl, .inr ⟨rfl, rfl⟩⟩ rfl (ts_in 0 1 rfl rfl) ?_
   refine aa_off 13 rfl (by kernel_rfl) rfl ⟨18, rfl, .inr ⟨rfl, rfl⟩⟩ rfl (ts_in 0 1 rfl rfl) ?_
   refine aa_off 14 rfl (by kernel_rfl) rfl ⟨18, rfl, .inr ⟨rfl, rfl⟩⟩ rfl (ts_in 0 1 rfl rfl) ?_
   refine aa_off 15 rfl (by kernel_rfl) rfl ⟨18, rfl, .inr ⟨rfl, rfl⟩⟩ rfl (ts_in 0 1 rfl rfl) ?_
   refine aa_off 16 rfl (by kernel_rfl) rfl ⟨15, rfl, .inl ⟨_, rfl, gdq (v := true) (nf (bf h72)) rfl⟩⟩ rfl (ts_in 0 1 rfl rfl) ?_
   refine aa_pure 17 rfl (by kernel_rfl) rfl rfl (lt_pick true rfl (nf (bf h72)) rfl) rfl (ts_in 0 1 rfl rfl) ?_
   refine aa_done (by kernel_rfl) (ts_in 0 1 rfl rfl) ?_
   refine at_then (at_true rfl rfl (s_sr (s_as rfl (s_nt (at_ret ?_)))))
   have hq := oinj hr
   clear hr
   subst hq
   have hq := oinj hk61
   clear hk61
   subst hq
   refine at_in_ret (at_then_ret (at_then_ret (at_in_ret (at_then_ret (at_then_ret ?_)))))
   exact at_return (.bool false) [] hS Tryz.results27 (.cons (.tmp rfl) .nil) rfl rfl ⟨rfl, rfl⟩
  replace hr := ineg h62 hr
  refine at_false rfl (decide_eq_false (by omega)) ?_
  refine at_exit (at_then_exit (at_then_exit (at_in_exit ?_)))
  have hq := oinj hr
  clear hr
  subst hq
  exact at_leafP ((), ()) rfl ⟨⟨rfl, trivial⟩, ⟨[], rfl⟩, ⟨[], rfl⟩, ⟨[1], rfl⟩⟩
 rintro ⟨_, _⟩ hp
 replace hr := hk61
 subst hp
 clear hl60
 change At _ _ (⟨[(0, w55)], [], [], [((Ty.slice ty76).fact a0 [w55])]⟩ : St) _
 refine s_tsr (s_mv rfl (at_lt (lt_flen 0 rfl rfl und34) rfl (at_lt (lt_leq rfl rfl) rfl (s_as rfl (s_nt (at_ret ?_))))))
 have hq := oinj hr
 clear hr
 subst hq
 exact at_return (.bool (decide ((a0.length : Int) ≤ 60))) [] hS Tryz.results27 (.cons (.tmp rfl) .nil) rfl rfl ⟨rfl, rfl⟩
def m118_l1 (a0 : (List D_api_Field)) (p1 : (D_api_Field → Option Bool)) : Nat → Nat → Option (Fl Int Unit)
  | 0, _ => none
  | k + 1, x84 =>
    if x84 < a0.length then
     (a0[x84]?).bind fun x89 =>
     (p1 x89).bind fun x94 =>
     if x94 = true then
      some (Fl.ret (x84 : Int))
     else
      m118_l1 a0 p1 k (x84 + 1)
    else
     some (Fl.go ())
def m118 (a0 : (List D_api_Field)) (p1 : (D_api_Field → Option Bool)) : Option Int :=
  (m118_l1 a0 p1 (a0.length + 1) 0).bind fun r => match r with
  | .ret x => some x
  | .go _ =>
   some (-1)
def post118 (r : Int) (v : Value) (fs : List Fact) : Prop := v = .int .i64 r ∧ fs = [((Ty.int .i64).fact r [.int .i64 r])]
theorem en118 : Enters Tryz.prog 118 := ⟨_, Tryz.func118, by kernel_rfl, rfl⟩
theorem f118_spec {a0 : (List D_api_Field)} {p1 : (D_api_Field → Option Bool)} {w80 : Value} {w81 : Value} {r : Int} (hr : m118 a0 p1 = some r) : Spec Tryz.prog 118 [w80, w81] [((Ty.slice ty69).fact a0 [w80]), (FnOk Tryz.prog w81 (sp96 p1))] (post118 r) := by
 refine spec_start (N := 19) Tryz.func118 (by kernel_rfl) rfl rfl rfl ?_
 intro g hS
 unfold m118 at hr
 refine s_sr (s_as rfl (s_nt (at_seq (s_sr (s_mv rfl ?_)))))
 refine at_inv 0 rfl (fun i82 => ?_)
 have l83 := slice_len i82
 refine at_lt (lt_flen 0 rfl rfl und23) rfl (s_mv rfl (s_nt (at_int .i64 0 (by simp only [lo, hi]; omega) ?_)))
 replace hr := obind hr
 obtain ⟨r85, hl86, hk87⟩ := hr
 refine at_cutP (V := (Unit) × (Unit)) (fun v => r85 = Fl.go v.1) (fun v => (⟨[], [], [], []⟩ : St)) ?_ ?_
 ·refine at_block ?_
  refine at_loopW (σ := Nat) (V := Unit) (r := r85) (fun n s => m118_l1 a0 p1 n s) (fun s e => (⟨[(0, w80), (1, w81), (7, .int .i64 (a0.length : Int)), (8, .int .i64 (s : Int))], [], [], [((Ty.int .i64).fact (s : Int) [.int .i64 (s : Int)]), ((Ty.slice ty69).fact a0 [w80]), (FnOk Tryz.prog w81 (sp96 p1))]⟩ : St)) (fun _ => rfl) _ 0 () hl86 ⟨⟨rfl, ⟨rfl, ⟨rfl, ⟨rfl, trivial⟩⟩⟩⟩, ⟨[], rfl⟩, ⟨[], rfl⟩, ⟨[0, 1, 2], rfl⟩⟩ ?_
  clear hl86
  intro n x84 hr e
  skip
  skip
  change m118_l1 a0 p1 (n + 1) x84 = some r85 at hr
  change At _ _ (⟨[(0, w80), (1, w81), (7, .int .i64 (a0.length : Int)), (8, .int .i64 (x84 : Int))], [], [], [((Ty.int .i64).fact (x84 : Int) [.int .i64 (x84 : Int)]), ((Ty.slice ty69).fact a0 [w80]), (FnOk Tryz.prog w81 (sp96 p1))]⟩ : St) _
  rw [m118_l1] at hr
  refine s_sr (at_lt (lt_lss rfl rfl) rfl (s_nt (at_seq ?_)))
  by_cases h88 : x84 < a0.length
  ·replace hr := ipos h88 hr
   refine at_true rfl (decide_eq_true (by omega)) ?_
   refine at_skip (at_then (at_seq (at_block (s_sr (s_mv rfl (s_as rfl (s_ntsr (s_mv rfl (s_mv rfl ?_)))))))))
   refine s_mv rfl ?_
   replace hr := obind hr
   obtain ⟨x89, h90, hr⟩ := hr
   have := (List.getElem?_eq_some_iff.1 h90).1
   refine at_elem 1 rfl (nat_at' h90) (fun p92 ec pa93 => ?_)
   refine at_open (A := Value) 0 rfl _ _ (fun F w h => op69 h) ?_
   rintro s91 rfl
   refine at_lt (lt_idx rfl rfl pa93 und23 ti69) rfl (at_lt (lt_load_peek 3 rfl ti69 rfl rfl rfl rfl rfl) rfl ?_)
   replace hr := obind hr
   obtain ⟨x94, h95, hr⟩ := hr
   refine at_hv rfl ?_
   refine hv_callf 6 [2] rfl rfl rfl ⟨x89, x94, s91, h95, rfl, rfl, rfl⟩ rfl rfl ?_
   rintro _ _ ⟨rfl, rfl⟩
   refine s_nt ?_
   by_cases h96 : x94 = true
   ·replace hr := ipos h96 hr
    refine at_true rfl h96 (s_sr (s_mv rfl (s_as rfl (s_nt (at_ret ?_)))))
    have hq := oinj hr
    clear hr
    subst hq
    have hq := oinj hk87
    clear hk87
    subst hq
    refine at_in_ret (at_then_ret (at_then_ret (at_in_ret (at_then_ret (at_then_ret ?_)))))
    exact at_return (.int .i64 (x84 : Int)) [4] hS Tryz.results118 (.cons (.tmp rfl) .nil) rfl rfl ⟨rfl, rfl⟩
   replace hr := ineg h96 hr
   refine at_false rfl (bf h96) (at_skip (at_in (s_tr (at_lt (lt_add rfl rfl (by simp only [lo, hi]; omega)) rfl (s_mv rfl (at_nil (at_int .i64 (x84 + 1 : Int) (by simp only [lo, hi]; omega) ?_)))))))
   exact at_again (σ := Nat) (V := Unit) (lp := fun n s => m118_l1 a0 p1 n s) (S := fun s e => (⟨[(0, w80), (1, w81), (7, .int .i64 (a0.length : Int)), (8, .int .i64 (s : Int))], [], [], [((Ty.int .i64).fact (s : Int) [.int .i64 (s : Int)]), ((Ty.slice ty69).fact a0 [w80]), (FnOk Tryz.prog w81 (sp96 p1))]⟩ : St)) (x84 + 1) () hr ⟨⟨rfl, ⟨rfl, ⟨rfl, ⟨rfl, trivial⟩⟩⟩⟩, ⟨[], rfl⟩, ⟨[], rfl⟩, ⟨[0, 6, 7], rfl⟩⟩
  replace hr := ineg h88 hr
  refine at_false rfl (decide_eq_false (by omega)) ?_
  refine at_exit (at_then_exit (at_then_exit (at_in_exit ?_)))
  have hq := oinj hr
  clear hr
  subst hq
  exact at_leafP ((), ()) rfl ⟨trivial, ⟨[], rfl⟩, ⟨[], rfl⟩, ⟨[], rfl⟩⟩
 rintro ⟨_, _⟩ hp
 replace hr := hk87
 subst hp
 clear hl86
 change At _ _ (⟨[], [], [], []⟩ : St) _
 refine s_tsr (s_as rfl (s_nt (at_ret ?_)))
 have hq := oinj hr
 clear hr
 subst hq
 refine at_int .i64 (-1) (by simp only [lo, hi]; omega) ?_
 exact at_return (.int .i64 (-1)) [0] hS Tryz.results118 (.cons (.tmp rfl) .nil) rfl rfl ⟨rfl, rfl⟩
def m93 (a0 : (List D_api_Field)) (p1 : (D_api_Field → Option Bool)) : Option Bool :=
  (m118 a0 p1).bind fun x99 =>
  some (decide ((0 : Int) ≤ x99))
def post93 (r : Bool) (v : Value) (fs : List Fact) : Prop := v = .bool r ∧ fs = []
theorem en93 : Enters Tryz.prog 93 := ⟨_, Tryz.func93, by kernel_rfl, rfl⟩
theorem f93_spec {a0 : (List D_api_Field)} {p1 : (D_api_Field → Option Bool)} {w97 : Value} {w98 : Value} {r : Bool} (hr : m93 a0 p1 = some r) : Spec Tryz.prog 93 [w97, w98] [((Ty.slice ty69).fact a0 [w97]), (FnOk Tryz.prog w98 (sp96 p1))] (post93 r) := by
 refine spec_start (N := 9) Tryz.func93 (by kernel_rfl) rfl rfl rfl ?_
 intro g hS
 unfold m93 at hr
 refine s_sr (s_as rfl (s_ntsr (s_mv rfl (s_mv rfl ?_))))
 replace hr := obind hr
 obtain ⟨x99, h100, hr⟩ := hr
 refine at_hv rfl (hv_call0 [0, 1] (f118_spec h100) rfl rfl rfl rfl ?_)
 rintro _ _ ⟨rfl, rfl⟩
 refine at_inv 0 rfl (fun l101 => ?_)
 replace l101 : (-9223372036854775808) ≤ x99 ∧ x99 ≤ 9223372036854775807 := l101
 refine at_lt (lt_geq rfl rfl) rfl (s_as rfl (s_nt (at_ret ?_)))
 have hq := oinj hr
 clear hr
 subst hq
 exact at_return (.bool (decide ((0 : Int) ≤ x99))) [] hS Tryz.results93 (.cons (.tmp rfl) .nil) rfl rfl ⟨rfl, rfl⟩
def m102_l1 (a0 : (List D_api_Sub)) (p1 : (D_api_Sub → Option Bool)) : Nat → Nat → Option (Fl Int Unit)
  | 0, _ => none
  | k + 1, x106 =>
    if x106 < a0.length then
     (a0[x106]?).bind fun x111 =>
     (p1 x111).bind fun x115 =>
     if x115 = true then
      some (Fl.ret (x106 : Int))
     else
      m102_l1 a0 p1 k (x106 + 1)
    else
     some (Fl.go ())
def m102 (a0 : (List D_api_Sub)) (p1 : (D_api_Sub → Option Bool)) : Option Int :=
  (m102_l1 a0 p1 (a0.length + 1) 0).bind fun r => match r with
  | .ret x => some x
  | .go _ =>
   some (-1)
def post102 (r : Int) (v : Value) (fs : List Fact) : Prop := v = .int .i64 r ∧ fs = [((Ty.int .i64).fact r [.int .i64 r])]
theorem en102 : Enters Tryz.prog 102 := ⟨_, Tryz.func102, by kernel_rfl, rfl⟩
theorem f102_spec {a0 : (List D_api_Sub)} {p1 : (D_api_Sub → Option Bool)} {w102 : Value} {w103 : Value} {r : Int} (hr : m102 a0 p1 = some r) : Spec Tryz.prog 102 [w102, w103] [((Ty.slice ty66).fact a0 [w102]), (FnOk Tryz.prog w103 (sp101 p1))] (post102 r) := by
 refine spec_start (N := 19) Tryz.func102 (by kernel_rfl) rfl rfl rfl ?_
 intro g hS
 unfold m102 at hr
 refine s_sr (s_as rfl (s_nt (at_seq (s_sr (s_mv rfl ?_)))))
 refine at_inv 0 rfl (fun i104 => ?_)
 have l105 := slice_len i104
 refine at_lt (lt_flen 0 rfl rfl und67) rfl (s_mv rfl (s_nt (at_int .i64 0 (by simp only [lo, hi]; omega) ?_)))
 replace hr := obind hr
 obtain ⟨r107, hl108, hk109⟩ := hr
 refine at_cutP (V := (Unit) × (Unit)) (fun v => r107 = Fl.go v.1) (fun v => (⟨[], [], [], []⟩ : St)) ?_ ?_
 ·refine at_block ?_
  refine at_loopW (σ := Nat) (V := Unit) (r := r107) (fun n s => m102_l1 a0 p1 n s) (fun s e => (⟨[(0, w102), (1, w103), (7, .int .i64 (a0.length : Int)), (8, .int .i64 (s : Int))], [], [], [((Ty.int .i64).fact (s : Int) [.int .i64 (s : Int)]), ((Ty.slice ty66).fact a0 [w102]), (FnOk Tryz.prog w103 (sp101 p1))]⟩ : St)) (fun _ => rfl) _ 0 () hl108 ⟨⟨rfl, ⟨rfl, ⟨rfl, ⟨rfl, trivial⟩⟩⟩⟩, ⟨[], rfl⟩, ⟨[], rfl⟩, ⟨[0, 1, 2], rfl⟩⟩ ?_
  clear hl108
  intro n x106 hr e
  skip
  skip
  change m102_l1 a0 p1 (n + 1) x106 = some r107 at hr
  change At _ _ (⟨[(0, w102), (1, w103), (7, .int .i64 (a0.length : Int)), (8, .int .i64 (x106 : Int))], [], [], [((Ty.int .i64).fact (x106 : Int) [.int .i64 (x106 : Int)]), ((Ty.slice ty66).fact a0 [w102]), (FnOk Tryz.prog w103 (sp101 p1))]⟩ : St) _
  rw [m102_l1] at hr
  refine s_sr (at_lt (lt_lss rfl rfl) rfl (s_nt (at_seq ?_)))
  by_cases h110 : x106 < a0.length
  ·replace hr := ipos h110 hr
   refine at_true rfl (decide_eq_true (by omega)) ?_
   refine at_skip (at_then (at_seq (at_block (s_sr (s_mv rfl (s_as rfl (s_ntsr (s_mv rfl (s_mv rfl ?_)))))))))
   refine s_mv rfl ?_
   replace hr := obind hr
   obtain ⟨x111, h112, hr⟩ := hr
   have := (List.getElem?_eq_some_iff.1 h112).1
   refine at_elem 1 rfl (nat_at' h112) (fun p113 ec pa114 => ?_)
   refine at_open (A := Unit) 0 rfl _ _ (fun F w h => op66 h) ?_
   rintro _ rfl
   refine at_lt (lt_idx rfl rfl pa114 und67 ti66) rfl (at_lt (lt_load_peek 2 rfl ti66 rfl rfl rfl rfl rfl) rfl ?_)
   replace hr := obind hr
   obtain ⟨x115, h116, hr⟩ := hr
   refine at_hv rfl ?_
   refine hv_callf 5 [1] rfl rfl rfl ⟨x111, x115, h116, rfl, rfl, rfl⟩ rfl rfl ?_
   rintro _ _ ⟨rfl, rfl⟩
   refine s_nt ?_
   by_cases h117 : x115 = true
   ·replace hr := ipos h117 hr
    refine at_true rfl h117 (s_sr (s_mv rfl (s_as rfl (s_nt (at_ret ?_)))))
    have hq := oinj hr
    clear hr
    subst hq
    have hq := oinj hk109
    clear hk109
    subst hq
    refine at_in_ret (at_then_ret (at_then_ret (at_in_ret (at_then_ret (at_then_ret ?_)))))
    exact at_return (.int .i64 (x106 : Int)) [3] hS Tryz.results102 (.cons (.tmp rfl) .nil) rfl rfl ⟨rfl, rfl⟩
   replace hr := ineg h117 hr
   refine at_false rfl (bf h117) (at_skip (at_in (s_tr (at_lt (lt_add rfl rfl (by simp only [lo, hi]; omega)) rfl (s_mv rfl (at_nil (at_int .i64 (x106 + 1 : Int) (by simp only [lo, hi]; omega) ?_)))))))
   exact at_again (σ := Nat) (V := Unit) (lp := fun n s => m102_l1 a0 p1 n s) (S := fun s e => (⟨[(0, w102), (1, w103), (7, .int .i64 (a0.length : Int)), (8, .int .i64 (s : Int))], [], [], [((Ty.int .i64).fact (s : Int) [.int .i64 (s : Int)]), ((Ty.slice ty66).fact a0 [w102]), (FnOk Tryz.prog w103 (sp101 p1))]⟩ : St)) (x106 + 1) () hr ⟨⟨rfl, ⟨rfl, ⟨rfl, ⟨rfl, trivial⟩⟩⟩⟩, ⟨[], rfl⟩, ⟨[], rfl⟩, ⟨[0, 5, 6], rfl⟩⟩
  replace hr := ineg h110 hr
  refine at_false rfl (decide_eq_false (by omega)) ?_
  refine at_exit (at_then_exit (at_then_exit (at_in_exit ?_)))
  have hq := oinj hr
  clear hr
  subst hq
  exact at_leafP ((), ()) rfl ⟨trivial, ⟨[], rfl⟩, ⟨[], rfl⟩, ⟨[], rfl⟩⟩
 rintro ⟨_, _⟩ hp
 replace hr := hk109
 subst hp
 clear hl108
 change At _ _ (⟨[], [], [], []⟩ : St) _
 refine s_tsr (s_as rfl (s_nt (at_ret ?_)))
 have hq := oinj hr
 clear hr
 subst hq
 refine at_int .i64 (-1) (by simp only [lo, hi]; omega) ?_
 exact at_return (.int .i64 (-1)) [0] hS Tryz.results102 (.cons (.tmp rfl) .nil) rfl rfl ⟨rfl, rfl⟩
def m62 (a0 : (List D_api_Sub)) (p1 : (D_api_Sub → Option Bool)) : Option Bool :=
  (m102 a0 p1).bind fun x120 =>
  some (decide ((0 : Int) ≤ x120))
def post62 (r : Bool) (v : Value) (fs : List Fact) : Prop := v = .bool r ∧ fs = []
theorem en62 : Enters Tryz.prog 62 := ⟨_, Tryz.func62, by kernel_rfl, rfl⟩
theorem f62_spec {a0 : (List D_api_Sub)} {p1 : (D_api_Sub → Option Bool)} {w118 : Value} {w119 : Value} {r : Bool} (hr : m62 a0 p1 = some r) : Spec Tryz.prog 62 [w118, w119] [((Ty.slice ty66).fact a0 [w118]), (FnOk Tryz.prog w119 (sp101 p1))] (post62 r) := by
 refine spec_start (N := 9) Tryz.func62 (by kernel_rfl) rfl rfl rfl ?_
 intro g hS
 unfold m62 at hr
 refine s_sr (s_as rfl (s_ntsr (s_mv rfl (s_mv rfl ?_))))
 replace hr := obind hr
 obtain ⟨x120, h121, hr⟩ := hr
 refine at_hv rfl (hv_call0 [0, 1] (f102_spec h121) rfl rfl rfl rfl ?_)
 rintro _ _ ⟨rfl, rfl⟩
 refine at_inv 0 rfl (fun l122 => ?_)
 replace l122 : (-9223372036854775808) ≤ x120 ∧ x120 ≤ 9223372036854775807 := l122
 refine at_lt (lt_geq rfl rfl) rfl (s_as rfl (s_nt (at_ret ?_)))
 have hq := oinj hr
 clear hr
 subst hq
 exact at_return (.bool (decide ((0 : Int) ≤ x120))) [] hS Tryz.results62 (.cons (.tmp rfl) .nil) rfl rfl ⟨rfl, rfl⟩
def m154 (a0 : UInt8) : Option Bool :=
  if 97 ≤ a0.toNat then
   some (decide ((a0.toNat : Int) ≤ 122))
  else
   some false
def post154 (r : Bool) (v : Value) (fs : List Fact) : Prop := v = .bool r ∧ fs = []
theorem en154 : Enters Tryz.prog 154 := ⟨_, Tryz.func154, by kernel_rfl, rfl⟩
theorem f154_spec {a0 : UInt8} {r : Bool} (hr : m154 a0 = some r) : Spec Tryz.prog 154 [.int .u8 (a0.toNat : Int)] [] (post154 r) := by
 refine spec_start (N := 9) Tryz.func154 (by kernel_rfl) rfl rfl rfl ?_
 intro g hS
 unfold m154 at hr
 refine s_sr (s_as rfl (s_ntsr (s_mv rfl (at_lt (lt_geq rfl rfl) rfl (s_mv rfl ?_)))))
 by_cases h123 : 97 ≤ a0.toNat
 ·replace hr := ipos h123 hr
  refine at_on rfl rfl (decide_eq_true (by omega)) ?_
  refine s_mv rfl ?_
  refine at_on rfl rfl (decide_eq_true (by omega)) ?_
  refine at_lt (lt_leq rfl rfl) rfl ?_
  refine at_lt (lt_pick true rfl (decide_eq_true (by omega)) rfl) rfl ?_
  refine s_as rfl (s_nt (at_ret ?_))
  have hq := oinj hr
  clear hr
  subst hq
  exact at_return (.bool (decide ((a0.toNat : Int) ≤ 122))) [] hS Tryz.results154 (.cons (.tmp rfl) .nil) rfl rfl ⟨rfl, rfl⟩
 replace hr := ineg h123 hr
 refine at_off rfl rfl (decide_eq_false (by omega)) rfl ?_
 refine at_off rfl rfl (decide_eq_false (by omega)) rfl ?_
 refine at_lt (lt_pick false rfl (decide_eq_false (by omega)) rfl) rfl ?_
 refine s_as rfl (s_nt (at_ret ?_))
 have hq := oinj hr
 clear hr
 subst hq
 exact at_return (.bool false) [] hS Tryz.results154 (.cons (.tmp rfl) .nil) rfl rfl ⟨rfl, rfl⟩
def m121 (a0 : UInt8) : Option Bool :=
  (m117 a0).bind fun x124 =>
  if x124 = true then
   some true
  else
   (m154 a0).bind fun x127 =>
   some x127
def post121 (r : Bool) (v : Value) (fs : List Fact) : Prop := v = .bool r ∧ fs = []
theorem en121 : Enters Tryz.prog 121 := ⟨_, Tryz.func121, by kernel_rfl, rfl⟩
theorem f121_spec {a0 : UInt8} {r : Bool} (hr : m121 a0 = some r) : Spec Tryz.prog 121 [.int .u8 (a0.toNat : Int)] [] (post121 r) := by
 refine spec_start (N := 9) Tryz.func121 (by kernel_rfl) rfl rfl rfl ?_
 intro g hS
 unfold m121 at hr
 refine s_sr (s_as rfl (s_ntsr (s_mv rfl ?_)))
 replace hr := obind hr
 obtain ⟨x124, h125, hr⟩ := hr
 refine at_hv rfl (hv_call0 [] (f117_spec h125) rfl rfl rfl rfl ?_)
 rintro _ _ ⟨rfl, rfl⟩
 refine s_mv rfl ?_
 by_cases h126 : x124 = true
 ·replace hr := ipos h126 hr
  refine at_off rfl rfl h126 rfl (at_off rfl rfl h126 rfl (at_lt (lt_pick true rfl h126 rfl) rfl (s_as rfl (s_nt (at_ret ?_)))))
  have hq := oinj hr
  clear hr
  subst hq
  exact at_return (.bool true) [] hS Tryz.results121 (.cons (.tmp rfl) .nil) rfl rfl ⟨rfl, rfl⟩
 replace hr := ineg h126 hr
 refine at_on rfl rfl (bf h126) (s_mv rfl ?_)
 replace hr := obind hr
 obtain ⟨x127, h128, hr⟩ := hr
 refine at_on rfl rfl (bf h126) (at_hv rfl (hv_call0 [] (f154_spec h128) rfl rfl rfl rfl ?_))
 rintro _ _ ⟨rfl, rfl⟩
 refine at_lt (lt_pick false rfl (bf h126) rfl) rfl (s_as rfl (s_nt (at_ret ?_)))
 have hq := oinj hr
 clear hr
 subst hq
 exact at_return (.bool x127) [] hS Tryz.results121 (.cons (.tmp rfl) .nil) rfl rfl ⟨rfl, rfl⟩
def m119 (a0 : UInt8) : Option Bool :=
  if a0.toNat = 32 then
   some true
  else
   (m121 a0).bind fun x130 =>
   some x130
def post119 (r : Bool) (v : Value) (fs : List Fact) : Prop := v = .bool r ∧ fs = []
theorem en119 : Enters Tryz.prog 119 := ⟨_, Tryz.func119, by kernel_rfl, rfl⟩
theorem f119_spec {a0 : UInt8} {r : Bool} (hr : m119 a0 = some r) : Spec Tryz.prog 119 [.int .u8 (a0.toNat : Int)] [] (post119 r) := by
 refine spec_start (N := 9) Tryz.func119 (by kernel_rfl) rfl rfl rfl ?_
 intro g hS
 unfold m119 at hr
 refine s_sr (s_as rfl (s_ntsr (s_mv rfl (at_lt (lt_eql rfl rfl) rfl (s_mv rfl ?_)))))
 by_cases h129 : a0.toNat = 32
 ·replace hr := ipos h129 hr
  refine at_off rfl rfl (decide_eq_true (by omega)) rfl ?_
  refine at_off rfl rfl (decide_eq_true (by omega)) rfl ?_
  refine at_lt (lt_pick true rfl (decide_eq_true (by omega)) rfl) rfl ?_
  refine s_as rfl (s_nt (at_ret ?_))
  have hq := oinj hr
  clear hr
  subst hq
  exact at_return (.bool true) [] hS Tryz.results119 (.cons (.tmp rfl) .nil) rfl rfl ⟨rfl, rfl⟩
 replace hr := ineg h129 hr
 refine at_on rfl rfl (decide_eq_false (by omega)) ?_
 refine s_mv rfl ?_
 replace hr := obind hr
 obtain ⟨x130, h131, hr⟩ := hr
 refine at_on rfl rfl (decide_eq_false (by omega)) ?_
 refine at_hv rfl (hv_call0 [] (f121_spec h131) rfl rfl rfl rfl ?_)
 rintro _ _ ⟨rfl, rfl⟩
 refine at_lt (lt_pick false rfl (decide_eq_false (by omega)) rfl) rfl ?_
 refine s_as rfl (s_nt (at_ret ?_))
 have hq := oinj hr
 clear hr
 subst hq
 exact at_return (.bool x130) [] hS Tryz.results119 (.cons (.tmp rfl) .nil) rfl rfl ⟨rfl, rfl⟩
def m185 (a0 : Str) : Option (Int × Int) := if a0.length ≤ 9223372036854775807 then some (((Lib.decodeGo ⟨a0.toArray⟩).1 : Int), ((Lib.decodeGo ⟨a0.toArray⟩).2 : Int)) else none
def post185 (r : (Int × Int)) (v : Value) (fs : List Fact) : Prop := v = .tuple #[.int .i32 r.1, .int .i64 r.2] ∧ fs = [((Ty.int .i32).fact r.1 [.int .i32 r.1]), ((Ty.int .i64).fact r.2 [.int .i64 r.2])]
theorem en185 : Enters Tryz.prog 185 := ⟨_, Tryz.func185, by kernel_rfl, rfl⟩
def ren185 : Go.Shelf.Ren := ⟨fun | 260 => 185 | n => n, fun | 9 => 9 | 21 => 21 | 3 => 3 | 4 => 4 | 5 => 5 | 119 => 198 | 0 => 0 | 46 => 133 | 139 => 201 | 138 => 200 | n => n, fun | 3 => 1 | 4 => 2 | n => n⟩
theorem lays185 : Lays.n260 Tryz.prog ren185 := { mixed := by kernel_rfl, f260 := Tryz.func185.trans (congrArg some (by kernel_rfl)), t0 := Tryz.underlying0, a0 := Tryz.isAgg0, z0 := Tryz.sizeOf0, v0 := Tryz.zeroValue0, t3 := Tryz.underlying3, a3 := Tryz.isAgg3, z3 := Tryz.sizeOf3, v3 := Tryz.zeroValue3, t4 := Tryz.underlying4, a4 := Tryz.isAgg4, z4 := Tryz.sizeOf4, v4 := Tryz.zeroValue4, t5 := Tryz.underlying5, a5 := Tryz.isAgg5, z5 := Tryz.sizeOf5, v5 := Tryz.zeroValue5, t9 := Tryz.underlying9, a9 := Tryz.isAgg9, z9 := Tryz.sizeOf9, v9 := Tryz.zeroValue9, t21 := Tryz.underlying21, a21 := Tryz.isAgg21, z21 := Tryz.sizeOf21, v21 := Tryz.zeroValue21, t46 := Tryz.underlying133, a46 := Tryz.isAgg133, z46 := Tryz.sizeOf133, v46 := Tryz.zeroValue133, t119 := Tryz.underlying198, a119 := Tryz.isAgg198, z119 := Tryz.sizeOf198, t138 := Tryz.underlying200, a138 := Tryz.isAgg200, z138 := Tryz.sizeOf200, v138 := Tryz.zeroValue200, t139 := Tryz.underlying201, a139 := Tryz.isAgg201, z139 := Tryz.sizeOf201, v139 := Tryz.zeroValue201, g3 := by kernel_rfl, g4 := by kernel_rfl }
theorem f185_spec {a0 : Str} {r : (Int × Int)} (hr : m185 a0 = some r) : Spec Tryz.prog 185 [str a0] [(Ty.str.fact a0 [str a0]), (utf8F 1 2)] (post185 r) := by
 unfold m185 at hr
 obtain ⟨hb, hr⟩ := imust hr
 have hq := oinj hr
 subst hq
 refine spec_of_calls (v := .tuple #[.int .i32 ((Lib.decodeGo ⟨a0.toArray⟩).1 : Int), .int .i64 ((Lib.decodeGo ⟨a0.toArray⟩).2 : Int)]) _ en185 ⟨rfl, rfl⟩ (List.forall_mem_cons.2 ⟨fun F w => ⟨rfl, ?_⟩, List.forall_mem_cons.2 ⟨fun F w => ⟨rfl, ?_⟩, fun _ h => by cases h⟩⟩) (fun w M0 hf => ?_)
 ·have := decodeGo_bd ⟨a0.toArray⟩
  simp only [lo, hi]; omega
 ·have := decodeGo_bd ⟨a0.toArray⟩
  simp only [lo, hi]; omega
 ·exact Any.utf8_decodeRuneInStringSlow lays185 ⟨a0.toArray⟩ w (hf (utf8F 1 2) (by simp)).2.2

def m171 (a0 : Str) : Option (Int × Int) :=
  if a0 = ([] : Str) then
   (m185 a0).bind fun x133 =>
   some (x133.1, x133.2)
  else
   (a0[0]?).bind fun c137 =>
   if c137.toNat < 128 then
    (a0[0]?).bind fun c140 =>
    some ((c140.toNat : Int), 1)
   else
    (m185 a0).bind fun x142 =>
    some (x142.1, x142.2)
def post171 (r : (Int × Int)) (v : Value) (fs : List Fact) : Prop := v = .tuple #[.int .i32 r.1, .int .i64 r.2] ∧ fs = [((Ty.int .i32).fact r.1 [.int .i32 r.1]), ((Ty.int .i64).fact r.2 [.int .i64 r.2])]
theorem en171 : Enters Tryz.prog 171 := ⟨_, Tryz.func171, by kernel_rfl, rfl⟩
theorem f171_spec {a0 : Str} {r : (Int × Int)} (hr : m171 a0 = some r) : Spec Tryz.prog 171 [str a0] [(Ty.str.fact a0 [str a0]), (utf8F 1 2)] (post171 r) := by
 refine spec_start (N := 19) Tryz.func171 (by kernel_rfl) rfl rfl rfl ?_
 intro g hS
 unfold m171 at hr
 refine s_sr (s_as rfl (s_as rfl (s_nt (at_seq (s_sr (s_mv rfl (at_lt (lt_sneq rfl rfl) rfl (s_mv rfl ?_))))))))
 by_cases h132 : a0 = ([] : Str)
 ·replace hr := ipos h132 hr
  refine at_off rfl rfl (nt (decide_eq_true h132)) rfl (at_off rfl rfl (nt (decide_eq_true h132)) rfl (at_off rfl rfl (nt (decide_eq_true h132)) rfl (at_lt (lt_pick false rfl (nt (decide_eq_true h132)) rfl) rfl (s_nt (at_false rfl rfl (at_region (s_mv rfl ?_)))))))
  replace hr := obind hr
  obtain ⟨x133, h134, hr⟩ := hr
  refine at_hv rfl (hv_call0 [0, 1] (f185_spec h134) rfl rfl rfl rfl ?_)
  rintro _ _ ⟨rfl, rfl⟩
  refine at_inv 0 rfl (fun l135 => ?_)
  replace l135 : (-2147483648) ≤ x133.1 ∧ x133.1 ≤ 2147483647 := l135
  refine at_inv 1 rfl (fun l136 => ?_)
  replace l136 : (-9223372036854775808) ≤ x133.2 ∧ x133.2 ≤ 9223372036854775807 := l136
  refine s_mv rfl (at_lt (lt_extract rfl rfl) rfl (at_lt (lt_extract rfl rfl) rfl (s_as rfl (s_as rfl (s_nt (at_ret ?_))))))
  have hq := oinj hr
  clear hr
  subst hq
  exact at_return (.tuple #[.int .i32 x133.1, .int .i64 x133.2]) [0, 1] hS Tryz.results171 (.cons (.tmp rfl) (.cons (.tmp rfl) .nil)) rfl rfl ⟨rfl, rfl⟩
 replace hr := ineg h132 hr
 refine at_on rfl rfl (nf (decide_eq_false h132)) (s_mv rfl ?_)
 replace hr := obind hr
 obtain ⟨c137, h138, hr⟩ := hr
 have := (List.getElem?_eq_some_iff.1 h138).1
 have := c137.toNat_lt
 refine at_on rfl rfl (nf (decide_eq_false h132)) ?_
 refine at_lt (lt_sidx rfl rfl und9 (by omega) h138) rfl ?_
 refine at_on rfl rfl (nf (decide_eq_false h132)) (at_lt (lt_lss rfl rfl) rfl (at_lt (lt_pick true rfl (nf (decide_eq_false h132)) rfl) rfl (s_nt ?_)))
 by_cases h139 : c137.toNat < 128
 ·replace hr := ipos h139 hr
  refine at_true rfl (decide_eq_true (by omega)) ?_
  refine s_sr (s_mv rfl ?_)
  replace hr := obind hr
  obtain ⟨c140, h141, hr⟩ := hr
  have := (List.getElem?_eq_some_iff.1 h141).1
  have := c140.toNat_lt
  refine at_lt (lt_sidx rfl rfl und9 (by omega) h141) rfl ?_
  refine at_lt (lt_convint rfl (iso und5) und21 (u8_in_i32 c140)) rfl (s_as rfl (s_as rfl (s_nt (at_ret ?_))))
  have hq := oinj hr
  clear hr
  subst hq
  refine at_then_ret (at_int .i32 (c140.toNat : Int) (u8_in_i32 c140) (at_int .i64 1 (by simp only [lo, hi]; omega) ?_))
  exact at_return (.tuple #[.int .i32 (c140.toNat : Int), .int .i64 1]) [1, 0] hS Tryz.results171 (.cons (.tmp rfl) (.cons (.tmp rfl) .nil)) rfl rfl ⟨rfl, rfl⟩
 replace hr := ineg h139 hr
 refine at_false rfl (decide_eq_false (by omega)) ?_
 refine at_region (s_mv rfl ?_)
 replace hr := obind hr
 obtain ⟨x142, h143, hr⟩ := hr
 refine at_hv rfl (hv_call0 [0, 1] (f185_spec h143) rfl rfl rfl rfl ?_)
 rintro _ _ ⟨rfl, rfl⟩
 refine at_inv 0 rfl (fun l144 => ?_)
 replace l144 : (-2147483648) ≤ x142.1 ∧ x142.1 ≤ 2147483647 := l144
 refine at_inv 1 rfl (fun l145 => ?_)
 replace l145 : (-9223372036854775808) ≤ x142.2 ∧ x142.2 ≤ 9223372036854775807 := l145
 refine s_mv rfl (at_lt (lt_extract rfl rfl) rfl (at_lt (lt_extract rfl rfl) rfl (s_as rfl (s_as rfl (s_nt (at_ret ?_))))))
 have hq := oinj hr
 clear hr
 subst hq
 exact at_return (.tuple #[.int .i32 x142.1, .int .i64 x142.2]) [0, 1] hS Tryz.results171 (.cons (.tmp rfl) (.cons (.tmp rfl) .nil)) rfl rfl ⟨rfl, rfl⟩
def m192 (a0 : Int) (a1 : Int) (a2 : Int) : Option Bool :=
  if a1 ≤ a0 then
   some (decide (a0 ≤ a2))
  else
   some false
def post192 (r : Bool) (v : Value) (fs : List Fact) : Prop := v = .bool r ∧ fs = []
theorem en192 : Enters Tryz.prog 192 := ⟨_, Tryz.func192, by kernel_rfl, rfl⟩
theorem f192_spec {a0 : Int} {a1 : Int} {a2 : Int} {r : Bool} (hr : m192 a0 a1 a2 = some r) : Spec Tryz.prog 192 [.int .i64 a0, .int .i64 a1, .int .i64 a2] [((Ty.int .i64).fact a0 [.int .i64 a0]), ((Ty.int .i64).fact a1 [.int .i64 a1]), ((Ty.int .i64).fact a2 [.int .i64 a2])] (post192 r) := by
 refine spec_start (N := 15) Tryz.func192 (by kernel_rfl) rfl rfl rfl ?_
 intro g hS
 unfold m192 at hr
 refine at_inv 0 rfl (fun l146 => ?_)
 replace l146 : (-9223372036854775808) ≤ a0 ∧ a0 ≤ 9223372036854775807 := l146
 refine at_inv 1 rfl (fun l147 => ?_)
 replace l147 : (-9223372036854775808) ≤ a1 ∧ a1 ≤ 9223372036854775807 := l147
 refine at_inv 2 rfl (fun l148 => ?_)
 replace l148 : (-9223372036854775808) ≤ a2 ∧ a2 ≤ 9223372036854775807 := l148
 refine s_sr (s_as rfl (s_ntsr (s_mv rfl (s_mv rfl (at_lt (lt_geq rfl rfl) rfl (s_mv rfl ?_))))))
 by_cases h149 : a1 ≤ a0
 ·replace hr := ipos h149 hr
  refine at_on rfl rfl (decide_eq_true (by first | exact h149 | omega)) ?_
  refine s_mv rfl ?_
  refine at_on rfl rfl (decide_eq_true (by first | exact h149 | omega)) ?_
  refine s_mv rfl ?_
  refine at_on rfl rfl (decide_eq_true (by first | exact h149 | omega)) ?_
  refine at_lt (lt_leq rfl rfl) rfl ?_
  refine at_lt (lt_pick true rfl (decide_eq_true (by first | exact h149 | omega)) rfl) rfl ?_
  refine s_as rfl (s_nt (at_ret ?_))
  have hq := oinj hr
  clear hr
  subst hq
  exact at_return (.bool (decide (a0 ≤ a2))) [] hS Tryz.results192 (.cons (.tmp rfl) .nil) rfl rfl ⟨rfl, rfl⟩
 replace hr := ineg h149 hr
 refine at_off rfl rfl (decide_eq_false (by first | exact h149 | omega)) rfl ?_
 refine at_off rfl rfl (decide_eq_false (by first | exact h149 | omega)) rfl ?_
 refine at_off rfl rfl (decide_eq_false (by first | exact h149 | omega)) rfl ?_
 refine at_lt (lt_pick false rfl (decide_eq_false (by first | exact h149 | omega)) rfl) rfl ?_
 refine s_as rfl (s_nt (at_ret ?_))
 have hq := oinj hr
 clear hr
 subst hq
 exact at_return (.bool false) [] hS Tryz.results192 (.cons (.tmp rfl) .nil) rfl rfl ⟨rfl, rfl⟩
def m147 (a0 : Int) : Option Int :=
  some (IntKind.i64.wrap (Int.tdiv (IntKind.i64.wrap (a0 + 16)) 8))
def post147 (r : Int) (v : Value) (fs : List Fact) : Prop := v = .int .i64 r ∧ fs = [((Ty.int .i64).fact r [.int .i64 r])]
theorem en147 : Enters Tryz.prog 147 := ⟨_, Tryz.func147, by kernel_rfl, rfl⟩
theorem f147_spec {a0 : Int} {r : Int} (hr : m147 a0 = some r) : Spec Tryz.prog 147 [.int .i64 a0] [((Ty.int .i64).fact a0 [.int .i64 a0])] (post147 r) := by
 refine spec_start (N := 6) Tryz.func147 (by kernel_rfl) rfl rfl rfl ?_
 intro g hS
 unfold m147 at hr
 refine at_inv 0 rfl (fun l150 => ?_)
 replace l150 : (-9223372036854775808) ≤ a0 ∧ a0 ≤ 9223372036854775807 := l150
 refine s_sr (s_as rfl (s_ntsr (s_mv rfl (at_lt (lt_addw rfl rfl) rfl ?_))))
 refine at_lt (lt_quo rfl rfl (by decide)) rfl ?_
 refine s_as rfl (s_nt (at_ret ?_))
 have hq := oinj hr
 clear hr
 subst hq
 refine at_int .i64 (IntKind.i64.wrap (Int.tdiv (IntKind.i64.wrap (a0 + 16)) 8)) (wrap_bd .i64 _) ?_
 exact at_return (.int .i64 (IntKind.i64.wrap (Int.tdiv (IntKind.i64.wrap (a0 + 16)) 8))) [0] hS Tryz.results147 (.cons (.tmp rfl) .nil) rfl rfl ⟨rfl, rfl⟩
def m168 (a0 : Str) (a1 : UInt8) : Option Int := if a0.length ≤ 9223372036854775807 then some (Lib.indexByte a0 a1) else none
theorem f168_specX {a0 : Str} {a1 : UInt8} {r : Int} (hr : m168 a0 a1 = some r) : SpecX Tryz.prog 168 [str a0, .int .u8 (a1.toNat : Int)] (postInt r) := by
 unfold m168 at hr
 obtain ⟨hb, hr⟩ := imust hr
 obtain rfl := oinj hr
 exact ext_indexByte Tryz.func168 (by kernel_rfl) (by kernel_rfl) rfl rfl hb

def m145 (a0 : Str) (a1 : UInt8) : Option Int :=
  (m168 a0 a1).bind fun x151 =>
  some x151
def post145 (r : Int) (v : Value) (fs : List Fact) : Prop := v = .int .i64 r ∧ fs = [((Ty.int .i64).fact r [.int .i64 r])]
theorem en145 : Enters Tryz.prog 145 := ⟨_, Tryz.func145, by kernel_rfl, rfl⟩
theorem f145_spec {a0 : Str} {a1 : UInt8} {r : Int} (hr : m145 a0 a1 = some r) : Spec Tryz.prog 145 [str a0, .int .u8 (a1.toNat : Int)] [(Ty.str.fact a0 [str a0])] (post145 r) := by
 refine spec_start (N := 8) Tryz.func145 (by kernel_rfl) rfl rfl rfl ?_
 intro g hS
 unfold m145 at hr
 refine s_sr (s_as rfl (s_ntsr (s_mv rfl (s_mv rfl ?_))))
 replace hr := obind hr
 obtain ⟨x151, h152, hr⟩ := hr
 refine at_hv rfl (hv_callx (f168_specX h152) rfl rfl rfl ?_)
 rintro _ _ ⟨rfl, rfl⟩
 refine at_inv 0 rfl (fun l153 => ?_)
 replace l153 : (-9223372036854775808) ≤ x151 ∧ x151 ≤ 9223372036854775807 := l153
 refine s_as rfl (s_nt (at_ret ?_))
 have hq := oinj hr
 clear hr
 subst hq
 exact at_return (.int .i64 x151) [0] hS Tryz.results145 (.cons (.tmp rfl) .nil) rfl rfl ⟨rfl, rfl⟩
def m197 (a0 : Str) (a1 : UInt8) : Option Int :=
  (m145 a0 a1).bind fun x154 =>
  some x154
def post197 (r : Int) (v : Value) (fs : List Fact) : Prop := v = .int .i64 r ∧ fs = [((Ty.int .i64).fact r [.int .i64 r])]
theorem en197 : Enters Tryz.prog 197 := ⟨_, Tryz.func197, by kernel_rfl, rfl⟩
theorem f197_spec {a0 : Str} {a1 : UInt8} {r : Int} (hr : m197 a0 a1 = some r) : Spec Tryz.prog 197 [str a0, .int .u8 (a1.toNat : Int)] [(Ty.str.fact a0 [str a0])] (post197 r) := by
 refine spec_start (N := 8) Tryz.func197 (by kernel_rfl) rfl rfl rfl ?_
 intro g hS
 unfold m197 at hr
 refine s_sr (s_as rfl (s_ntsr (s_mv rfl (s_mv rfl ?_))))
 replace hr := obind hr
 obtain ⟨x154, h155, hr⟩ := hr
 refine at_hv rfl (hv_call0 [0] (f145_spec h155) rfl rfl rfl rfl ?_)
 rintro _ _ ⟨rfl, rfl⟩
 refine at_inv 0 rfl (fun l156 => ?_)
 replace l156 : (-9223372036854775808) ≤ x154 ∧ x154 ≤ 9223372036854775807 := l156
 refine s_as rfl (s_nt (at_ret ?_))
 have hq := oinj hr
 clear hr
 subst hq
 exact at_return (.int .i64 x154) [0] hS Tryz.results197 (.cons (.tmp rfl) .nil) rfl rfl ⟨rfl, rfl⟩
def m198 (a0 : Int) : Option Bool :=
  Option.bind (α := Bool) (
   if (0 : Int) ≤ a0 then
    some (decide (a0 < 55296))
   else
    some false
  ) fun x158 =>
  if x158 = true then
   some true
  else
   Option.bind (α := Bool) (
    if (57343 : Int) < a0 then
     some (decide (a0 ≤ 1114111))
    else
     some false
   ) fun x162 =>
   if x162 = true then
    some true
   else
    some false
def post198 (r : Bool) (v : Value) (fs : List Fact) : Prop := v = .bool r ∧ fs = []
theorem en198 : Enters Tryz.prog 198 := ⟨_, Tryz.func198, by kernel_rfl, rfl⟩
theorem f198_spec {a0 : Int} {r : Bool} (hr : m198 a0 = some r) : Spec Tryz.prog 198 [.int .i32 a0] [((Ty.int .i32).fact a0 [.int .i32 a0])] (post198 r) := by
 refine spec_start (N := 17) Tryz.func198 (by kernel_rfl) rfl rfl rfl ?_
 intro g hS
 unfold m198 at hr
 refine at_inv 0 rfl (fun l157 => ?_)
 replace l157 : (-2147483648) ≤ a0 ∧ a0 ≤ 2147483647 := l157
 refine s_sr (s_as rfl (s_nt (at_seq (at_block (at_seq ?_)))))
 replace hr := obind hr
 obtain ⟨x158, hc159, hr⟩ := hr
 refine at_cut (V := Unit) (fun e => (⟨[(0, .int .i32 a0), (3, .bool x158)], [], [], [((Ty.int .i32).fact a0 [.int .i32 a0])]⟩ : St)) ?_ ?_
 ·clear hr
  have hr := hc159
  clear hc159
  refine at_region (s_mv rfl (at_lt (lt_leq rfl rfl) rfl (s_mv rfl ?_)))
  by_cases h160 : (0 : Int) ≤ a0
  ·replace hr := ipos h160 hr
   refine at_on rfl rfl (decide_eq_true (by first | exact h160 | omega)) ?_
   refine s_mv rfl ?_
   refine at_on rfl rfl (decide_eq_true (by first | exact h160 | omega)) ?_
   refine at_lt (lt_lss rfl rfl) rfl ?_
   refine at_lt (lt_pick true rfl (decide_eq_true (by first | exact h160 | omega)) rfl) rfl ?_
   refine s_as rfl (at_nil ?_)
   have hq := oinj hr
   clear hr
   subst hq
   exact at_leaf () ⟨⟨rfl, ⟨rfl, trivial⟩⟩, ⟨[], rfl⟩, ⟨[], rfl⟩, ⟨[0], rfl⟩⟩
  replace hr := ineg h160 hr
  refine at_off rfl rfl (decide_eq_false (by first | exact h160 | omega)) rfl ?_
  refine at_off rfl rfl (decide_eq_false (by first | exact h160 | omega)) rfl ?_
  refine at_lt (lt_pick false rfl (decide_eq_false (by first | exact h160 | omega)) rfl) rfl ?_
  refine s_as rfl (at_nil ?_)
  have hq := oinj hr
  clear hr
  subst hq
  exact at_leaf () ⟨⟨rfl, ⟨rfl, trivial⟩⟩, ⟨[], rfl⟩, ⟨[], rfl⟩, ⟨[0], rfl⟩⟩
 clear hc159
 intro _
 change At _ _ (⟨[(0, .int .i32 a0), (3, .bool x158)], [], [], [((Ty.int .i32).fact a0 [.int .i32 a0])]⟩ : St) _
 refine at_then ?_
 by_cases h161 : x158 = true
 ·replace hr := ipos h161 hr
  refine at_true rfl h161 (s_sr (s_as rfl (s_nt (at_ret ?_))))
  have hq := oinj hr
  clear hr
  subst hq
  refine at_in_ret (at_then_ret ?_)
  exact at_return (.bool true) [] hS Tryz.results198 (.cons (.tmp rfl) .nil) rfl rfl ⟨rfl, rfl⟩
 replace hr := ineg h161 hr
 refine at_false rfl (bf h161) (at_seq ?_)
 replace hr := obind hr
 obtain ⟨x162, hc163, hr⟩ := hr
 refine at_cut (V := Unit) (fun e => (⟨[(10, .bool x162)], [], [], []⟩ : St)) ?_ ?_
 ·clear hr
  have hr := hc163
  clear hc163
  refine at_region (s_mv rfl (at_lt (lt_lss rfl rfl) rfl (s_mv rfl ?_)))
  by_cases h164 : (57343 : Int) < a0
  ·replace hr := ipos h164 hr
   refine at_on rfl rfl (decide_eq_true (by first | exact h164 | omega)) ?_
   refine s_mv rfl ?_
   refine at_on rfl rfl (decide_eq_true (by first | exact h164 | omega)) ?_
   refine at_lt (lt_leq rfl rfl) rfl ?_
   refine at_lt (lt_pick true rfl (decide_eq_true (by first | exact h164 | omega)) rfl) rfl ?_
   refine s_as rfl (at_nil ?_)
   have hq := oinj hr
   clear hr
   subst hq
   exact at_leaf () ⟨⟨rfl, trivial⟩, ⟨[], rfl⟩, ⟨[], rfl⟩, ⟨[], rfl⟩⟩
  replace hr := ineg h164 hr
  refine at_off rfl rfl (decide_eq_false (by first | exact h164 | omega)) rfl ?_
  refine at_off rfl rfl (decide_eq_false (by first | exact h164 | omega)) rfl ?_
  refine at_lt (lt_pick false rfl (decide_eq_false (by first | exact h164 | omega)) rfl) rfl ?_
  refine s_as rfl (at_nil ?_)
  have hq := oinj hr
  clear hr
  subst hq
  exact at_leaf () ⟨⟨rfl, trivial⟩, ⟨[], rfl⟩, ⟨[], rfl⟩, ⟨[], rfl⟩⟩
 clear hc163
 intro _
 change At _ _ (⟨[(10, .bool x162)], [], [], []⟩ : St) _
 refine at_then ?_
 by_cases h165 : x162 = true
 ·replace hr := ipos h165 hr
  refine at_true rfl h165 (s_sr (s_as rfl (s_nt (at_ret ?_))))
  have hq := oinj hr
  clear hr
  subst hq
  refine at_in_ret (at_then_ret ?_)
  exact at_return (.bool true) [] hS Tryz.results198 (.cons (.tmp rfl) .nil) rfl rfl ⟨rfl, rfl⟩
 replace hr := ineg h165 hr
 refine at_false rfl (bf h165) (at_skip (at_in (s_tsr (s_as rfl (s_nt (at_ret ?_))))))
 have hq := oinj hr
 clear hr
 subst hq
 exact at_return (.bool false) [] hS Tryz.results198 (.cons (.tmp rfl) .nil) rfl rfl ⟨rfl, rfl⟩
def m195_l2 (a0 : Str) (a1 : Int) (x187 : Int) : Nat → Nat → Option (Fl Int Unit)
  | 0, _ => none
  | k + 1, x203 =>
    if x203 < (encR a1).length then
     (at? a0 (IntKind.i64.wrap (x187 - (x203 : Int)))).bind fun c208 =>
     (at? (encR a1) (IntKind.i64.wrap (((encR a1).length : Int) - 1 - (x203 : Int)))).bind fun c210 =>
     if c208.toNat = c210.toNat then
      if x203 + 1 ≤ 9223372036854775807 then
       m195_l2 a0 a1 x187 k (x203 + 1)
      else none
     else
      some (Fl.ret x187)
    else
     some (Fl.go ())
def m195_l3 (a0 : Str) (a1 : Int) (x187 : Int) (x217 : Int) : Nat → Nat → Option (Fl Int Unit)
  | 0, _ => none
  | k + 1, x222 =>
    if x222 < (encR a1).length then
     (at? a0 (IntKind.i64.wrap (IntKind.i64.wrap (x187 + (IntKind.i64.wrap (x217 + 1))) - (x222 : Int)))).bind fun c227 =>
     (at? (encR a1) (IntKind.i64.wrap (((encR a1).length : Int) - 1 - (x222 : Int)))).bind fun c229 =>
     if c227.toNat = c229.toNat then
      if x222 + 1 ≤ 9223372036854775807 then
       m195_l3 a0 a1 x187 x217 k (x222 + 1)
      else none
     else
      some (Fl.ret (IntKind.i64.wrap (x187 + (IntKind.i64.wrap (x217 + 1)))))
    else
     some (Fl.go ())
def m195_l1 (a0 : Str) (a1 : Int) : Nat → Int → Nat → Option (Fl Int Unit)
  | 0, _, _ => none
  | k + 1, x187, x188 =>
    if x187 < (a0.length : Int) then
     withC (α := Int) (fun x195 =>
      if x188 + 1 ≤ 9223372036854775807 then
       (m147 (IntKind.i64.wrap (x195 + 1))).bind fun x235 =>
       if x235 < (x188 : Int) + 1 then
        if IntKind.i64.wrap (x195 + 1) < (a0.length : Int) then
         none
        else
         m195_l1 a0 a1 k (IntKind.i64.wrap (x195 + 1)) (x188 + 1)
       else
        m195_l1 a0 a1 k (IntKind.i64.wrap (x195 + 1)) (x188 + 1)
      else none
     ) fun D196 =>
     (at? a0 x187).bind fun c198 =>
     (at? (encR a1) (((encR a1).length : Int) - 1)).bind fun c200 =>
     if c198.toNat = c200.toNat then
      (m195_l2 a0 a1 x187 ((encR a1).length + 1) 1).bind fun r => match r with
      | .ret x => D196 x
      | .go _ =>
       some (Fl.ret (IntKind.i64.wrap (x187 - (((encR a1).length : Int) - 1))))
     else
      if 0 ≤ IntKind.i64.wrap (x187 + 1) ∧ (IntKind.i64.wrap (x187 + 1)).toNat ≤ a0.length then
       (at? (encR a1) (((encR a1).length : Int) - 1)).bind fun c215 =>
       (m197 (a0.drop ((IntKind.i64.wrap (x187 + 1)).toNat)) c215).bind fun x217 =>
       if x217 < 0 then
        some (Fl.ret (-1))
       else
        (m195_l3 a0 a1 x187 x217 ((encR a1).length + 1) 1).bind fun r => match r with
        | .ret x => D196 x
        | .go _ =>
         some (Fl.ret (IntKind.i64.wrap (IntKind.i64.wrap (x187 + (IntKind.i64.wrap (x217 + 1))) - (((encR a1).length : Int) - 1))))
      else none
    else
     some (Fl.go ())
def m195 (a0 : Str) (a1 : Int) : Option Int :=
  Option.bind (α := Bool) (
   if (0 : Int) ≤ a1 then
    some (decide (a1 < 128))
   else
    some false
  ) fun x167 =>
  if x167 = true then
   (m197 a0 (w8 a1)).bind fun x171 =>
   some x171
  else
   if a1 = 65533 then
    none
   else
    (m198 a1).bind fun x175 =>
    if x175 = true then
     (m195_l1 a0 a1 (a0.length + 1) (((encR a1).length : Int) - 1) 0).bind fun r => match r with
     | .ret x => some x
     | .go _ =>
      some (-1)
    else
     some (-1)
def post195 (r : Int) (v : Value) (fs : List Fact) : Prop := v = .int .i64 r ∧ fs = [((Ty.int .i64).fact r [.int .i64 r])]
theorem en195 : Enters Tryz.prog 195 := ⟨_, Tryz.func195, by kernel_rfl, rfl⟩
theorem f195_spec {a0 : Str} {a1 : Int} {r : Int} (hr : m195 a0 a1 = some r) : Spec Tryz.prog 195 [str a0, .int .i32 a1] [(Ty.str.fact a0 [str a0]), ((Ty.int .i32).fact a1 [.int .i32 a1])] (post195 r) := by
 refine spec_start (N := 187) Tryz.func195 (by kernel_rfl) rfl rfl rfl ?_
 intro g hS
 unfold m195 at hr
 refine at_inv 1 rfl (fun l166 => ?_)
 replace l166 : (-2147483648) ≤ a1 ∧ a1 ≤ 2147483647 := l166
 refine s_sr (s_as rfl (s_nt (at_block (at_seq ?_))))
 replace hr := obind hr
 obtain ⟨x167, hc168, hr⟩ := hr
 refine at_cut (V := Unit) (fun e => (⟨[(0, str a0), (1, .int .i32 a1), (160, .bool x167)], [], [], [(Ty.str.fact a0 [str a0]), ((Ty.int .i32).fact a1 [.int .i32 a1])]⟩ : St)) ?_ ?_
 ·clear hr
  have hr := hc168
  clear hc168
  refine at_region (s_mv rfl (at_lt (lt_leq rfl rfl) rfl (s_mv rfl ?_)))
  by_cases h169 : (0 : Int) ≤ a1
  ·replace hr := ipos h169 hr
   refine at_on rfl rfl (decide_eq_true (by first | exact h169 | omega)) ?_
   refine s_mv rfl ?_
   refine at_on rfl rfl (decide_eq_true (by first | exact h169 | omega)) ?_
   refine at_lt (lt_lss rfl rfl) rfl ?_
   refine at_lt (lt_pick true rfl (decide_eq_true (by first | exact h169 | omega)) rfl) rfl ?_
   refine s_as rfl (at_nil ?_)
   have hq := oinj hr
   clear hr
   subst hq
   exact at_leaf () ⟨⟨rfl, ⟨rfl, ⟨rfl, trivial⟩⟩⟩, ⟨[], rfl⟩, ⟨[], rfl⟩, ⟨[0, 1], rfl⟩⟩
  replace hr := ineg h169 hr
  refine at_off rfl rfl (decide_eq_false (by first | exact h169 | omega)) rfl ?_
  refine at_off rfl rfl (decide_eq_false (by first | exact h169 | omega)) rfl ?_
  refine at_lt (lt_pick false rfl (decide_eq_false (by first | exact h169 | omega)) rfl) rfl ?_
  refine s_as rfl (at_nil ?_)
  have hq := oinj hr
  clear hr
  subst hq
  exact at_leaf () ⟨⟨rfl, ⟨rfl, ⟨rfl, trivial⟩⟩⟩, ⟨[], rfl⟩, ⟨[], rfl⟩, ⟨[0, 1], rfl⟩⟩
 clear hc168
 intro _
 change At _ _ (⟨[(0, str a0), (1, .int .i32 a1), (160, .bool x167)], [], [], [(Ty.str.fact a0 [str a0]), ((Ty.int .i32).fact a1 [.int .i32 a1])]⟩ : St) _
 refine at_then ?_
 by_cases h170 : x167 = true
 ·replace hr := ipos h170 hr
  refine at_true rfl h170 (s_sr (s_mv rfl (s_mv rfl (at_lt (lt_convu8 rfl (iso und21) und5) rfl ?_))))
  replace hr := obind hr
  obtain ⟨x171, h172, hr⟩ := hr
  refine at_hv rfl (hv_call0 [0] (f197_spec h172) rfl rfl rfl rfl ?_)
  rintro _ _ ⟨rfl, rfl⟩
  refine at_inv 0 rfl (fun l173 => ?_)
  replace l173 : (-9223372036854775808) ≤ x171 ∧ x171 ≤ 9223372036854775807 := l173
  refine s_as rfl (s_nt (at_ret ?_))
  have hq := oinj hr
  clear hr
  subst hq
  refine at_in_ret ?_
  exact at_return (.int .i64 x171) [0] hS Tryz.results195 (.cons (.tmp rfl) .nil) rfl rfl ⟨rfl, rfl⟩
 replace hr := ineg h170 hr
 refine at_false rfl (bf h170) (s_sr (s_mv rfl (at_lt (lt_eql rfl rfl) rfl (s_as rfl (s_nt ?_)))))
 by_cases h174 : a1 = 65533
 ·replace hr := ipos h174 hr
  cases hr
 replace hr := ineg h174 hr
 refine at_false rfl (decide_eq_false (by first | exact h174 | omega)) ?_
 refine s_sr (s_mv rfl ?_)
 replace hr := obind hr
 obtain ⟨x175, h176, hr⟩ := hr
 refine at_hv rfl (hv_call0 [1] (f198_spec h176) rfl rfl rfl rfl ?_)
 rintro _ _ ⟨rfl, rfl⟩
 refine at_lt (lt_not rfl) rfl (s_as rfl (s_nt ?_))
 by_cases h177 : x175 = true
 ·replace hr := ipos h177 hr
  refine at_false rfl (nt h177) (at_scope0 (s_sr (s_mv rfl (at_lt (lt_convrs rfl und21 und9) rfl (s_as rfl (s_ntsr (s_mv rfl ?_)))))))
  have l186 : (encR a1).length ≤ 9223372036854775807 := encR_len _
  refine at_lt (lt_slen rfl und9) rfl (at_lt (lt_sub rfl rfl (by simp only [lo, hi]; omega)) rfl (s_as rfl (s_ntsr (s_mv rfl (s_as rfl (s_ntsr (s_as rfl (s_nt (at_seq ?_)))))))))
  refine at_int .i64 (((encR a1).length : Int) - 1) (by simp only [lo, hi]; omega) (at_int .i64 0 (by simp only [lo, hi]; omega) ?_)
  replace hr := obind hr
  obtain ⟨r189, hl190, hk191⟩ := hr
  refine at_cutP (V := (Unit) × (Unit)) (fun v => r189 = Fl.go v.1) (fun v => (⟨[], [], [], []⟩ : St)) ?_ ?_
  ·refine at_block ?_
   refine at_loopW (σ := (Int × Nat)) (V := Unit) (r := r189) (fun n s => m195_l1 a0 a1 n s.1 s.2) (fun s e => (⟨[(0, str a0), (7, str (encR a1)), (8, .int .i64 (((encR a1).length : Int) - 1)), (9, .int .i64 s.1), (10, .int .i64 (s.2 : Int))], [], [], [((Ty.int .i64).fact s.1 [.int .i64 s.1]), ((Ty.int .i64).fact (s.2 : Int) [.int .i64 (s.2 : Int)]), (Ty.str.fact a0 [str a0])]⟩ : St)) (fun _ => rfl) _ (((encR a1).length : Int) - 1, 0) () hl190 ⟨⟨rfl, ⟨rfl, ⟨rfl, ⟨rfl, ⟨rfl, trivial⟩⟩⟩⟩⟩, ⟨[], rfl⟩, ⟨[], rfl⟩, ⟨[1, 0, 2], rfl⟩⟩ ?_
   clear hl190
   intro n s hr e
   obtain ⟨x187, x188⟩ := s
   skip
   change m195_l1 a0 a1 (n + 1) x187 x188 = some r189 at hr
   change At _ _ (⟨[(0, str a0), (7, str (encR a1)), (8, .int .i64 (((encR a1).length : Int) - 1)), (9, .int .i64 x187), (10, .int .i64 (x188 : Int))], [], [], [((Ty.int .i64).fact x187 [.int .i64 x187]), ((Ty.int .i64).fact (x188 : Int) [.int .i64 (x188 : Int)]), (Ty.str.fact a0 [str a0])]⟩ : St) _
   rw [m195_l1] at hr
   refine at_inv 0 rfl (fun l192 => ?_)
   replace l192 : (-9223372036854775808) ≤ x187 ∧ x187 ≤ 9223372036854775807 := l192
   refine at_seq (s_sr (s_mv rfl (s_mv rfl ?_)))
   refine at_inv 2 rfl (fun l193 => ?_)
   replace l193 : a0.length ≤ 9223372036854775807 := l193
   refine at_lt (lt_slen rfl und9) rfl (at_lt (lt_lss rfl rfl) rfl (s_nt ?_))
   by_cases h194 : x187 < (a0.length : Int)
   ·replace hr := ipos h194 hr
    refine at_true rfl (decide_eq_true (by first | exact h194 | omega)) ?_
    refine at_skip (at_then (at_block ?_))
    replace hr := withC_open hr
    obtain ⟨D196, hD197, hr⟩ := hr
    refine at_scope (V := (Int) × (Unit)) 0 (fun v => D196 v.1 = some r189) (fun v => (⟨[(0, str a0), (7, str (encR a1)), (8, .int .i64 (((encR a1).length : Int) - 1)), (9, .int .i64 v.1), (10, .int .i64 (x188 : Int))], [], [], [((Ty.int .i64).fact v.1 [.int .i64 v.1]), (Ty.str.fact a0 [str a0]), ((Ty.int .i64).fact (x188 : Int) [.int .i64 (x188 : Int)])]⟩ : St)) rfl ?_ ?_
    ·refine at_seq ?_
     refine at_seq ?_
     replace hr := obind hr
     obtain ⟨c198, h199, hr⟩ := hr
     have := at?_lt h199
     have := c198.toNat_lt
     replace hr := obind hr
     obtain ⟨c200, h201, hr⟩ := hr
     have := at?_lt h201
     have := c200.toNat_lt
     refine aa_start 7 (by kernel_rfl) ?_
     refine aa_p 0 rfl (lt_move rfl) (aa_p 1 rfl (lt_move rfl) ?_)
     refine aa_p 2 rfl (lt_sidx rfl rfl und9 (at?_lt h199).1 (at?_get h199)) ?_
     refine aa_p 3 rfl (lt_move rfl) (aa_p 4 rfl (lt_move rfl) ?_)
     refine aa_p 5 rfl (lt_sidx rfl rfl und9 (at?_lt h201).1 (at?_get h201)) ?_
     refine aa_p 6 rfl (lt_neq rfl rfl) ?_
     refine aa_done (by kernel_rfl) (ts_in 0 0 rfl rfl) ?_
     refine at_then ?_
     by_cases h202 : c198.toNat = c200.toNat
     ·replace hr := ipos h202 hr
      refine at_false rfl (nt (decide_eq_true (by omega))) ?_
      refine at_skip (at_then (at_seq (s_sr (s_as rfl (s_nt (at_int .i64 1 (by simp only [lo, hi]; omega) ?_))))))
      replace hr := obind hr
      obtain ⟨r204, hl205, hk206⟩ := hr
      refine at_cutP (V := (Unit) × (Unit)) (fun v => r204 = Fl.go v.1) (fun v => (⟨[(8, .int .i64 (((encR a1).length : Int) - 1)), (9, .int .i64 x187)], [], [], [((Ty.int .i64).fact x187 [.int .i64 x187])]⟩ : St)) ?_ ?_
      ·refine at_block ?_
       refine at_loopW (σ := Nat) (V := Unit) (r := r204) (fun n s => m195_l2 a0 a1 x187 n s) (fun s e => (⟨[(0, str a0), (7, str (encR a1)), (8, .int .i64 (((encR a1).length : Int) - 1)), (9, .int .i64 x187), (10, .int .i64 (x188 : Int)), (12, .int .i64 (s : Int))], [], [], [((Ty.int .i64).fact (s : Int) [.int .i64 (s : Int)]), (Ty.str.fact a0 [str a0]), ((Ty.int .i64).fact x187 [.int .i64 x187]), ((Ty.int .i64).fact (x188 : Int) [.int .i64 (x188 : Int)])]⟩ : St)) (fun _ => rfl) _ 1 () hl205 ⟨⟨rfl, ⟨rfl, ⟨rfl, ⟨rfl, ⟨rfl, ⟨rfl, trivial⟩⟩⟩⟩⟩⟩, ⟨[], rfl⟩, ⟨[], rfl⟩, ⟨[0, 3, 1, 2], rfl⟩⟩ ?_
       clear hl205
       intro n x203 hr e
       skip
       skip
       change m195_l2 a0 a1 x187 (n + 1) x203 = some r204 at hr
       change At _ _ (⟨[(0, str a0), (7, str (encR a1)), (8, .int .i64 (((encR a1).length : Int) - 1)), (9, .int .i64 x187), (10, .int .i64 (x188 : Int)), (12, .int .i64 (x203 : Int))], [], [], [((Ty.int .i64).fact (x203 : Int) [.int .i64 (x203 : Int)]), (Ty.str.fact a0 [str a0]), ((Ty.int .i64).fact x187 [.int .i64 x187]), ((Ty.int .i64).fact (x188 : Int) [.int .i64 (x188 : Int)])]⟩ : St) _
       rw [m195_l2] at hr
       refine at_seq (s_sr (s_mv rfl (s_mv rfl (at_lt (lt_slen rfl und9) rfl (at_lt (lt_lss rfl rfl) rfl (s_nt ?_))))))
       by_cases h207 : x203 < (encR a1).length
       ·replace hr := ipos h207 hr
        refine at_true rfl (decide_eq_true (by omega)) ?_
        refine at_skip (at_then (at_seq (at_block (at_seq ?_))))
        replace hr := obind hr
        obtain ⟨c208, h209, hr⟩ := hr
        have := at?_lt h209
        have := c208.toNat_lt
        replace hr := obind hr
        obtain ⟨c210, h211, hr⟩ := hr
        have := at?_lt h211
        have := c210.toNat_lt
        refine aa_start 11 (by kernel_rfl) ?_
        refine aa_p 0 rfl (lt_move rfl) (aa_p 1 rfl (lt_move rfl) (aa_p 2 rfl (lt_move rfl) (aa_p 3 rfl (lt_subw rfl rfl) ?_)))
        refine aa_p 4 rfl (lt_sidx rfl rfl und9 (at?_lt h209).1 (at?_get h209)) ?_
        refine aa_p 5 rfl (lt_move rfl) (aa_p 6 rfl (lt_move rfl) (aa_p 7 rfl (lt_move rfl) (aa_p 8 rfl (lt_subw rfl rfl) ?_)))
        refine aa_p 9 rfl (lt_sidx rfl rfl und9 (at?_lt h211).1 (at?_get h211)) ?_
        refine aa_p 10 rfl (lt_neq rfl rfl) ?_
        refine aa_done (by kernel_rfl) (ts_in 0 0 rfl rfl) ?_
        refine at_then ?_
        by_cases h212 : c208.toNat = c210.toNat
        ·replace hr := ipos h212 hr
         refine at_false rfl (nt (decide_eq_true (by omega))) ?_
         refine at_skip (at_in (s_tr (s_mv rfl ?_)))
         replace hr := imust hr
         obtain ⟨h213, hr⟩ := hr
         refine at_lt (lt_add rfl rfl (by simp only [lo, hi]; omega)) rfl (s_as rfl (at_nil (at_int .i64 (x203 + 1 : Int) (by simp only [lo, hi]; omega) ?_)))
         exact at_again (σ := Nat) (V := Unit) (lp := fun n s => m195_l2 a0 a1 x187 n s) (S := fun s e => (⟨[(0, str a0), (7, str (encR a1)), (8, .int .i64 (((encR a1).length : Int) - 1)), (9, .int .i64 x187), (10, .int .i64 (x188 : Int)), (12, .int .i64 (s : Int))], [], [], [((Ty.int .i64).fact (s : Int) [.int .i64 (s : Int)]), (Ty.str.fact a0 [str a0]), ((Ty.int .i64).fact x187 [.int .i64 x187]), ((Ty.int .i64).fact (x188 : Int) [.int .i64 (x188 : Int)])]⟩ : St)) (x203 + 1) () hr ⟨⟨rfl, ⟨rfl, ⟨rfl, ⟨rfl, ⟨rfl, ⟨rfl, trivial⟩⟩⟩⟩⟩⟩, ⟨[], rfl⟩, ⟨[], rfl⟩, ⟨[0, 2, 3, 4], rfl⟩⟩
        replace hr := ineg h212 hr
        refine at_true rfl (nf (decide_eq_false (by omega))) ?_
        refine at_goto ?_
        have hq := oinj hr
        clear hr
        subst hq
        refine at_in_goto (at_then_goto (at_then_goto (at_in_goto (at_then_goto (at_then_goto ?_)))))
        exact at_jump (x187, ()) hk206 ⟨⟨rfl, ⟨rfl, ⟨rfl, ⟨rfl, ⟨rfl, trivial⟩⟩⟩⟩⟩, ⟨[], rfl⟩, ⟨[], rfl⟩, ⟨[2, 1, 3], rfl⟩⟩
       replace hr := ineg h207 hr
       refine at_false rfl (decide_eq_false (by omega)) ?_
       refine at_exit (at_then_exit (at_then_exit (at_in_exit ?_)))
       have hq := oinj hr
       clear hr
       subst hq
       exact at_leafP ((), ()) rfl ⟨⟨rfl, ⟨rfl, trivial⟩⟩, ⟨[], rfl⟩, ⟨[], rfl⟩, ⟨[2], rfl⟩⟩
      rintro ⟨_, _⟩ hp
      replace hr := hk206
      subst hp
      clear hl205
      change At _ _ (⟨[(8, .int .i64 (((encR a1).length : Int) - 1)), (9, .int .i64 x187)], [], [], [((Ty.int .i64).fact x187 [.int .i64 x187])]⟩ : St) _
      refine at_then (at_seq (s_sr (s_mv rfl (s_mv rfl (at_lt (lt_subw rfl rfl) rfl (s_as rfl (s_nt (at_ret ?_))))))))
      have hq := oinj hr
      clear hr
      subst hq
      have hq := oinj hk191
      clear hk191
      subst hq
      refine at_then_ret (at_jm_ret (at_in_ret (at_then_ret (at_in_ret (at_then_ret (at_then_ret (at_ng_ret (at_in_ret (at_int .i64 (IntKind.i64.wrap (x187 - (((encR a1).length : Int) - 1))) (wrap_bd .i64 _) ?_)))))))))
      exact at_return (.int .i64 (IntKind.i64.wrap (x187 - (((encR a1).length : Int) - 1)))) [0] hS Tryz.results195 (.cons (.tmp rfl) .nil) rfl rfl ⟨rfl, rfl⟩
     replace hr := ineg h202 hr
     refine at_true rfl (nf (decide_eq_false (by omega))) ?_
     refine at_seq ?_
     replace hr := imust hr
     obtain ⟨h214, hr⟩ := hr
     replace hr := obind hr
     obtain ⟨c215, h216, hr⟩ := hr
     have := at?_lt h216
     have := c215.toNat_lt
     replace hr := obind hr
     obtain ⟨x217, h218, hr⟩ := hr
     refine aa_start 9 (by kernel_rfl) ?_
     refine aa_p 0 rfl (lt_move rfl) (aa_p 1 rfl (lt_move rfl) (aa_p 2 rfl (lt_addw rfl rfl) ?_))
     refine aa_p 3 rfl (lt_scut_l ((IntKind.i64.wrap (x187 + 1)).toNat) rfl rfl (by omega) und9 (by omega)) ?_
     refine aa_p 4 rfl (lt_move rfl) (aa_p 5 rfl (lt_move rfl) ?_)
     refine aa_p 6 rfl (lt_sidx rfl rfl und9 (at?_lt h216).1 (at?_get h216)) ?_
     refine aa_one 7 ?_
     refine at_str (a0.drop ((IntKind.i64.wrap (x187 + 1)).toNat)) (by simp only [List.length_take, List.length_drop]; omega) ?_
     refine aa_op rfl rfl (hv_call0 [0] (f197_spec h218) rfl rfl rfl rfl ?_)
     rintro _ _ ⟨rfl, rfl⟩
     refine at_inv 0 rfl (fun l220 => ?_)
     replace l220 : (-9223372036854775808) ≤ x217 ∧ x217 ≤ 9223372036854775807 := l220
     refine aa_pure 8 rfl (by kernel_rfl) rfl rfl (lt_assign rfl) rfl (ts_in 0 2 rfl rfl) ?_
     refine aa_done (by kernel_rfl) (ts_in 0 2 rfl rfl) ?_
     refine at_then (at_seq (s_sr (s_mv rfl (at_lt (lt_lss rfl rfl) rfl (s_nt ?_)))))
     by_cases h221 : x217 < 0
     ·replace hr := ipos h221 hr
      refine at_true rfl (decide_eq_true (by first | exact h221 | omega)) ?_
      refine s_sr (s_as rfl (s_nt (at_ret ?_)))
      have hq := oinj hr
      clear hr
      subst hq
      have hq := oinj hk191
      clear hk191
      subst hq
      refine at_then_ret (at_then_ret (at_jm_ret (at_in_ret (at_then_ret (at_in_ret (at_then_ret (at_then_ret (at_ng_ret (at_in_ret ?_)))))))))
      refine at_int .i64 (-1) (by simp only [lo, hi]; omega) ?_
      exact at_return (.int .i64 (-1)) [0] hS Tryz.results195 (.cons (.tmp rfl) .nil) rfl rfl ⟨rfl, rfl⟩
     replace hr := ineg h221 hr
     refine at_false rfl (decide_eq_false (by first | exact h221 | omega)) ?_
     refine at_skip (s_tr (s_mv rfl (s_mv rfl (at_lt (lt_addw rfl rfl) rfl (at_lt (lt_addw rfl rfl) rfl (s_as rfl (s_nt (at_seq (s_sr ?_)))))))))
     refine s_as rfl (s_nt (at_int .i64 1 (by simp only [lo, hi]; omega) ?_))
     replace hr := obind hr
     obtain ⟨r223, hl224, hk225⟩ := hr
     refine at_cutP (V := (Unit) × (Unit)) (fun v => r223 = Fl.go v.1) (fun v => (⟨[(8, .int .i64 (((encR a1).length : Int) - 1)), (9, .int .i64 (IntKind.i64.wrap (x187 + (IntKind.i64.wrap (x217 + 1)))))], [], [], []⟩ : St)) ?_ ?_
     ·refine at_block ?_
      refine at_loopW (σ := Nat) (V := Unit) (r := r223) (fun n s => m195_l3 a0 a1 x187 x217 n s) (fun s e => (⟨[(0, str a0), (7, str (encR a1)), (8, .int .i64 (((encR a1).length : Int) - 1)), (9, .int .i64 (IntKind.i64.wrap (x187 + (IntKind.i64.wrap (x217 + 1))))), (10, .int .i64 (x188 : Int)), (12, .int .i64 (s : Int))], [], [], [((Ty.int .i64).fact (s : Int) [.int .i64 (s : Int)]), (Ty.str.fact a0 [str a0]), ((Ty.int .i64).fact (x188 : Int) [.int .i64 (x188 : Int)])]⟩ : St)) (fun _ => rfl) _ 1 () hl224 ⟨⟨rfl, ⟨rfl, ⟨rfl, ⟨rfl, ⟨rfl, ⟨rfl, trivial⟩⟩⟩⟩⟩⟩, ⟨[], rfl⟩, ⟨[], rfl⟩, ⟨[0, 5, 4], rfl⟩⟩ ?_
      clear hl224
      intro n x222 hr e
      skip
      skip
      change m195_l3 a0 a1 x187 x217 (n + 1) x222 = some r223 at hr
      change At _ _ (⟨[(0, str a0), (7, str (encR a1)), (8, .int .i64 (((encR a1).length : Int) - 1)), (9, .int .i64 (IntKind.i64.wrap (x187 + (IntKind.i64.wrap (x217 + 1))))), (10, .int .i64 (x188 : Int)), (12, .int .i64 (x222 : Int))], [], [], [((Ty.int .i64).fact (x222 : Int) [.int .i64 (x222 : Int)]), (Ty.str.fact a0 [str a0]), ((Ty.int .i64).fact (x188 : Int) [.int .i64 (x188 : Int)])]⟩ : St) _
      rw [m195_l3] at hr
      refine at_seq (s_sr (s_mv rfl (s_mv rfl (at_lt (lt_slen rfl und9) rfl (at_lt (lt_lss rfl rfl) rfl (s_nt ?_))))))
      by_cases h226 : x222 < (encR a1).length
      ·replace hr := ipos h226 hr
       refine at_true rfl (decide_eq_true (by omega)) ?_
       refine at_skip (at_then (at_seq (at_block (at_seq ?_))))
       replace hr := obind hr
       obtain ⟨c227, h228, hr⟩ := hr
       have := at?_lt h228
       have := c227.toNat_lt
       replace hr := obind hr
       obtain ⟨c229, h230, hr⟩ := hr
       have := at?_lt h230
       have := c229.toNat_lt
       refine aa_start 11 (by kernel_rfl) ?_
       refine aa_p 0 rfl (lt_move rfl) (aa_p 1 rfl (lt_move rfl) (aa_p 2 rfl (lt_move rfl) (aa_p 3 rfl (lt_subw rfl rfl) ?_)))
       refine aa_p 4 rfl (lt_sidx rfl rfl und9 (at?_lt h228).1 (at?_get h228)) ?_
       refine aa_p 5 rfl (lt_move rfl) (aa_p 6 rfl (lt_move rfl) (aa_p 7 rfl (lt_move rfl) (aa_p 8 rfl (lt_subw rfl rfl) ?_)))
       refine aa_p 9 rfl (lt_sidx rfl rfl und9 (at?_lt h230).1 (at?_get h230)) ?_
       refine aa_p 10 rfl (lt_neq rfl rfl) ?_
       refine aa_done (by kernel_rfl) (ts_in 0 0 rfl rfl) ?_
       refine at_then ?_
       by_cases h231 : c227.toNat = c229.toNat
       ·replace hr := ipos h231 hr
        refine at_false rfl (nt (decide_eq_true (by omega))) ?_
        refine at_skip (at_in (s_tr (s_mv rfl ?_)))
        replace hr := imust hr
        obtain ⟨h232, hr⟩ := hr
        refine at_lt (lt_add rfl rfl (by simp only [lo, hi]; omega)) rfl (s_as rfl (at_nil (at_int .i64 (x222 + 1 : Int) (by simp only [lo, hi]; omega) ?_)))
        exact at_again (σ := Nat) (V := Unit) (lp := fun n s => m195_l3 a0 a1 x187 x217 n s) (S := fun s e => (⟨[(0, str a0), (7, str (encR a1)), (8, .int .i64 (((encR a1).length : Int) - 1)), (9, .int .i64 (IntKind.i64.wrap (x187 + (IntKind.i64.wrap (x217 + 1))))), (10, .int .i64 (x188 : Int)), (12, .int .i64 (s : Int))], [], [], [((Ty.int .i64).fact (s : Int) [.int .i64 (s : Int)]), (Ty.str.fact a0 [str a0]), ((Ty.int .i64).fact (x188 : Int) [.int .i64 (x188 : Int)])]⟩ : St)) (x222 + 1) () hr ⟨⟨rfl, ⟨rfl, ⟨rfl, ⟨rfl, ⟨rfl, ⟨rfl, trivial⟩⟩⟩⟩⟩⟩, ⟨[], rfl⟩, ⟨[], rfl⟩, ⟨[0, 2, 3], rfl⟩⟩
       replace hr := ineg h231 hr
       refine at_true rfl (nf (decide_eq_false (by omega))) ?_
       refine at_goto ?_
       have hq := oinj hr
       clear hr
       subst hq
       refine at_in_goto (at_then_goto (at_then_goto (at_in_goto (at_then_goto (at_then_goto (at_int .i64 (IntKind.i64.wrap (x187 + (IntKind.i64.wrap (x217 + 1)))) (wrap_bd .i64 _) ?_))))))
       exact at_jump ((IntKind.i64.wrap (x187 + (IntKind.i64.wrap (x217 + 1)))), ()) hk225 ⟨⟨rfl, ⟨rfl, ⟨rfl, ⟨rfl, ⟨rfl, trivial⟩⟩⟩⟩⟩, ⟨[], rfl⟩, ⟨[], rfl⟩, ⟨[0, 2, 3], rfl⟩⟩
      replace hr := ineg h226 hr
      refine at_false rfl (decide_eq_false (by omega)) ?_
      refine at_exit (at_then_exit (at_then_exit (at_in_exit ?_)))
      have hq := oinj hr
      clear hr
      subst hq
      exact at_leafP ((), ()) rfl ⟨⟨rfl, ⟨rfl, trivial⟩⟩, ⟨[], rfl⟩, ⟨[], rfl⟩, ⟨[], rfl⟩⟩
     rintro ⟨_, _⟩ hp
     replace hr := hk225
     subst hp
     clear hl224
     change At _ _ (⟨[(8, .int .i64 (((encR a1).length : Int) - 1)), (9, .int .i64 (IntKind.i64.wrap (x187 + (IntKind.i64.wrap (x217 + 1)))))], [], [], []⟩ : St) _
     refine at_then (at_seq (s_sr (s_mv rfl (s_mv rfl (at_lt (lt_subw rfl rfl) rfl (s_as rfl (s_nt (at_ret ?_))))))))
     have hq := oinj hr
     clear hr
     subst hq
     have hq := oinj hk191
     clear hk191
     subst hq
     refine at_then_ret (at_jm_ret (at_in_ret (at_then_ret (at_in_ret (at_then_ret (at_then_ret (at_ng_ret (at_in_ret (at_int .i64 (IntKind.i64.wrap (IntKind.i64.wrap (x187 + (IntKind.i64.wrap (x217 + 1))) - (((encR a1).length : Int) - 1))) (wrap_bd .i64 _) ?_)))))))))
     exact at_return (.int .i64 (IntKind.i64.wrap (IntKind.i64.wrap (x187 + (IntKind.i64.wrap (x217 + 1))) - (((encR a1).length : Int) - 1)))) [0] hS Tryz.results195 (.cons (.tmp rfl) .nil) rfl rfl ⟨rfl, rfl⟩
    rintro ⟨x195, _⟩ hp
    subst hD197
    clear hr
    have hr := hp
    clear hp
    change At _ _ (⟨[(0, str a0), (7, str (encR a1)), (8, .int .i64 (((encR a1).length : Int) - 1)), (9, .int .i64 x195), (10, .int .i64 (x188 : Int))], [], [], [((Ty.int .i64).fact x195 [.int .i64 x195]), (Ty.str.fact a0 [str a0]), ((Ty.int .i64).fact (x188 : Int) [.int .i64 (x188 : Int)])]⟩ : St) _
    refine at_seq (at_skip (at_then ?_))
    refine at_inv 0 rfl (fun l233 => ?_)
    replace l233 : (-9223372036854775808) ≤ x195 ∧ x195 ≤ 9223372036854775807 := l233
    refine s_sr (s_mv rfl ?_)
    replace hr := imust hr
    obtain ⟨h234, hr⟩ := hr
    refine at_lt (lt_add rfl rfl (by simp only [lo, hi]; omega)) rfl (s_as rfl (s_ntsr (s_mv rfl (at_lt (lt_addw rfl rfl) rfl (s_as rfl (s_ntsr (s_mv rfl (at_on rfl rfl rfl (s_mv rfl ?_)))))))))
    refine at_on rfl rfl rfl (s_mv rfl ?_)
    replace hr := obind hr
    obtain ⟨x235, h236, hr⟩ := hr
    refine at_int .i64 (IntKind.i64.wrap (x195 + 1)) (wrap_bd .i64 _) (at_on rfl rfl rfl (at_hv rfl (hv_call0 [0] (f147_spec h236) rfl rfl rfl rfl ?_)))
    rintro _ _ ⟨rfl, rfl⟩
    refine at_inv 0 rfl (fun l237 => ?_)
    replace l237 : (-9223372036854775808) ≤ x235 ∧ x235 ≤ 9223372036854775807 := l237
    refine at_on rfl rfl rfl (at_lt (lt_gtr rfl rfl) rfl (at_lt (lt_pick true rfl rfl rfl) rfl (s_mv rfl ?_)))
    by_cases h238 : x235 < (x188 : Int) + 1
    ·replace hr := ipos h238 hr
     refine at_on rfl rfl (decide_eq_true (by first | exact h238 | omega)) ?_
     refine s_mv rfl ?_
     refine at_on rfl rfl (decide_eq_true (by first | exact h238 | omega)) ?_
     refine s_mv rfl ?_
     refine at_on rfl rfl (decide_eq_true (by first | exact h238 | omega)) ?_
     refine at_lt (lt_slen rfl und9) rfl ?_
     refine at_on rfl rfl (decide_eq_true (by first | exact h238 | omega)) ?_
     refine at_lt (lt_lss rfl rfl) rfl ?_
     refine at_lt (lt_pick true rfl (decide_eq_true (by first | exact h238 | omega)) rfl) rfl ?_
     refine s_mv rfl ?_
     by_cases h239 : IntKind.i64.wrap (x195 + 1) < (a0.length : Int)
     ·replace hr := ipos h239 hr
      cases hr
     replace hr := ineg h239 hr
     refine at_on rfl rfl (decide_eq_false (by first | exact h239 | omega)) ?_
     refine s_mv rfl (at_off rfl rfl rfl rfl (at_off rfl rfl rfl rfl (at_off rfl rfl rfl rfl (at_off rfl rfl rfl rfl (at_off rfl rfl rfl rfl ?_)))))
     refine at_on rfl rfl (decide_eq_false (by first | exact h239 | omega)) ?_
     refine at_lt (lt_pick false rfl rfl rfl) rfl ?_
     refine at_on rfl rfl (decide_eq_false (by first | exact h239 | omega)) ?_
     refine s_mv rfl (at_off rfl rfl rfl rfl (at_off rfl rfl rfl rfl (at_off rfl rfl rfl rfl (at_off rfl rfl rfl rfl ?_))))
     refine at_on rfl rfl (decide_eq_false (by first | exact h239 | omega)) ?_
     refine at_lt (lt_pick false rfl rfl rfl) rfl ?_
     refine at_lt (lt_pick false rfl (decide_eq_false (by first | exact h239 | omega)) rfl) rfl ?_
     refine s_nt (at_false rfl rfl (at_skip (at_ng (at_in (at_int .i64 (x188 + 1 : Int) (by simp only [lo, hi]; omega) ?_)))))
     exact at_again (σ := (Int × Nat)) (V := Unit) (lp := fun n s => m195_l1 a0 a1 n s.1 s.2) (S := fun s e => (⟨[(0, str a0), (7, str (encR a1)), (8, .int .i64 (((encR a1).length : Int) - 1)), (9, .int .i64 s.1), (10, .int .i64 (s.2 : Int))], [], [], [((Ty.int .i64).fact s.1 [.int .i64 s.1]), ((Ty.int .i64).fact (s.2 : Int) [.int .i64 (s.2 : Int)]), (Ty.str.fact a0 [str a0])]⟩ : St)) (IntKind.i64.wrap (x195 + 1), x188 + 1) () hr ⟨⟨rfl, ⟨rfl, ⟨rfl, ⟨rfl, ⟨rfl, trivial⟩⟩⟩⟩⟩, ⟨[], rfl⟩, ⟨[], rfl⟩, ⟨[2, 0, 4], rfl⟩⟩
    replace hr := ineg h238 hr
    refine at_off rfl rfl (decide_eq_false (by first | exact h238 | omega)) rfl ?_
    refine at_off rfl rfl (decide_eq_false (by first | exact h238 | omega)) rfl ?_
    refine at_off rfl rfl (decide_eq_false (by first | exact h238 | omega)) rfl ?_
    refine at_off rfl rfl (decide_eq_false (by first | exact h238 | omega)) rfl ?_
    refine at_lt (lt_pick false rfl (decide_eq_false (by first | exact h238 | omega)) rfl) rfl ?_
    refine s_mv rfl (at_on rfl rfl rfl (s_mv rfl (at_off rfl rfl rfl rfl (at_off rfl rfl rfl rfl (at_off rfl rfl rfl rfl (at_off rfl rfl rfl rfl (at_off rfl rfl rfl rfl (at_on rfl rfl rfl (at_lt (lt_pick false rfl rfl rfl) rfl ?_)))))))))
    refine at_on rfl rfl rfl (s_mv rfl (at_off rfl rfl rfl rfl (at_off rfl rfl rfl rfl (at_off rfl rfl rfl rfl (at_off rfl rfl rfl rfl (at_on rfl rfl rfl (at_lt (lt_pick false rfl rfl rfl) rfl (at_lt (lt_pick false rfl rfl rfl) rfl (s_nt ?_)))))))))
    refine at_false rfl rfl (at_skip (at_ng (at_in (at_int .i64 (x188 + 1 : Int) (by simp only [lo, hi]; omega) ?_))))
    exact at_again (σ := (Int × Nat)) (V := Unit) (lp := fun n s => m195_l1 a0 a1 n s.1 s.2) (S := fun s e => (⟨[(0, str a0), (7, str (encR a1)), (8, .int .i64 (((encR a1).length : Int) - 1)), (9, .int .i64 s.1), (10, .int .i64 (s.2 : Int))], [], [], [((Ty.int .i64).fact s.1 [.int .i64 s.1]), ((Ty.int .i64).fact (s.2 : Int) [.int .i64 (s.2 : Int)]), (Ty.str.fact a0 [str a0])]⟩ : St)) (IntKind.i64.wrap (x195 + 1), x188 + 1) () hr ⟨⟨rfl, ⟨rfl, ⟨rfl, ⟨rfl, ⟨rfl, trivial⟩⟩⟩⟩⟩, ⟨[], rfl⟩, ⟨[], rfl⟩, ⟨[2, 0, 4], rfl⟩⟩
   replace hr := ineg h194 hr
   refine at_false rfl (decide_eq_false (by first | exact h194 | omega)) ?_
   refine at_exit (at_then_exit (at_then_exit (at_in_exit ?_)))
   have hq := oinj hr
   clear hr
   subst hq
   exact at_leafP ((), ()) rfl ⟨trivial, ⟨[], rfl⟩, ⟨[], rfl⟩, ⟨[], rfl⟩⟩
  rintro ⟨_, _⟩ hp
  replace hr := hk191
  subst hp
  clear hl190
  change At _ _ (⟨[], [], [], []⟩ : St) _
  refine at_then (at_seq (s_sr (s_as rfl (s_nt (at_ret ?_)))))
  have hq := oinj hr
  clear hr
  subst hq
  refine at_then_ret (at_ng_ret (at_in_ret (at_int .i64 (-1) (by simp only [lo, hi]; omega) ?_)))
  exact at_return (.int .i64 (-1)) [0] hS Tryz.results195 (.cons (.tmp rfl) .nil) rfl rfl ⟨rfl, rfl⟩
 replace hr := ineg h177 hr
 refine at_true rfl (nf (bf h177)) (s_sr (s_as rfl (s_nt (at_ret ?_))))
 have hq := oinj hr
 clear hr
 subst hq
 refine at_in_ret (at_int .i64 (-1) (by simp only [lo, hi]; omega) ?_)
 exact at_return (.int .i64 (-1)) [0] hS Tryz.results195 (.cons (.tmp rfl) .nil) rfl rfl ⟨rfl, rfl⟩
def m190 (a0 : Str) (a1 : Int) : Option Bool :=
  (m195 a0 a1).bind fun x241 =>
  some (decide ((0 : Int) ≤ x241))
def post190 (r : Bool) (v : Value) (fs : List Fact) : Prop := v = .bool r ∧ fs = []
theorem en190 : Enters Tryz.prog 190 := ⟨_, Tryz.func190, by kernel_rfl, rfl⟩
theorem f190_spec {a0 : Str} {a1 : Int} {r : Bool} (hr : m190 a0 a1 = some r) : Spec Tryz.prog 190 [str a0, .int .i32 a1] [(Ty.str.fact a0 [str a0]), ((Ty.int .i32).fact a1 [.int .i32 a1])] (post190 r) := by
 refine spec_start (N := 9) Tryz.func190 (by kernel_rfl) rfl rfl rfl ?_
 intro g hS
 unfold m190 at hr
 refine at_inv 1 rfl (fun l240 => ?_)
 replace l240 : (-2147483648) ≤ a1 ∧ a1 ≤ 2147483647 := l240
 refine s_sr (s_as rfl (s_ntsr (s_mv rfl (s_mv rfl ?_))))
 replace hr := obind hr
 obtain ⟨x241, h242, hr⟩ := hr
 refine at_hv rfl (hv_call0 [0, 1] (f195_spec h242) rfl rfl rfl rfl ?_)
 rintro _ _ ⟨rfl, rfl⟩
 refine at_inv 0 rfl (fun l243 => ?_)
 replace l243 : (-9223372036854775808) ≤ x241 ∧ x241 ≤ 9223372036854775807 := l243
 refine at_lt (lt_geq rfl rfl) rfl (s_as rfl (s_nt (at_ret ?_)))
 have hq := oinj hr
 clear hr
 subst hq
 exact at_return (.bool (decide ((0 : Int) ≤ x241))) [] hS Tryz.results190 (.cons (.tmp rfl) .nil) rfl rfl ⟨rfl, rfl⟩
def m193 (a0 : Int) : Option Int :=
  (m192 a0 65 90).bind fun x245 =>
  if x245 = true then
   some 1
  else
   (m192 a0 97 122).bind fun x248 =>
   if x248 = true then
    some 1
   else
    if a0 = 383 then
     some 1
    else
     (m192 a0 64257 64258).bind fun x252 =>
     if x252 = true then
      some 1
     else
      (m190 ([195, 128, 195, 136, 195, 140, 195, 146, 195, 153, 195, 160, 195, 168, 195, 172, 195, 178, 195, 185, 195, 129, 195, 137, 195, 141, 195, 147, 195, 154, 195, 157, 195, 161, 195, 169, 195, 173, 195, 179, 195, 186, 195, 189, 196, 134, 196, 135, 196, 185, 196, 186, 197, 131, 197, 132, 197, 148, 197, 149, 197, 154, 197, 155, 197, 185, 197, 186, 195, 130, 195, 138, 195, 142, 195, 148, 195, 155, 195, 162, 195, 170, 195, 174, 195, 180, 195, 187, 196, 136, 196, 137, 196, 156, 196, 157, 196, 164, 196, 165, 196, 180, 196, 181, 197, 156, 197, 157, 197, 180, 197, 181, 197, 182, 197, 183, 195, 131, 195, 145, 195, 149, 195, 163, 195, 177, 195, 181, 196, 168, 196, 169, 197, 168, 197, 169, 196, 128, 196, 129, 196, 146, 196, 147, 196, 170, 196, 171, 197, 140, 197, 141, 197, 170, 197, 171, 196, 130, 196, 131, 196, 148, 196, 149, 196, 158, 196, 159, 196, 172, 196, 173, 197, 142, 197, 143, 197, 172, 197, 173, 196, 138, 196, 139, 196, 150, 196, 151, 196, 160, 196, 161, 196, 176, 197, 187, 197, 188, 195, 132, 195, 139, 195, 143, 195, 150, 195, 156, 195, 164, 195, 171, 195, 175, 195, 182, 195, 188, 195, 191, 197, 184, 195, 133, 195, 165, 197, 174, 197, 175, 197, 144, 197, 145, 197, 176, 197, 177, 196, 140, 196, 141, 196, 142, 196, 143, 196, 154, 196, 155, 197, 135, 197, 136, 197, 152, 197, 153, 197, 160, 197, 161, 197, 164, 197, 165, 197, 189, 197, 190, 196, 189, 196, 190, 195, 135, 195, 167, 196, 162, 196, 163, 196, 182, 196, 183, 196, 187, 196, 188, 197, 133, 197, 134, 197, 150, 197, 151, 197, 158, 197, 159, 197, 162, 197, 163, 196, 132, 196, 133, 196, 152, 196, 153, 196, 174, 196, 175, 197, 178, 197, 179, 195, 134, 195, 166, 195, 152, 195, 184, 195, 144, 195, 176, 195, 158, 195, 190, 195, 159, 196, 144, 196, 145, 196, 166, 196, 167, 196, 177, 197, 129, 197, 130, 197, 146, 197, 147, 197, 138, 197, 139, 197, 166, 197, 167] : Str) (IntKind.i32.wrap a0)).bind fun x255 =>
      if x255 = true then
       some 1
      else
       if a0 = 930 then
        (m192 a0 945 969).bind fun x259 =>
        if x259 = true then
         some 2
        else
         (m190 ([206, 134, 206, 136, 206, 137, 206, 138, 206, 140, 206, 142, 206, 143, 206, 172, 206, 173, 206, 174, 206, 175, 207, 140, 207, 141, 207, 142, 206, 170, 206, 171, 207, 138, 207, 139] : Str) (IntKind.i32.wrap a0)).bind fun x262 =>
         if x262 = true then
          some 2
         else
          (m192 a0 1040 1103).bind fun x265 =>
          if x265 = true then
           some 3
          else
           (m190 ([208, 129, 209, 145, 208, 135, 209, 151, 208, 132, 209, 148, 210, 144, 210, 145, 208, 142, 209, 158, 208, 134, 209, 150] : Str) (IntKind.i32.wrap a0)).bind fun x268 =>
           if x268 = true then
            some 3
           else
            some 0
       else
        (m192 a0 913 937).bind fun x271 =>
        if x271 = true then
         some 2
        else
         (m192 a0 945 969).bind fun x274 =>
         if x274 = true then
          some 2
         else
          (m190 ([206, 134, 206, 136, 206, 137, 206, 138, 206, 140, 206, 142, 206, 143, 206, 172, 206, 173, 206, 174, 206, 175, 207, 140, 207, 141, 207, 142, 206, 170, 206, 171, 207, 138, 207, 139] : Str) (IntKind.i32.wrap a0)).bind fun x277 =>
          if x277 = true then
           some 2
          else
           (m192 a0 1040 1103).bind fun x280 =>
           if x280 = true then
            some 3
           else
            (m190 ([208, 129, 209, 145, 208, 135, 209, 151, 208, 132, 209, 148, 210, 144, 210, 145, 208, 142, 209, 158, 208, 134, 209, 150] : Str) (IntKind.i32.wrap a0)).bind fun x283 =>
            if x283 = true then
             some 3
            else
             some 0
def post193 (r : Int) (v : Value) (fs : List Fact) : Prop := v = .int .i64 r ∧ fs = [((Ty.int .i64).fact r [.int .i64 r])]
theorem en193 : Enters Tryz.prog 193 := ⟨_, Tryz.func193, by kernel_rfl, rfl⟩
theorem f193_spec {a0 : Int} {r : Int} (hr : m193 a0 = some r) : Spec Tryz.prog 193 [.int .i64 a0] [((Ty.int .i64).fact a0 [.int .i64 a0])] (post193 r) := by
 refine spec_start (N := 47) Tryz.func193 (by kernel_rfl) rfl rfl rfl ?_
 intro g hS
 unfold m193 at hr
 refine at_inv 0 rfl (fun l244 => ?_)
 replace l244 : (-9223372036854775808) ≤ a0 ∧ a0 ≤ 9223372036854775807 := l244
 refine s_sr (s_as rfl (s_nt (at_seq (at_block (s_sr (s_mv rfl ?_))))))
 replace hr := obind hr
 obtain ⟨x245, h246, hr⟩ := hr
 refine at_int .i64 65 (by simp only [lo, hi]; omega) (at_int .i64 90 (by simp only [lo, hi]; omega) (at_hv rfl (hv_call0 [2, 1, 0] (f192_spec h246) rfl rfl rfl rfl ?_)))
 rintro _ _ ⟨rfl, rfl⟩
 refine s_mv rfl ?_
 by_cases h247 : x245 = true
 ·replace hr := ipos h247 hr
  refine at_off rfl rfl h247 rfl (at_off rfl rfl h247 rfl (at_lt (lt_pick true rfl h247 rfl) rfl (s_mv rfl (at_off rfl rfl rfl rfl (at_off rfl rfl rfl rfl (at_lt (lt_pick true rfl rfl rfl) rfl (s_mv rfl (at_off rfl rfl rfl rfl (at_off rfl rfl rfl rfl ?_)))))))))
  refine at_lt (lt_pick true rfl rfl rfl) rfl (s_mv rfl (at_off rfl rfl rfl rfl (at_off rfl rfl rfl rfl (at_off rfl rfl rfl rfl (at_lt (lt_pick true rfl rfl rfl) rfl (s_as rfl (s_nt (at_true rfl rfl (s_sr ?_)))))))))
  refine s_as rfl (s_nt (at_ret ?_))
  have hq := oinj hr
  clear hr
  subst hq
  refine at_in_ret (at_then_ret (at_int .i64 1 (by simp only [lo, hi]; omega) ?_))
  exact at_return (.int .i64 1) [0] hS Tryz.results193 (.cons (.tmp rfl) .nil) rfl rfl ⟨rfl, rfl⟩
 replace hr := ineg h247 hr
 refine at_on rfl rfl (bf h247) (s_mv rfl ?_)
 replace hr := obind hr
 obtain ⟨x248, h249, hr⟩ := hr
 refine at_int .i64 97 (by simp only [lo, hi]; omega) (at_int .i64 122 (by simp only [lo, hi]; omega) (at_on rfl rfl (bf h247) (at_hv rfl (hv_call0 [4, 1, 0] (f192_spec h249) rfl rfl rfl rfl ?_))))
 rintro _ _ ⟨rfl, rfl⟩
 refine at_lt (lt_pick false rfl (bf h247) rfl) rfl (s_mv rfl ?_)
 by_cases h250 : x248 = true
 ·replace hr := ipos h250 hr
  refine at_off rfl rfl h250 rfl (at_off rfl rfl h250 rfl (at_lt (lt_pick true rfl h250 rfl) rfl (s_mv rfl (at_off rfl rfl rfl rfl (at_off rfl rfl rfl rfl (at_lt (lt_pick true rfl rfl rfl) rfl (s_mv rfl (at_off rfl rfl rfl rfl (at_off rfl rfl rfl rfl ?_)))))))))
  refine at_off rfl rfl rfl rfl (at_lt (lt_pick true rfl rfl rfl) rfl (s_as rfl (s_nt (at_true rfl rfl (s_sr (s_as rfl (s_nt (at_ret ?_))))))))
  have hq := oinj hr
  clear hr
  subst hq
  refine at_in_ret (at_then_ret (at_int .i64 1 (by simp only [lo, hi]; omega) ?_))
  exact at_return (.int .i64 1) [0] hS Tryz.results193 (.cons (.tmp rfl) .nil) rfl rfl ⟨rfl, rfl⟩
 replace hr := ineg h250 hr
 refine at_on rfl rfl (bf h250) (s_mv rfl (at_on rfl rfl (bf h250) (at_lt (lt_eql rfl rfl) rfl (at_lt (lt_pick false rfl (bf h250) rfl) rfl (s_mv rfl ?_)))))
 by_cases h251 : a0 = 383
 ·replace hr := ipos h251 hr
  refine at_off rfl rfl (decide_eq_true (by first | exact h251 | omega)) rfl ?_
  refine at_off rfl rfl (decide_eq_true (by first | exact h251 | omega)) rfl ?_
  refine at_lt (lt_pick true rfl (decide_eq_true (by first | exact h251 | omega)) rfl) rfl ?_
  refine s_mv rfl (at_off rfl rfl rfl rfl (at_off rfl rfl rfl rfl (at_off rfl rfl rfl rfl (at_lt (lt_pick true rfl rfl rfl) rfl (s_as rfl (s_nt (at_true rfl rfl (s_sr (s_as rfl ?_)))))))))
  refine s_nt (at_ret ?_)
  have hq := oinj hr
  clear hr
  subst hq
  refine at_in_ret (at_then_ret (at_int .i64 1 (by simp only [lo, hi]; omega) ?_))
  exact at_return (.int .i64 1) [0] hS Tryz.results193 (.cons (.tmp rfl) .nil) rfl rfl ⟨rfl, rfl⟩
 replace hr := ineg h251 hr
 refine at_on rfl rfl (decide_eq_false (by first | exact h251 | omega)) ?_
 refine s_mv rfl ?_
 replace hr := obind hr
 obtain ⟨x252, h253, hr⟩ := hr
 refine at_int .i64 64257 (by simp only [lo, hi]; omega) (at_int .i64 64258 (by simp only [lo, hi]; omega) ?_)
 refine at_on rfl rfl (decide_eq_false (by first | exact h251 | omega)) ?_
 refine at_hv rfl (hv_call0 [6, 1, 0] (f192_spec h253) rfl rfl rfl rfl ?_)
 rintro _ _ ⟨rfl, rfl⟩
 refine at_lt (lt_pick false rfl (decide_eq_false (by first | exact h251 | omega)) rfl) rfl ?_
 refine s_mv rfl ?_
 by_cases h254 : x252 = true
 ·replace hr := ipos h254 hr
  refine at_off rfl rfl h254 rfl (at_off rfl rfl h254 rfl (at_off rfl rfl h254 rfl (at_lt (lt_pick true rfl h254 rfl) rfl (s_as rfl (s_nt (at_true rfl rfl (s_sr (s_as rfl (s_nt ?_)))))))))
  refine at_ret ?_
  have hq := oinj hr
  clear hr
  subst hq
  refine at_in_ret (at_then_ret (at_int .i64 1 (by simp only [lo, hi]; omega) ?_))
  exact at_return (.int .i64 1) [0] hS Tryz.results193 (.cons (.tmp rfl) .nil) rfl rfl ⟨rfl, rfl⟩
 replace hr := ineg h254 hr
 refine at_on rfl rfl (bf h254) (s_mv rfl (at_on rfl rfl (bf h254) (at_lt (lt_convw rfl (iso und3) und21) rfl ?_)))
 replace hr := obind hr
 obtain ⟨x255, h256, hr⟩ := hr
 refine at_str ([195, 128, 195, 136, 195, 140, 195, 146, 195, 153, 195, 160, 195, 168, 195, 172, 195, 178, 195, 185, 195, 129, 195, 137, 195, 141, 195, 147, 195, 154, 195, 157, 195, 161, 195, 169, 195, 173, 195, 179, 195, 186, 195, 189, 196, 134, 196, 135, 196, 185, 196, 186, 197, 131, 197, 132, 197, 148, 197, 149, 197, 154, 197, 155, 197, 185, 197, 186, 195, 130, 195, 138, 195, 142, 195, 148, 195, 155, 195, 162, 195, 170, 195, 174, 195, 180, 195, 187, 196, 136, 196, 137, 196, 156, 196, 157, 196, 164, 196, 165, 196, 180, 196, 181, 197, 156, 197, 157, 197, 180, 197, 181, 197, 182, 197, 183, 195, 131, 195, 145, 195, 149, 195, 163, 195, 177, 195, 181, 196, 168, 196, 169, 197, 168, 197, 169, 196, 128, 196, 129, 196, 146, 196, 147, 196, 170, 196, 171, 197, 140, 197, 141, 197, 170, 197, 171, 196, 130, 196, 131, 196, 148, 196, 149, 196, 158, 196, 159, 196, 172, 196, 173, 197, 142, 197, 143, 197, 172, 197, 173, 196, 138, 196, 139, 196, 150, 196, 151, 196, 160, 196, 161, 196, 176, 197, 187, 197, 188, 195, 132, 195, 139, 195, 143, 195, 150, 195, 156, 195, 164, 195, 171, 195, 175, 195, 182, 195, 188, 195, 191, 197, 184, 195, 133, 195, 165, 197, 174, 197, 175, 197, 144, 197, 145, 197, 176, 197, 177, 196, 140, 196, 141, 196, 142, 196, 143, 196, 154, 196, 155, 197, 135, 197, 136, 197, 152, 197, 153, 197, 160, 197, 161, 197, 164, 197, 165, 197, 189, 197, 190, 196, 189, 196, 190, 195, 135, 195, 167, 196, 162, 196, 163, 196, 182, 196, 183, 196, 187, 196, 188, 197, 133, 197, 134, 197, 150, 197, 151, 197, 158, 197, 159, 197, 162, 197, 163, 196, 132, 196, 133, 196, 152, 196, 153, 196, 174, 196, 175, 197, 178, 197, 179, 195, 134, 195, 166, 195, 152, 195, 184, 195, 144, 195, 176, 195, 158, 195, 190, 195, 159, 196, 144, 196, 145, 196, 166, 196, 167, 196, 177, 197, 129, 197, 130, 197, 146, 197, 147, 197, 138, 197, 139, 197, 166, 197, 167] : Str) (by decide) ?_
 refine at_int .i32 (IntKind.i32.wrap a0) (wrap_bd .i32 _) (at_on rfl rfl (bf h254) (at_hv rfl (hv_call0 [1, 0] (f190_spec h256) rfl rfl rfl rfl ?_)))
 rintro _ _ ⟨rfl, rfl⟩
 refine at_lt (lt_pick false rfl (bf h254) rfl) rfl (s_as rfl (s_nt ?_))
 by_cases h257 : x255 = true
 ·replace hr := ipos h257 hr
  refine at_true rfl h257 (s_sr (s_as rfl (s_nt (at_ret ?_))))
  have hq := oinj hr
  clear hr
  subst hq
  refine at_in_ret (at_then_ret (at_int .i64 1 (by simp only [lo, hi]; omega) ?_))
  exact at_return (.int .i64 1) [0] hS Tryz.results193 (.cons (.tmp rfl) .nil) rfl rfl ⟨rfl, rfl⟩
 replace hr := ineg h257 hr
 refine at_false rfl (bf h257) (s_sr (s_mv rfl (at_lt (lt_neq rfl rfl) rfl (s_mv rfl ?_))))
 by_cases h258 : a0 = 930
 ·replace hr := ipos h258 hr
  refine at_off rfl rfl (nt (decide_eq_true (by first | exact h258 | omega))) rfl ?_
  refine at_off rfl rfl (nt (decide_eq_true (by first | exact h258 | omega))) rfl ?_
  refine at_lt (lt_pick false rfl (nt (decide_eq_true (by first | exact h258 | omega))) rfl) rfl ?_
  refine s_mv rfl (at_on rfl rfl rfl (s_mv rfl ?_))
  replace hr := obind hr
  obtain ⟨x259, h260, hr⟩ := hr
  refine at_int .i64 945 (by simp only [lo, hi]; omega) (at_int .i64 969 (by simp only [lo, hi]; omega) (at_on rfl rfl rfl (at_hv rfl (hv_call0 [10, 1, 0] (f192_spec h260) rfl rfl rfl rfl ?_))))
  rintro _ _ ⟨rfl, rfl⟩
  refine at_lt (lt_pick false rfl rfl rfl) rfl (s_mv rfl ?_)
  by_cases h261 : x259 = true
  ·replace hr := ipos h261 hr
   refine at_off rfl rfl h261 rfl (at_off rfl rfl h261 rfl (at_off rfl rfl h261 rfl (at_lt (lt_pick true rfl h261 rfl) rfl (s_as rfl (s_nt (at_true rfl rfl (s_sr (s_as rfl (s_nt ?_)))))))))
   refine at_ret ?_
   have hq := oinj hr
   clear hr
   subst hq
   refine at_in_ret (at_then_ret (at_int .i64 2 (by simp only [lo, hi]; omega) ?_))
   exact at_return (.int .i64 2) [0] hS Tryz.results193 (.cons (.tmp rfl) .nil) rfl rfl ⟨rfl, rfl⟩
  replace hr := ineg h261 hr
  refine at_on rfl rfl (bf h261) (s_mv rfl (at_on rfl rfl (bf h261) (at_lt (lt_convw rfl (iso und3) und21) rfl ?_)))
  replace hr := obind hr
  obtain ⟨x262, h263, hr⟩ := hr
  refine at_str ([206, 134, 206, 136, 206, 137, 206, 138, 206, 140, 206, 142, 206, 143, 206, 172, 206, 173, 206, 174, 206, 175, 207, 140, 207, 141, 207, 142, 206, 170, 206, 171, 207, 138, 207, 139] : Str) (by decide) ?_
  refine at_on rfl rfl (bf h261) (at_hv rfl (hv_call0 [0, 3] (f190_spec h263) rfl rfl rfl rfl ?_))
  rintro _ _ ⟨rfl, rfl⟩
  refine at_lt (lt_pick false rfl (bf h261) rfl) rfl (s_as rfl (s_nt ?_))
  by_cases h264 : x262 = true
  ·replace hr := ipos h264 hr
   refine at_true rfl h264 (s_sr (s_as rfl (s_nt (at_ret ?_))))
   have hq := oinj hr
   clear hr
   subst hq
   refine at_in_ret (at_then_ret (at_int .i64 2 (by simp only [lo, hi]; omega) ?_))
   exact at_return (.int .i64 2) [0] hS Tryz.results193 (.cons (.tmp rfl) .nil) rfl rfl ⟨rfl, rfl⟩
  replace hr := ineg h264 hr
  refine at_false rfl (bf h264) (s_sr (s_mv rfl ?_))
  replace hr := obind hr
  obtain ⟨x265, h266, hr⟩ := hr
  refine at_int .i64 1040 (by simp only [lo, hi]; omega) (at_int .i64 1103 (by simp only [lo, hi]; omega) (at_hv rfl (hv_call0 [13, 1, 0] (f192_spec h266) rfl rfl rfl rfl ?_)))
  rintro _ _ ⟨rfl, rfl⟩
  refine s_mv rfl ?_
  by_cases h267 : x265 = true
  ·replace hr := ipos h267 hr
   refine at_off rfl rfl h267 rfl (at_off rfl rfl h267 rfl (at_off rfl rfl h267 rfl (at_lt (lt_pick true rfl h267 rfl) rfl (s_as rfl (s_nt (at_true rfl rfl (s_sr (s_as rfl (s_nt ?_)))))))))
   refine at_ret ?_
   have hq := oinj hr
   clear hr
   subst hq
   refine at_in_ret (at_then_ret (at_int .i64 3 (by simp only [lo, hi]; omega) ?_))
   exact at_return (.int .i64 3) [0] hS Tryz.results193 (.cons (.tmp rfl) .nil) rfl rfl ⟨rfl, rfl⟩
  replace hr := ineg h267 hr
  refine at_on rfl rfl (bf h267) (s_mv rfl (at_on rfl rfl (bf h267) (at_lt (lt_convw rfl (iso und3) und21) rfl ?_)))
  replace hr := obind hr
  obtain ⟨x268, h269, hr⟩ := hr
  refine at_str ([208, 129, 209, 145, 208, 135, 209, 151, 208, 132, 209, 148, 210, 144, 210, 145, 208, 142, 209, 158, 208, 134, 209, 150] : Str) (by decide) ?_
  refine at_on rfl rfl (bf h267) (at_hv rfl (hv_call0 [0, 6] (f190_spec h269) rfl rfl rfl rfl ?_))
  rintro _ _ ⟨rfl, rfl⟩
  refine at_lt (lt_pick false rfl (bf h267) rfl) rfl (s_as rfl (s_nt ?_))
  by_cases h270 : x268 = true
  ·replace hr := ipos h270 hr
   refine at_true rfl h270 (s_sr (s_as rfl (s_nt (at_ret ?_))))
   have hq := oinj hr
   clear hr
   subst hq
   refine at_in_ret (at_then_ret (at_int .i64 3 (by simp only [lo, hi]; omega) ?_))
   exact at_return (.int .i64 3) [0] hS Tryz.results193 (.cons (.tmp rfl) .nil) rfl rfl ⟨rfl, rfl⟩
  replace hr := ineg h270 hr
  refine at_false rfl (bf h270) (at_skip (at_in (s_tsr (s_as rfl (s_nt (at_ret ?_))))))
  have hq := oinj hr
  clear hr
  subst hq
  refine at_int .i64 0 (by simp only [lo, hi]; omega) ?_
  exact at_return (.int .i64 0) [0] hS Tryz.results193 (.cons (.tmp rfl) .nil) rfl rfl ⟨rfl, rfl⟩
 replace hr := ineg h258 hr
 refine at_on rfl rfl (nf (decide_eq_false (by first | exact h258 | omega))) ?_
 refine s_mv rfl ?_
 replace hr := obind hr
 obtain ⟨x271, h272, hr⟩ := hr
 refine at_int .i64 913 (by simp only [lo, hi]; omega) (at_int .i64 937 (by simp only [lo, hi]; omega) ?_)
 refine at_on rfl rfl (nf (decide_eq_false (by first | exact h258 | omega))) ?_
 refine at_hv rfl (hv_call0 [10, 1, 0] (f192_spec h272) rfl rfl rfl rfl ?_)
 rintro _ _ ⟨rfl, rfl⟩
 refine at_lt (lt_pick true rfl (nf (decide_eq_false (by first | exact h258 | omega))) rfl) rfl ?_
 refine s_mv rfl ?_
 by_cases h273 : x271 = true
 ·replace hr := ipos h273 hr
  refine at_off rfl rfl h273 rfl (at_off rfl rfl h273 rfl (at_lt (lt_pick true rfl h273 rfl) rfl (s_mv rfl (at_off rfl rfl rfl rfl (at_off rfl rfl rfl rfl (at_off rfl rfl rfl rfl (at_lt (lt_pick true rfl rfl rfl) rfl (s_as rfl (s_nt ?_)))))))))
  refine at_true rfl rfl (s_sr (s_as rfl (s_nt (at_ret ?_))))
  have hq := oinj hr
  clear hr
  subst hq
  refine at_in_ret (at_then_ret (at_int .i64 2 (by simp only [lo, hi]; omega) ?_))
  exact at_return (.int .i64 2) [0] hS Tryz.results193 (.cons (.tmp rfl) .nil) rfl rfl ⟨rfl, rfl⟩
 replace hr := ineg h273 hr
 refine at_on rfl rfl (bf h273) (s_mv rfl ?_)
 replace hr := obind hr
 obtain ⟨x274, h275, hr⟩ := hr
 refine at_int .i64 945 (by simp only [lo, hi]; omega) (at_int .i64 969 (by simp only [lo, hi]; omega) (at_on rfl rfl (bf h273) (at_hv rfl (hv_call0 [12, 1, 0] (f192_spec h275) rfl rfl rfl rfl ?_))))
 rintro _ _ ⟨rfl, rfl⟩
 refine at_lt (lt_pick false rfl (bf h273) rfl) rfl (s_mv rfl ?_)
 by_cases h276 : x274 = true
 ·replace hr := ipos h276 hr
  refine at_off rfl rfl h276 rfl (at_off rfl rfl h276 rfl (at_off rfl rfl h276 rfl (at_lt (lt_pick true rfl h276 rfl) rfl (s_as rfl (s_nt (at_true rfl rfl (s_sr (s_as rfl (s_nt ?_)))))))))
  refine at_ret ?_
  have hq := oinj hr
  clear hr
  subst hq
  refine at_in_ret (at_then_ret (at_int .i64 2 (by simp only [lo, hi]; omega) ?_))
  exact at_return (.int .i64 2) [0] hS Tryz.results193 (.cons (.tmp rfl) .nil) rfl rfl ⟨rfl, rfl⟩
 replace hr := ineg h276 hr
 refine at_on rfl rfl (bf h276) (s_mv rfl (at_on rfl rfl (bf h276) (at_lt (lt_convw rfl (iso und3) und21) rfl ?_)))
 replace hr := obind hr
 obtain ⟨x277, h278, hr⟩ := hr
 refine at_str ([206, 134, 206, 136, 206, 137, 206, 138, 206, 140, 206, 142, 206, 143, 206, 172, 206, 173, 206, 174, 206, 175, 207, 140, 207, 141, 207, 142, 206, 170, 206, 171, 207, 138, 207, 139] : Str) (by decide) ?_
 refine at_on rfl rfl (bf h276) (at_hv rfl (hv_call0 [0, 5] (f190_spec h278) rfl rfl rfl rfl ?_))
 rintro _ _ ⟨rfl, rfl⟩
 refine at_lt (lt_pick false rfl (bf h276) rfl) rfl (s_as rfl (s_nt ?_))
 by_cases h279 : x277 = true
 ·replace hr := ipos h279 hr
  refine at_true rfl h279 (s_sr (s_as rfl (s_nt (at_ret ?_))))
  have hq := oinj hr
  clear hr
  subst hq
  refine at_in_ret (at_then_ret (at_int .i64 2 (by simp only [lo, hi]; omega) ?_))
  exact at_return (.int .i64 2) [0] hS Tryz.results193 (.cons (.tmp rfl) .nil) rfl rfl ⟨rfl, rfl⟩
 replace hr := ineg h279 hr
 refine at_false rfl (bf h279) (s_sr (s_mv rfl ?_))
 replace hr := obind hr
 obtain ⟨x280, h281, hr⟩ := hr
 refine at_int .i64 1040 (by simp only [lo, hi]; omega) (at_int .i64 1103 (by simp only [lo, hi]; omega) (at_hv rfl (hv_call0 [15, 1, 0] (f192_spec h281) rfl rfl rfl rfl ?_)))
 rintro _ _ ⟨rfl, rfl⟩
 refine s_mv rfl ?_
 by_cases h282 : x280 = true
 ·replace hr := ipos h282 hr
  refine at_off rfl rfl h282 rfl (at_off rfl rfl h282 rfl (at_off rfl rfl h282 rfl (at_lt (lt_pick true rfl h282 rfl) rfl (s_as rfl (s_nt (at_true rfl rfl (s_sr (s_as rfl (s_nt ?_)))))))))
  refine at_ret ?_
  have hq := oinj hr
  clear hr
  subst hq
  refine at_in_ret (at_then_ret (at_int .i64 3 (by simp only [lo, hi]; omega) ?_))
  exact at_return (.int .i64 3) [0] hS Tryz.results193 (.cons (.tmp rfl) .nil) rfl rfl ⟨rfl, rfl⟩
 replace hr := ineg h282 hr
 refine at_on rfl rfl (bf h282) (s_mv rfl (at_on rfl rfl (bf h282) (at_lt (lt_convw rfl (iso und3) und21) rfl ?_)))
 replace hr := obind hr
 obtain ⟨x283, h284, hr⟩ := hr
 refine at_str ([208, 129, 209, 145, 208, 135, 209, 151, 208, 132, 209, 148, 210, 144, 210, 145, 208, 142, 209, 158, 208, 134, 209, 150] : Str) (by decide) ?_
 refine at_on rfl rfl (bf h282) (at_hv rfl (hv_call0 [0, 8] (f190_spec h284) rfl rfl rfl rfl ?_))
 rintro _ _ ⟨rfl, rfl⟩
 refine at_lt (lt_pick false rfl (bf h282) rfl) rfl (s_as rfl (s_nt ?_))
 by_cases h285 : x283 = true
 ·replace hr := ipos h285 hr
  refine at_true rfl h285 (s_sr (s_as rfl (s_nt (at_ret ?_))))
  have hq := oinj hr
  clear hr
  subst hq
  refine at_in_ret (at_then_ret (at_int .i64 3 (by simp only [lo, hi]; omega) ?_))
  exact at_return (.int .i64 3) [0] hS Tryz.results193 (.cons (.tmp rfl) .nil) rfl rfl ⟨rfl, rfl⟩
 replace hr := ineg h285 hr
 refine at_false rfl (bf h285) (at_skip (at_in (s_tsr (s_as rfl (s_nt (at_ret ?_))))))
 have hq := oinj hr
 clear hr
 subst hq
 refine at_int .i64 0 (by simp only [lo, hi]; omega) ?_
 exact at_return (.int .i64 0) [0] hS Tryz.results193 (.cons (.tmp rfl) .nil) rfl rfl ⟨rfl, rfl⟩
def m194 (a0 : Int) : Option Bool :=
  Option.bind (α := Bool) (
   if a0 = 773 then
    some (decide (a0 = 773))
   else
    some (decide (a0 = 777))
  ) fun x287 =>
  if x287 = true then
   some false
  else
   Option.bind (α := Bool) (
    if a0 = 803 then
     some (decide (a0 = 803))
    else
     if a0 = 807 then
      some (decide (a0 = 807))
     else
      some (decide (a0 = 808))
   ) fun x291 =>
   if x291 = true then
    some true
   else
    (m192 a0 768 780).bind fun x296 =>
    some x296
def post194 (r : Bool) (v : Value) (fs : List Fact) : Prop := v = .bool r ∧ fs = []
theorem en194 : Enters Tryz.prog 194 := ⟨_, Tryz.func194, by kernel_rfl, rfl⟩
theorem f194_spec {a0 : Int} {r : Bool} (hr : m194 a0 = some r) : Spec Tryz.prog 194 [.int .i64 a0] [((Ty.int .i64).fact a0 [.int .i64 a0])] (post194 r) := by
 refine spec_start (N := 13) Tryz.func194 (by kernel_rfl) rfl rfl rfl ?_
 intro g hS
 unfold m194 at hr
 refine at_inv 0 rfl (fun l286 => ?_)
 replace l286 : (-9223372036854775808) ≤ a0 ∧ a0 ≤ 9223372036854775807 := l286
 refine s_sr (s_as rfl (s_nt (at_seq (s_sr (s_mv rfl (s_nt (at_block (at_seq (s_sr ?_)))))))))
 refine at_lt (lt_eql rfl rfl) rfl (s_as rfl (s_nt ?_))
 replace hr := obind hr
 obtain ⟨x287, hc288, hr⟩ := hr
 refine at_cut (V := Unit) (fun e => (⟨[(0, .int .i64 a0), (3, .int .i64 a0), (4, .bool x287)], [], [], [((Ty.int .i64).fact a0 [.int .i64 a0])]⟩ : St)) ?_ ?_
 ·clear hr
  have hr := hc288
  clear hc288
  by_cases h289 : a0 = 773
  ·replace hr := ipos h289 hr
   refine at_true rfl (decide_eq_true (by first | exact h289 | omega)) ?_
   refine at_skip ?_
   have hq := oinj hr
   clear hr
   subst hq
   exact at_leaf () ⟨⟨rfl, ⟨rfl, ⟨rfl, trivial⟩⟩⟩, ⟨[], rfl⟩, ⟨[], rfl⟩, ⟨[0], rfl⟩⟩
  replace hr := ineg h289 hr
  refine at_false rfl (decide_eq_false (by first | exact h289 | omega)) ?_
  refine at_region (at_lt (lt_eql rfl rfl) rfl (s_as rfl (at_nil ?_)))
  have hq := oinj hr
  clear hr
  subst hq
  exact at_leaf () ⟨⟨rfl, ⟨rfl, ⟨rfl, trivial⟩⟩⟩, ⟨[], rfl⟩, ⟨[], rfl⟩, ⟨[0], rfl⟩⟩
 clear hc288
 intro _
 change At _ _ (⟨[(0, .int .i64 a0), (3, .int .i64 a0), (4, .bool x287)], [], [], [((Ty.int .i64).fact a0 [.int .i64 a0])]⟩ : St) _
 refine at_then ?_
 by_cases h290 : x287 = true
 ·replace hr := ipos h290 hr
  refine at_true rfl h290 (s_sr (s_as rfl (s_nt (at_ret ?_))))
  have hq := oinj hr
  clear hr
  subst hq
  refine at_in_ret (at_then_ret ?_)
  exact at_return (.bool false) [] hS Tryz.results194 (.cons (.tmp rfl) .nil) rfl rfl ⟨rfl, rfl⟩
 replace hr := ineg h290 hr
 refine at_false rfl (bf h290) (at_seq (s_sr (at_lt (lt_eql rfl rfl) rfl (s_as rfl (s_nt ?_)))))
 replace hr := obind hr
 obtain ⟨x291, hc292, hr⟩ := hr
 refine at_cut (V := Unit) (fun e => (⟨[(0, .int .i64 a0), (7, .bool x291)], [], [], [((Ty.int .i64).fact a0 [.int .i64 a0])]⟩ : St)) ?_ ?_
 ·clear hr
  have hr := hc292
  clear hc292
  by_cases h293 : a0 = 803
  ·replace hr := ipos h293 hr
   refine at_true rfl (decide_eq_true (by first | exact h293 | omega)) ?_
   refine at_skip ?_
   have hq := oinj hr
   clear hr
   subst hq
   exact at_leaf () ⟨⟨rfl, ⟨rfl, trivial⟩⟩, ⟨[], rfl⟩, ⟨[], rfl⟩, ⟨[0], rfl⟩⟩
  replace hr := ineg h293 hr
  refine at_false rfl (decide_eq_false (by first | exact h293 | omega)) ?_
  refine s_sr (at_lt (lt_eql rfl rfl) rfl (s_as rfl (s_nt ?_)))
  by_cases h294 : a0 = 807
  ·replace hr := ipos h294 hr
   refine at_true rfl (decide_eq_true (by first | exact h294 | omega)) ?_
   refine at_skip ?_
   have hq := oinj hr
   clear hr
   subst hq
   exact at_leaf () ⟨⟨rfl, ⟨rfl, trivial⟩⟩, ⟨[], rfl⟩, ⟨[], rfl⟩, ⟨[0], rfl⟩⟩
  replace hr := ineg h294 hr
  refine at_false rfl (decide_eq_false (by first | exact h294 | omega)) ?_
  refine at_region (at_lt (lt_eql rfl rfl) rfl (s_as rfl (at_nil ?_)))
  have hq := oinj hr
  clear hr
  subst hq
  exact at_leaf () ⟨⟨rfl, ⟨rfl, trivial⟩⟩, ⟨[], rfl⟩, ⟨[], rfl⟩, ⟨[0], rfl⟩⟩
 clear hc292
 intro _
 change At _ _ (⟨[(0, .int .i64 a0), (7, .bool x291)], [], [], [((Ty.int .i64).fact a0 [.int .i64 a0])]⟩ : St) _
 refine at_then ?_
 by_cases h295 : x291 = true
 ·replace hr := ipos h295 hr
  refine at_true rfl h295 (s_sr (s_as rfl (s_nt (at_ret ?_))))
  have hq := oinj hr
  clear hr
  subst hq
  refine at_in_ret (at_then_ret ?_)
  exact at_return (.bool true) [] hS Tryz.results194 (.cons (.tmp rfl) .nil) rfl rfl ⟨rfl, rfl⟩
 replace hr := ineg h295 hr
 refine at_false rfl (bf h295) (at_skip (at_in (s_tsr (s_mv rfl ?_))))
 replace hr := obind hr
 obtain ⟨x296, h297, hr⟩ := hr
 refine at_int .i64 768 (by simp only [lo, hi]; omega) (at_int .i64 780 (by simp only [lo, hi]; omega) (at_hv rfl (hv_call0 [2, 1, 0] (f192_spec h297) rfl rfl rfl rfl ?_)))
 rintro _ _ ⟨rfl, rfl⟩
 refine s_as rfl (s_nt (at_ret ?_))
 have hq := oinj hr
 clear hr
 subst hq
 exact at_return (.bool x296) [] hS Tryz.results194 (.cons (.tmp rfl) .nil) rfl rfl ⟨rfl, rfl⟩
def m188 (a0 : Int) : Option (Int × Int) :=
  (m192 a0 65281 65374).bind fun x299 =>
  Option.bind (α := Int) (
   if x299 = true then
    some (IntKind.i64.wrap (a0 - 65248))
   else
    some a0
  ) fun x301 =>
  if x301 < 32 then
   some (0, 0)
  else
   if (65535 : Int) < x301 then
    some (0, 0)
   else
    (m193 x301).bind fun x307 =>
    if x307 = 0 then
     if x301 = 32 then
      some (0, 4)
     else
      if x301 = 160 then
       some (0, 4)
      else
       (m192 x301 48 57).bind fun x313 =>
       if x313 = true then
        some (0, 3)
       else
        if x301 = 178 then
         some (0, 3)
        else
         if x301 = 179 then
          some (0, 3)
         else
          if x301 = 185 then
           some (0, 3)
          else
           (m194 x301).bind fun x319 =>
           if x319 = true then
            some (0, 2)
           else
            if x301 ≤ 126 then
             some (0, 5)
            else
             some (0, 0)
    else
     some (x307, 1)
def post188 (r : (Int × Int)) (v : Value) (fs : List Fact) : Prop := v = .tuple #[.int .i64 r.1, .int .i64 r.2] ∧ fs = [((Ty.int .i64).fact r.1 [.int .i64 r.1]), ((Ty.int .i64).fact r.2 [.int .i64 r.2])]
theorem en188 : Enters Tryz.prog 188 := ⟨_, Tryz.func188, by kernel_rfl, rfl⟩
theorem f188_spec {a0 : Int} {r : (Int × Int)} (hr : m188 a0 = some r) : Spec Tryz.prog 188 [.int .i64 a0] [((Ty.int .i64).fact a0 [.int .i64 a0])] (post188 r) := by
 refine spec_start (N := 49) Tryz.func188 (by kernel_rfl) rfl rfl rfl ?_
 intro g hS
 unfold m188 at hr
 refine at_inv 0 rfl (fun l298 => ?_)
 replace l298 : (-9223372036854775808) ≤ a0 ∧ a0 ≤ 9223372036854775807 := l298
 refine s_sr (s_as rfl (s_as rfl (s_nt (at_seq (s_sr (s_mv rfl ?_))))))
 replace hr := obind hr
 obtain ⟨x299, h300, hr⟩ := hr
 refine at_int .i64 65281 (by simp only [lo, hi]; omega) (at_int .i64 65374 (by simp only [lo, hi]; omega) (at_hv rfl (hv_call0 [2, 1, 0] (f192_spec h300) rfl rfl rfl rfl ?_)))
 rintro _ _ ⟨rfl, rfl⟩
 refine s_nt ?_
 replace hr := obind hr
 obtain ⟨x301, hc302, hr⟩ := hr
 refine at_cut (V := Unit) (fun e => (⟨[(0, .int .i64 x301)], [], [], [((Ty.int .i64).fact x301 [.int .i64 x301])]⟩ : St)) ?_ ?_
 ·clear hr
  have hr := hc302
  clear hc302
  by_cases h303 : x299 = true
  ·replace hr := ipos h303 hr
   refine at_true rfl h303 (at_region (s_mv rfl (at_lt (lt_subw rfl rfl) rfl (s_as rfl (at_nil ?_)))))
   have hq := oinj hr
   clear hr
   subst hq
   refine at_int .i64 (IntKind.i64.wrap (a0 - 65248)) (wrap_bd .i64 _) ?_
   exact at_leaf () ⟨⟨rfl, trivial⟩, ⟨[], rfl⟩, ⟨[], rfl⟩, ⟨[0], rfl⟩⟩
  replace hr := ineg h303 hr
  refine at_false rfl (bf h303) (at_skip ?_)
  have hq := oinj hr
  clear hr
  subst hq
  exact at_leaf () ⟨⟨rfl, trivial⟩, ⟨[], rfl⟩, ⟨[], rfl⟩, ⟨[2], rfl⟩⟩
 clear hc302
 intro _
 change At _ _ (⟨[(0, .int .i64 x301)], [], [], [((Ty.int .i64).fact x301 [.int .i64 x301])]⟩ : St) _
 refine at_inv 0 rfl (fun l304 => ?_)
 replace l304 : (-9223372036854775808) ≤ x301 ∧ x301 ≤ 9223372036854775807 := l304
 refine at_then (at_seq (s_sr (s_mv rfl (at_lt (lt_lss rfl rfl) rfl (s_mv rfl ?_)))))
 by_cases h305 : x301 < 32
 ·replace hr := ipos h305 hr
  refine at_off rfl rfl (decide_eq_true (by first | exact h305 | omega)) rfl ?_
  refine at_off rfl rfl (decide_eq_true (by first | exact h305 | omega)) rfl ?_
  refine at_lt (lt_pick true rfl (decide_eq_true (by first | exact h305 | omega)) rfl) rfl ?_
  refine s_nt (at_true rfl rfl (s_sr (s_as rfl (s_as rfl (s_nt (at_ret ?_))))))
  have hq := oinj hr
  clear hr
  subst hq
  refine at_then_ret (at_int .i64 0 (by simp only [lo, hi]; omega) ?_)
  exact at_return (.tuple #[.int .i64 0, .int .i64 0]) [0, 0] hS Tryz.results188 (.cons (.tmp rfl) (.cons (.tmp rfl) .nil)) rfl rfl ⟨rfl, rfl⟩
 replace hr := ineg h305 hr
 refine at_on rfl rfl (decide_eq_false (by first | exact h305 | omega)) ?_
 refine s_mv rfl ?_
 refine at_on rfl rfl (decide_eq_false (by first | exact h305 | omega)) ?_
 refine at_lt (lt_gtr rfl rfl) rfl ?_
 refine at_lt (lt_pick false rfl (decide_eq_false (by first | exact h305 | omega)) rfl) rfl ?_
 refine s_nt ?_
 by_cases h306 : (65535 : Int) < x301
 ·replace hr := ipos h306 hr
  refine at_true rfl (decide_eq_true (by first | exact h306 | omega)) ?_
  refine s_sr (s_as rfl (s_as rfl (s_nt (at_ret ?_))))
  have hq := oinj hr
  clear hr
  subst hq
  refine at_then_ret (at_int .i64 0 (by simp only [lo, hi]; omega) ?_)
  exact at_return (.tuple #[.int .i64 0, .int .i64 0]) [0, 0] hS Tryz.results188 (.cons (.tmp rfl) (.cons (.tmp rfl) .nil)) rfl rfl ⟨rfl, rfl⟩
 replace hr := ineg h306 hr
 refine at_false rfl (decide_eq_false (by first | exact h306 | omega)) ?_
 refine at_skip (at_then (at_seq (s_sr (s_mv rfl ?_))))
 replace hr := obind hr
 obtain ⟨x307, h308, hr⟩ := hr
 refine at_hv rfl (hv_call0 [0] (f193_spec h308) rfl rfl rfl rfl ?_)
 rintro _ _ ⟨rfl, rfl⟩
 refine at_inv 0 rfl (fun l309 => ?_)
 replace l309 : (-9223372036854775808) ≤ x307 ∧ x307 ≤ 9223372036854775807 := l309
 refine s_as rfl (s_nt (at_block (s_sr (s_mv rfl (at_lt (lt_neq rfl rfl) rfl (s_as rfl (s_nt ?_)))))))
 by_cases h310 : x307 = 0
 ·replace hr := ipos h310 hr
  refine at_false rfl (nt (decide_eq_true (by first | exact h310 | omega))) ?_
  refine s_sr (s_mv rfl (at_lt (lt_eql rfl rfl) rfl (s_mv rfl ?_)))
  by_cases h311 : x301 = 32
  ·replace hr := ipos h311 hr
   refine at_off rfl rfl (decide_eq_true (by first | exact h311 | omega)) rfl ?_
   refine at_off rfl rfl (decide_eq_true (by first | exact h311 | omega)) rfl ?_
   refine at_lt (lt_pick true rfl (decide_eq_true (by first | exact h311 | omega)) rfl) rfl ?_
   refine s_as rfl (s_nt (at_true rfl rfl (s_sr (s_as rfl (s_as rfl (s_nt (at_ret ?_)))))))
   have hq := oinj hr
   clear hr
   subst hq
   refine at_in_ret (at_then_ret (at_int .i64 0 (by simp only [lo, hi]; omega) (at_int .i64 4 (by simp only [lo, hi]; omega) ?_)))
   exact at_return (.tuple #[.int .i64 0, .int .i64 4]) [1, 0] hS Tryz.results188 (.cons (.tmp rfl) (.cons (.tmp rfl) .nil)) rfl rfl ⟨rfl, rfl⟩
  replace hr := ineg h311 hr
  refine at_on rfl rfl (decide_eq_false (by first | exact h311 | omega)) ?_
  refine s_mv rfl ?_
  refine at_on rfl rfl (decide_eq_false (by first | exact h311 | omega)) ?_
  refine at_lt (lt_eql rfl rfl) rfl ?_
  refine at_lt (lt_pick false rfl (decide_eq_false (by first | exact h311 | omega)) rfl) rfl ?_
  refine s_as rfl (s_nt ?_)
  by_cases h312 : x301 = 160
  ·replace hr := ipos h312 hr
   refine at_true rfl (decide_eq_true (by first | exact h312 | omega)) ?_
   refine s_sr (s_as rfl (s_as rfl (s_nt (at_ret ?_))))
   have hq := oinj hr
   clear hr
   subst hq
   refine at_in_ret (at_then_ret (at_int .i64 0 (by simp only [lo, hi]; omega) (at_int .i64 4 (by simp only [lo, hi]; omega) ?_)))
   exact at_return (.tuple #[.int .i64 0, .int .i64 4]) [1, 0] hS Tryz.results188 (.cons (.tmp rfl) (.cons (.tmp rfl) .nil)) rfl rfl ⟨rfl, rfl⟩
  replace hr := ineg h312 hr
  refine at_false rfl (decide_eq_false (by first | exact h312 | omega)) ?_
  refine s_sr (s_mv rfl ?_)
  replace hr := obind hr
  obtain ⟨x313, h314, hr⟩ := hr
  refine at_int .i64 48 (by simp only [lo, hi]; omega) (at_int .i64 57 (by simp only [lo, hi]; omega) (at_hv rfl (hv_call0 [3, 1, 0] (f192_spec h314) rfl rfl rfl rfl ?_)))
  rintro _ _ ⟨rfl, rfl⟩
  refine s_mv rfl ?_
  by_cases h315 : x313 = true
  ·replace hr := ipos h315 hr
   refine at_off rfl rfl h315 rfl (at_off rfl rfl h315 rfl (at_lt (lt_pick true rfl h315 rfl) rfl (s_mv rfl (at_off rfl rfl rfl rfl (at_off rfl rfl rfl rfl (at_lt (lt_pick true rfl rfl rfl) rfl (s_mv rfl (at_off rfl rfl rfl rfl (at_off rfl rfl rfl rfl ?_)))))))))
   refine at_lt (lt_pick true rfl rfl rfl) rfl (s_as rfl (s_nt (at_true rfl rfl (s_sr (s_as rfl (s_as rfl (s_nt (at_ret ?_))))))))
   have hq := oinj hr
   clear hr
   subst hq
   refine at_in_ret (at_then_ret (at_int .i64 0 (by simp only [lo, hi]; omega) (at_int .i64 3 (by simp only [lo, hi]; omega) ?_)))
   exact at_return (.tuple #[.int .i64 0, .int .i64 3]) [1, 0] hS Tryz.results188 (.cons (.tmp rfl) (.cons (.tmp rfl) .nil)) rfl rfl ⟨rfl, rfl⟩
  replace hr := ineg h315 hr
  refine at_on rfl rfl (bf h315) (s_mv rfl (at_on rfl rfl (bf h315) (at_lt (lt_eql rfl rfl) rfl (at_lt (lt_pick false rfl (bf h315) rfl) rfl (s_mv rfl ?_)))))
  by_cases h316 : x301 = 178
  ·replace hr := ipos h316 hr
   refine at_off rfl rfl (decide_eq_true (by first | exact h316 | omega)) rfl ?_
   refine at_off rfl rfl (decide_eq_true (by first | exact h316 | omega)) rfl ?_
   refine at_lt (lt_pick true rfl (decide_eq_true (by first | exact h316 | omega)) rfl) rfl ?_
   refine s_mv rfl (at_off rfl rfl rfl rfl (at_off rfl rfl rfl rfl (at_lt (lt_pick true rfl rfl rfl) rfl (s_as rfl (s_nt (at_true rfl rfl (s_sr (s_as rfl (s_as rfl ?_)))))))))
   refine s_nt (at_ret ?_)
   have hq := oinj hr
   clear hr
   subst hq
   refine at_in_ret (at_then_ret (at_int .i64 0 (by simp only [lo, hi]; omega) (at_int .i64 3 (by simp only [lo, hi]; omega) ?_)))
   exact at_return (.tuple #[.int .i64 0, .int .i64 3]) [1, 0] hS Tryz.results188 (.cons (.tmp rfl) (.cons (.tmp rfl) .nil)) rfl rfl ⟨rfl, rfl⟩
  replace hr := ineg h316 hr
  refine at_on rfl rfl (decide_eq_false (by first | exact h316 | omega)) ?_
  refine s_mv rfl ?_
  refine at_on rfl rfl (decide_eq_false (by first | exact h316 | omega)) ?_
  refine at_lt (lt_eql rfl rfl) rfl ?_
  refine at_lt (lt_pick false rfl (decide_eq_false (by first | exact h316 | omega)) rfl) rfl ?_
  refine s_mv rfl ?_
  by_cases h317 : x301 = 179
  ·replace hr := ipos h317 hr
   refine at_off rfl rfl (decide_eq_true (by first | exact h317 | omega)) rfl ?_
   refine at_off rfl rfl (decide_eq_true (by first | exact h317 | omega)) rfl ?_
   refine at_lt (lt_pick true rfl (decide_eq_true (by first | exact h317 | omega)) rfl) rfl ?_
   refine s_as rfl (s_nt (at_true rfl rfl (s_sr (s_as rfl (s_as rfl (s_nt (at_ret ?_)))))))
   have hq := oinj hr
   clear hr
   subst hq
   refine at_in_ret (at_then_ret (at_int .i64 0 (by simp only [lo, hi]; omega) (at_int .i64 3 (by simp only [lo, hi]; omega) ?_)))
   exact at_return (.tuple #[.int .i64 0, .int .i64 3]) [1, 0] hS Tryz.results188 (.cons (.tmp rfl) (.cons (.tmp rfl) .nil)) rfl rfl ⟨rfl, rfl⟩
  replace hr := ineg h317 hr
  refine at_on rfl rfl (decide_eq_false (by first | exact h317 | omega)) ?_
  refine s_mv rfl ?_
  refine at_on rfl rfl (decide_eq_false (by first | exact h317 | omega)) ?_
  refine at_lt (lt_eql rfl rfl) rfl ?_
  refine at_lt (lt_pick false rfl (decide_eq_false (by first | exact h317 | omega)) rfl) rfl ?_
  refine s_as rfl (s_nt ?_)
  by_cases h318 : x301 = 185
  ·replace hr := ipos h318 hr
   refine at_true rfl (decide_eq_true (by first | exact h318 | omega)) ?_
   refine s_sr (s_as rfl (s_as rfl (s_nt (at_ret ?_))))
   have hq := oinj hr
   clear hr
   subst hq
   refine at_in_ret (at_then_ret (at_int .i64 0 (by simp only [lo, hi]; omega) (at_int .i64 3 (by simp only [lo, hi]; omega) ?_)))
   exact at_return (.tuple #[.int .i64 0, .int .i64 3]) [1, 0] hS Tryz.results188 (.cons (.tmp rfl) (.cons (.tmp rfl) .nil)) rfl rfl ⟨rfl, rfl⟩
  replace hr := ineg h318 hr
  refine at_false rfl (decide_eq_false (by first | exact h318 | omega)) ?_
  refine s_sr (s_mv rfl ?_)
  replace hr := obind hr
  obtain ⟨x319, h320, hr⟩ := hr
  refine at_hv rfl (hv_call0 [3] (f194_spec h320) rfl rfl rfl rfl ?_)
  rintro _ _ ⟨rfl, rfl⟩
  refine s_as rfl (s_nt ?_)
  by_cases h321 : x319 = true
  ·replace hr := ipos h321 hr
   refine at_true rfl h321 (s_sr (s_as rfl (s_as rfl (s_nt (at_ret ?_)))))
   have hq := oinj hr
   clear hr
   subst hq
   refine at_in_ret (at_then_ret (at_int .i64 0 (by simp only [lo, hi]; omega) (at_int .i64 2 (by simp only [lo, hi]; omega) ?_)))
   exact at_return (.tuple #[.int .i64 0, .int .i64 2]) [1, 0] hS Tryz.results188 (.cons (.tmp rfl) (.cons (.tmp rfl) .nil)) rfl rfl ⟨rfl, rfl⟩
  replace hr := ineg h321 hr
  refine at_false rfl (bf h321) (s_sr (s_mv rfl (at_lt (lt_leq rfl rfl) rfl (s_as rfl (s_nt ?_)))))
  by_cases h322 : x301 ≤ 126
  ·replace hr := ipos h322 hr
   refine at_true rfl (decide_eq_true (by first | exact h322 | omega)) ?_
   refine s_sr (s_as rfl (s_as rfl (s_nt (at_ret ?_))))
   have hq := oinj hr
   clear hr
   subst hq
   refine at_in_ret (at_then_ret (at_int .i64 0 (by simp only [lo, hi]; omega) (at_int .i64 5 (by simp only [lo, hi]; omega) ?_)))
   exact at_return (.tuple #[.int .i64 0, .int .i64 5]) [1, 0] hS Tryz.results188 (.cons (.tmp rfl) (.cons (.tmp rfl) .nil)) rfl rfl ⟨rfl, rfl⟩
  replace hr := ineg h322 hr
  refine at_false rfl (decide_eq_false (by first | exact h322 | omega)) ?_
  refine at_skip (at_in (s_tsr (s_as rfl (s_as rfl (s_nt (at_ret ?_))))))
  have hq := oinj hr
  clear hr
  subst hq
  refine at_int .i64 0 (by simp only [lo, hi]; omega) ?_
  exact at_return (.tuple #[.int .i64 0, .int .i64 0]) [0, 0] hS Tryz.results188 (.cons (.tmp rfl) (.cons (.tmp rfl) .nil)) rfl rfl ⟨rfl, rfl⟩
 replace hr := ineg h310 hr
 refine at_true rfl (nf (decide_eq_false (by first | exact h310 | omega))) ?_
 refine s_sr (s_mv rfl (s_as rfl (s_as rfl (s_nt (at_ret ?_)))))
 have hq := oinj hr
 clear hr
 subst hq
 refine at_in_ret (at_then_ret (at_int .i64 1 (by simp only [lo, hi]; omega) ?_))
 exact at_return (.tuple #[.int .i64 x307, .int .i64 1]) [1, 0] hS Tryz.results188 (.cons (.tmp rfl) (.cons (.tmp rfl) .nil)) rfl rfl ⟨rfl, rfl⟩
def m174 (a0 : Int) : Option Bool :=
  (m188 a0).bind fun x324 =>
  some (!decide (x324.2 = 0))
def post174 (r : Bool) (v : Value) (fs : List Fact) : Prop := v = .bool r ∧ fs = []
theorem en174 : Enters Tryz.prog 174 := ⟨_, Tryz.func174, by kernel_rfl, rfl⟩
theorem f174_spec {a0 : Int} {r : Bool} (hr : m174 a0 = some r) : Spec Tryz.prog 174 [.int .i64 a0] [((Ty.int .i64).fact a0 [.int .i64 a0])] (post174 r) := by
 refine spec_start (N := 12) Tryz.func174 (by kernel_rfl) rfl rfl rfl ?_
 intro g hS
 unfold m174 at hr
 refine at_inv 0 rfl (fun l323 => ?_)
 replace l323 : (-9223372036854775808) ≤ a0 ∧ a0 ≤ 9223372036854775807 := l323
 refine s_sr (s_as rfl (s_ntsr (s_mv rfl ?_)))
 replace hr := obind hr
 obtain ⟨x324, h325, hr⟩ := hr
 refine at_hv rfl (hv_call0 [0] (f188_spec h325) rfl rfl rfl rfl ?_)
 rintro _ _ ⟨rfl, rfl⟩
 refine at_inv 0 rfl (fun l326 => ?_)
 replace l326 : (-9223372036854775808) ≤ x324.1 ∧ x324.1 ≤ 9223372036854775807 := l326
 refine at_inv 1 rfl (fun l327 => ?_)
 replace l327 : (-9223372036854775808) ≤ x324.2 ∧ x324.2 ≤ 9223372036854775807 := l327
 refine s_mv rfl (at_lt (lt_extract rfl rfl) rfl (at_lt (lt_extract rfl rfl) rfl (s_as rfl (s_as rfl (s_ntsr (s_mv rfl (at_lt (lt_neq rfl rfl) rfl (s_as rfl (s_nt ?_)))))))))
 refine at_ret ?_
 have hq := oinj hr
 clear hr
 subst hq
 exact at_return (.bool (!decide (x324.2 = 0))) [] hS Tryz.results174 (.cons (.tmp rfl) .nil) rfl rfl ⟨rfl, rfl⟩
def m155_l1 : Nat → Str → (List Int) → Option (Fl ((List Int) × Bool) (List Int))
  | 0, _, _ => none
  | k + 1, x331, x332 =>
    if 0 < x331.length then
     (m171 x331).bind fun x345 =>
     if x345.1 = 65533 then
      some (Fl.ret (([] : (List Int)), false))
     else
      (m174 x345.1).bind fun x350 =>
      if x350 = true then
       if x332.length + 1 ≤ 17592186044416 then
        if 0 ≤ x345.2 ∧ x345.2.toNat ≤ x331.length then
         m155_l1 k (x331.drop x345.2.toNat) (x332 ++ [x345.1])
        else none
       else none
      else
       some (Fl.ret (([] : (List Int)), false))
    else
     some (Fl.go x332)
def m155 (a0 : Str) : Option ((List Int) × Bool) :=
  if a0.length ≤ 17592186044416 then
   (m155_l1 (a0.length + 1) a0 ([] : (List Int))).bind fun r => match r with
   | .ret x => some x
   | .go x336 =>
    some (x336, true)
  else none
def post155 (r : ((List Int) × Bool)) (v : Value) (fs : List Fact) : Prop := ∃ s362 : Value, v = .tuple #[s362, .bool r.2] ∧ fs = [((Ty.slice (Ty.int .i64)).fact r.1 [s362])]
theorem en155 : Enters Tryz.prog 155 := ⟨_, Tryz.func155, by kernel_rfl, rfl⟩
theorem f155_spec {a0 : Str} {r : ((List Int) × Bool)} (hr : m155 a0 = some r) : Spec Tryz.prog 155 [str a0] [(Ty.str.fact a0 [str a0]), (utf8F 1 2)] (post155 r) := by
 refine spec_start (N := 35) Tryz.func155 (by kernel_rfl) rfl rfl rfl ?_
 intro g hS
 unfold m155 at hr
 refine s_sr (s_as rfl (s_as rfl (s_ntsr (s_mv rfl ?_))))
 refine at_inv 0 rfl (fun l328 => ?_)
 replace l328 : a0.length ≤ 9223372036854775807 := l328
 refine at_lt (lt_slen rfl und9) rfl ?_
 replace hr := imust hr
 obtain ⟨h329, hr⟩ := hr
 refine at_hv rfl ?_
 refine hv_make0 a0.length rfl rfl rfl (by omega) und140 ti3 (by omega) (by omega) rfl (fun s330 => ?_)
 refine s_as rfl (s_nt (at_seq (at_rownil (Ty.int .i64) ?_)))
 refine at_mkpure (q := (([] : (List Int)).length * (Ty.int .i64).bytes ≤ 140737488355328)) (by simp only [List.nil_append, List.cons_append, List.length_cons, List.length_nil, Ty.int_bytes, Ty.u8_bytes, Ty.str_bytes, Ty.slice_bytes, Ty.bool_bytes, nb] <;> omega) ?_
 replace hr := obind hr
 obtain ⟨r340, hl341, hk342⟩ := hr
 refine at_cutP (V := ((List Int)) × (Value × Nat × (List Value))) (fun v => r340 = Fl.go v.1) (fun v => (⟨[(4, v.2.1)], [], [⟨v.2.1, 3, 1, v.2.2.1, v.2.2.2⟩], [((Ty.int .i64).row v.1 v.2.2.2), (pureF (v.1.length * (Ty.int .i64).bytes ≤ 140737488355328)), (utf8F 1 2)]⟩ : St)) ?_ ?_
 ·refine at_block ?_
  refine at_loopW (σ := (Str × (List Int))) (V := Value × Nat × (List Value)) (r := r340) (fun n s => m155_l1 n s.1 s.2) (fun s e => (⟨[(0, str s.1), (4, e.1)], [], [⟨e.1, 3, 1, e.2.1, e.2.2⟩], [(Ty.str.fact s.1 [str s.1]), ((Ty.int .i64).row s.2 e.2.2), (pureF (s.2.length * (Ty.int .i64).bytes ≤ 140737488355328)), (utf8F 1 2)]⟩ : St)) (fun _ => rfl) _ (a0, ([] : (List Int))) (s330, 0, []) hl341 ⟨⟨rfl, ⟨rfl, trivial⟩⟩, ⟨[], rfl⟩, ⟨[true], rfl⟩, ⟨[2, 1, 0, 3], rfl⟩⟩ ?_
  clear hl341
  intro n s hr e
  obtain ⟨x331, x332⟩ := s
  obtain ⟨v333, n334, i335⟩ := e
  change m155_l1 (n + 1) x331 x332 = some r340 at hr
  change At _ _ (⟨[(0, str x331), (4, v333)], [], [⟨v333, 3, 1, n334, i335⟩], [(Ty.str.fact x331 [str x331]), ((Ty.int .i64).row x332 i335), (pureF (x332.length * (Ty.int .i64).bytes ≤ 140737488355328)), (utf8F 1 2)]⟩ : St) _
  rw [m155_l1] at hr
  refine at_seq (s_sr (s_mv rfl ?_))
  refine at_inv 0 rfl (fun l343 => ?_)
  replace l343 : x331.length ≤ 9223372036854775807 := l343
  refine at_lt (lt_slen rfl und9) rfl (at_lt (lt_gtr rfl rfl) rfl (s_nt ?_))
  by_cases h344 : 0 < x331.length
  ·replace hr := ipos h344 hr
   refine at_true rfl (decide_eq_true (by omega)) ?_
   refine at_skip (at_then (at_block (s_sr (s_mv rfl ?_))))
   replace hr := obind hr
   obtain ⟨x345, h346, hr⟩ := hr
   refine at_hv rfl (hv_call0 [0, 3] (f171_spec h346) rfl rfl rfl rfl ?_)
   rintro _ _ ⟨rfl, rfl⟩
   refine at_inv 0 rfl (fun l347 => ?_)
   replace l347 : (-2147483648) ≤ x345.1 ∧ x345.1 ≤ 2147483647 := l347
   refine at_inv 1 rfl (fun l348 => ?_)
   replace l348 : (-9223372036854775808) ≤ x345.2 ∧ x345.2 ≤ 9223372036854775807 := l348
   refine s_mv rfl (at_lt (lt_extract rfl rfl) rfl (at_lt (lt_extract rfl rfl) rfl (s_as rfl (s_as rfl (s_nt (at_seq (s_sr (s_mv rfl (at_lt (lt_eql rfl rfl) rfl ?_)))))))))
   refine s_mv rfl ?_
   by_cases h349 : x345.1 = 65533
   ·replace hr := ipos h349 hr
    refine at_off rfl rfl (decide_eq_true (by first | exact h349 | omega)) rfl ?_
    refine at_off rfl rfl (decide_eq_true (by first | exact h349 | omega)) rfl ?_
    refine at_off rfl rfl (decide_eq_true (by first | exact h349 | omega)) rfl ?_
    refine at_off rfl rfl (decide_eq_true (by first | exact h349 | omega)) rfl ?_
    refine at_lt (lt_pick true rfl (decide_eq_true (by first | exact h349 | omega)) rfl) rfl ?_
    refine s_nt (at_true rfl rfl (s_sr (s_as rfl (s_as rfl (s_nt (at_ret ?_))))))
    have hq := oinj hr
    clear hr
    subst hq
    have hq := oinj hk342
    clear hk342
    subst hq
    refine at_then_ret (at_in_ret (at_then_ret (at_in_ret (at_then_ret (at_then_ret (at_fnil (Ty.int .i64) none ?_))))))
    exact at_return (.tuple #[(.slice none 0 0), .bool false]) [0] hS Tryz.results155 (.cons (.tmp rfl) (.cons (.tmp rfl) .nil)) rfl rfl ⟨((.slice none 0 0)), rfl, rfl⟩
   replace hr := ineg h349 hr
   refine at_on rfl rfl (decide_eq_false (by first | exact h349 | omega)) ?_
   refine s_mv rfl ?_
   refine at_on rfl rfl (decide_eq_false (by first | exact h349 | omega)) ?_
   refine at_lt (lt_convint rfl (iso und21) und3 (by simp only [lo, hi]; omega)) rfl ?_
   replace hr := obind hr
   obtain ⟨x350, h351, hr⟩ := hr
   refine at_int .i64 x345.1 (by simp only [lo, hi]; omega) ?_
   refine at_on rfl rfl (decide_eq_false (by first | exact h349 | omega)) ?_
   refine at_hv rfl (hv_call0 [0] (f174_spec h351) rfl rfl rfl rfl ?_)
   rintro _ _ ⟨rfl, rfl⟩
   refine at_on rfl rfl (decide_eq_false (by first | exact h349 | omega)) ?_
   refine at_lt (lt_not rfl) rfl ?_
   refine at_lt (lt_pick false rfl (decide_eq_false (by first | exact h349 | omega)) rfl) rfl ?_
   refine s_nt ?_
   by_cases h352 : x350 = true
   ·replace hr := ipos h352 hr
    refine at_false rfl (nt h352) (at_skip (at_then ?_))
    replace hr := imust hr
    obtain ⟨h354, hr⟩ := hr
    replace hr := imust hr
    obtain ⟨h357, hr⟩ := hr
    refine aa_start 10 (by kernel_rfl) ?_
    refine aa_p 0 rfl (lt_move rfl) (aa_p 1 rfl (lt_move rfl) (aa_p 2 rfl (lt_convint rfl (iso und21) und3 (by simp only [lo, hi]; omega)) (aa_p 5 rfl (lt_move rfl) (aa_p 6 rfl (lt_move rfl) ?_))))
    refine aa_p 7 rfl (lt_scut_l x345.2.toNat rfl rfl (by omega) und9 (by omega)) ?_
    refine aa_one 3 (aa_op rfl rfl ?_)
    refine hv_bslice (cs := [.int .i64 x345.1]) rfl und140 ti3 rfl rfl rfl rfl rfl (fun s358 => ?_)
    refine aa_one 4 ?_
    refine at_rown 1 4 rfl rfl rfl (fun hn360 => ?_)
    refine aa_op rfl rfl ?_
    refine hv_append 1 0 rfl rfl rfl rfl und140 ti3 rfl rfl rfl (by omega) (by omega) rfl (fun s359 => ?_)
    refine at_rowsnoc 4 0 rfl rfl ?_
    refine aa_pure 8 rfl (by kernel_rfl) rfl rfl (lt_assign rfl) rfl (ts_in 0 1 rfl rfl) ?_
    refine aa_pure 9 rfl (by kernel_rfl) rfl rfl (lt_assign rfl) rfl (ts_in 0 1 rfl rfl) ?_
    refine aa_done (by kernel_rfl) (ts_in 0 1 rfl rfl) ?_
    refine at_in ?_
    refine at_str (x331.drop x345.2.toNat) (by simp only [List.length_take, List.length_drop]; omega) ?_
    refine at_mkpure (q := ((x332 ++ [x345.1]).length * (Ty.int .i64).bytes ≤ 140737488355328)) (by simp only [List.length_append, List.length_cons, List.length_nil, Ty.int_bytes, Ty.u8_bytes, Ty.str_bytes, Ty.slice_bytes, Ty.bool_bytes, nb] <;> omega) ?_
    exact at_again (σ := (Str × (List Int))) (V := Value × Nat × (List Value)) (lp := fun n s => m155_l1 n s.1 s.2) (S := fun s e => (⟨[(0, str s.1), (4, e.1)], [], [⟨e.1, 3, 1, e.2.1, e.2.2⟩], [(Ty.str.fact s.1 [str s.1]), ((Ty.int .i64).row s.2 e.2.2), (pureF (s.2.length * (Ty.int .i64).bytes ≤ 140737488355328)), (utf8F 1 2)]⟩ : St)) (x331.drop x345.2.toNat, x332 ++ [x345.1]) (s359, n334 + 1, i335 ++ [.int .i64 x345.1]) hr ⟨⟨rfl, ⟨rfl, trivial⟩⟩, ⟨[], rfl⟩, ⟨[false, true], rfl⟩, ⟨[1, 2, 0, 9], rfl⟩⟩
   replace hr := ineg h352 hr
   refine at_true rfl (nf (bf h352)) (s_sr (s_as rfl (s_as rfl (s_nt (at_ret ?_)))))
   have hq := oinj hr
   clear hr
   subst hq
   have hq := oinj hk342
   clear hk342
   subst hq
   refine at_then_ret (at_in_ret (at_then_ret (at_in_ret (at_then_ret (at_then_ret (at_fnil (Ty.int .i64) none ?_))))))
   exact at_return (.tuple #[(.slice none 0 0), .bool false]) [0] hS Tryz.results155 (.cons (.tmp rfl) (.cons (.tmp rfl) .nil)) rfl rfl ⟨((.slice none 0 0)), rfl, rfl⟩
  replace hr := ineg h344 hr
  refine at_false rfl (decide_eq_false (by omega)) ?_
  refine at_exit (at_then_exit (at_then_exit (at_in_exit ?_)))
  have hq := oinj hr
  clear hr
  subst hq
  exact at_leafP (x332, (v333, n334, i335)) rfl ⟨⟨rfl, trivial⟩, ⟨[], rfl⟩, ⟨[true], rfl⟩, ⟨[1, 2, 3], rfl⟩⟩
 rintro ⟨x336, ⟨v337, n338, i339⟩⟩ hp
 replace hr := hk342
 subst hp
 clear hl341
 change At _ _ (⟨[(4, v337)], [], [⟨v337, 3, 1, n338, i339⟩], [((Ty.int .i64).row x336 i339), (pureF (x336.length * (Ty.int .i64).bytes ≤ 140737488355328)), (utf8F 1 2)]⟩ : St) _
 refine s_tsr (s_mv rfl (s_as rfl (s_as rfl (s_nt (at_ret ?_)))))
 have hq := oinj hr
 clear hr
 subst hq
 refine at_pure 1 rfl (fun hb361 => ?_)
 refine at_release 0 0 rfl rfl rfl hb361 ?_
 exact at_return (.tuple #[v337, .bool true]) [0] hS Tryz.results155 (.cons (.tmp rfl) (.cons (.tmp rfl) .nil)) rfl rfl ⟨v337, rfl, rfl⟩
def m175_l1 (a1 : UInt8) : Nat → Str → Option Str
  | 0, _ => none
  | k + 1, x363 =>
    if 0 < x363.length then
     (x363[0]?).bind fun c369 =>
     if c369.toNat = a1.toNat then
      if 1 ≤ x363.length then
       m175_l1 a1 k (x363.drop 1)
      else none
     else
      some x363
    else
     some x363
def m175 (a0 : Str) (a1 : UInt8) : Option Str :=
  (m175_l1 a1 (a0.length + 1) a0).bind fun x364 =>
  some x364
def post175 (r : Str) (v : Value) (fs : List Fact) : Prop := v = str r ∧ fs = [(Ty.str.fact r [str r])]
theorem en175 : Enters Tryz.prog 175 := ⟨_, Tryz.func175, by kernel_rfl, rfl⟩
theorem f175_spec {a0 : Str} {a1 : UInt8} {r : Str} (hr : m175 a0 a1 = some r) : Spec Tryz.prog 175 [str a0, .int .u8 (a1.toNat : Int)] [(Ty.str.fact a0 [str a0])] (post175 r) := by
 refine spec_start (N := 17) Tryz.func175 (by kernel_rfl) rfl rfl rfl ?_
 intro g hS
 unfold m175 at hr
 refine s_sr (s_as rfl (s_nt (at_seq ?_)))
 replace hr := obind hr
 obtain ⟨x364, hl365, hr⟩ := hr
 refine at_cut (V := Unit) (fun e => (⟨[(0, str x364)], [], [], [(Ty.str.fact x364 [str x364])]⟩ : St)) ?_ ?_
 ·refine at_block ?_
  refine at_loopW (σ := Str) (V := Unit) (r := x364) (fun n s => m175_l1 a1 n s) (fun s e => (⟨[(0, str s), (1, .int .u8 (a1.toNat : Int))], [], [], [(Ty.str.fact s [str s])]⟩ : St)) (fun _ => rfl) _ a0 () hl365 ⟨⟨rfl, ⟨rfl, trivial⟩⟩, ⟨[], rfl⟩, ⟨[], rfl⟩, ⟨[0], rfl⟩⟩ ?_
  clear hr hl365
  intro n x363 hr e
  skip
  skip
  change m175_l1 a1 (n + 1) x363 = some x364 at hr
  change At _ _ (⟨[(0, str x363), (1, .int .u8 (a1.toNat : Int))], [], [], [(Ty.str.fact x363 [str x363])]⟩ : St) _
  rw [m175_l1] at hr
  refine at_seq (s_sr (s_mv rfl ?_))
  refine at_inv 0 rfl (fun l367 => ?_)
  replace l367 : x363.length ≤ 9223372036854775807 := l367
  refine at_lt (lt_slen rfl und9) rfl (at_lt (lt_gtr rfl rfl) rfl (s_mv rfl ?_))
  by_cases h368 : 0 < x363.length
  ·replace hr := ipos h368 hr
   refine at_on rfl rfl (decide_eq_true (by omega)) ?_
   refine s_mv rfl ?_
   replace hr := obind hr
   obtain ⟨c369, h370, hr⟩ := hr
   have := (List.getElem?_eq_some_iff.1 h370).1
   have := c369.toNat_lt
   refine at_on rfl rfl (decide_eq_true (by omega)) ?_
   refine at_lt (lt_sidx rfl rfl und9 (by omega) h370) rfl ?_
   refine at_on rfl rfl (decide_eq_true (by omega)) ?_
   refine s_mv rfl ?_
   refine at_on rfl rfl (decide_eq_true (by omega)) ?_
   refine at_lt (lt_eql rfl rfl) rfl ?_
   refine at_lt (lt_pick true rfl (decide_eq_true (by omega)) rfl) rfl ?_
   refine s_nt ?_
   by_cases h371 : c369.toNat = a1.toNat
   ·replace hr := ipos h371 hr
    refine at_true rfl (decide_eq_true (by omega)) ?_
    refine at_skip (at_then (at_block (at_region (s_mv rfl ?_))))
    replace hr := imust hr
    obtain ⟨h372, hr⟩ := hr
    refine at_lt (lt_scut_l 1 rfl rfl (by omega) und9 (by omega)) rfl ?_
    refine s_as rfl (at_nil (at_in ?_))
    refine at_str (x363.drop 1) (by simp only [List.length_take, List.length_drop]; omega) ?_
    exact at_again (σ := Str) (V := Unit) (lp := fun n s => m175_l1 a1 n s) (S := fun s e => (⟨[(0, str s), (1, .int .u8 (a1.toNat : Int))], [], [], [(Ty.str.fact s [str s])]⟩ : St)) (x363.drop 1) () hr ⟨⟨rfl, ⟨rfl, trivial⟩⟩, ⟨[], rfl⟩, ⟨[], rfl⟩, ⟨[0], rfl⟩⟩
   replace hr := ineg h371 hr
   refine at_false rfl (decide_eq_false (by omega)) ?_
   refine at_exit (at_then_exit (at_then_exit (at_in_exit ?_)))
   have hq := oinj hr
   clear hr
   subst hq
   exact at_leaf () ⟨⟨rfl, trivial⟩, ⟨[], rfl⟩, ⟨[], rfl⟩, ⟨[0], rfl⟩⟩
  replace hr := ineg h368 hr
  refine at_off rfl rfl (decide_eq_false (by omega)) rfl ?_
  refine at_off rfl rfl (decide_eq_false (by omega)) rfl ?_
  refine at_off rfl rfl (decide_eq_false (by omega)) rfl ?_
  refine at_off rfl rfl (decide_eq_false (by omega)) rfl ?_
  refine at_lt (lt_pick false rfl (decide_eq_false (by omega)) rfl) rfl ?_
  refine s_nt (at_false rfl rfl (at_exit (at_then_exit (at_then_exit (at_in_exit ?_)))))
  have hq := oinj hr
  clear hr
  subst hq
  exact at_leaf () ⟨⟨rfl, trivial⟩, ⟨[], rfl⟩, ⟨[], rfl⟩, ⟨[0], rfl⟩⟩
 clear hl365
 intro e
 change At _ _ (⟨[(0, str x364)], [], [], [(Ty.str.fact x364 [str x364])]⟩ : St) _
 refine s_tsr (s_mv rfl (s_as rfl (s_nt (at_ret ?_))))
 have hq := oinj hr
 clear hr
 subst hq
 exact at_return (str x364) [0] hS Tryz.results175 (.cons (.tmp rfl) .nil) rfl rfl ⟨rfl, rfl⟩
def m176_l1 (a1 : UInt8) : Nat → Str → Option Str
  | 0, _ => none
  | k + 1, x373 =>
    if 0 < x373.length then
     (at? x373 ((x373.length : Int) - 1)).bind fun c379 =>
     if c379.toNat = a1.toNat then
      if 0 ≤ (x373.length : Int) - 1 ∧ ((x373.length : Int) - 1).toNat ≤ x373.length then
       m176_l1 a1 k (x373.take (((x373.length : Int) - 1).toNat))
      else none
     else
      some x373
    else
     some x373
def m176 (a0 : Str) (a1 : UInt8) : Option Str :=
  (m176_l1 a1 (a0.length + 1) a0).bind fun x374 =>
  some x374
def post176 (r : Str) (v : Value) (fs : List Fact) : Prop := v = str r ∧ fs = [(Ty.str.fact r [str r])]
theorem en176 : Enters Tryz.prog 176 := ⟨_, Tryz.func176, by kernel_rfl, rfl⟩
theorem f176_spec {a0 : Str} {a1 : UInt8} {r : Str} (hr : m176 a0 a1 = some r) : Spec Tryz.prog 176 [str a0, .int .u8 (a1.toNat : Int)] [(Ty.str.fact a0 [str a0])] (post176 r) := by
 refine spec_start (N := 23) Tryz.func176 (by kernel_rfl) rfl rfl rfl ?_
 intro g hS
 unfold m176 at hr
 refine s_sr (s_as rfl (s_nt (at_seq ?_)))
 replace hr := obind hr
 obtain ⟨x374, hl375, hr⟩ := hr
 refine at_cut (V := Unit) (fun e => (⟨[(0, str x374)], [], [], [(Ty.str.fact x374 [str x374])]⟩ : St)) ?_ ?_
 ·refine at_block ?_
  refine at_loopW (σ := Str) (V := Unit) (r := x374) (fun n s => m176_l1 a1 n s) (fun s e => (⟨[(0, str s), (1, .int .u8 (a1.toNat : Int))], [], [], [(Ty.str.fact s [str s])]⟩ : St)) (fun _ => rfl) _ a0 () hl375 ⟨⟨rfl, ⟨rfl, trivial⟩⟩, ⟨[], rfl⟩, ⟨[], rfl⟩, ⟨[0], rfl⟩⟩ ?_
  clear hr hl375
  intro n x373 hr e
  skip
  skip
  change m176_l1 a1 (n + 1) x373 = some x374 at hr
  change At _ _ (⟨[(0, str x373), (1, .int .u8 (a1.toNat : Int))], [], [], [(Ty.str.fact x373 [str x373])]⟩ : St) _
  rw [m176_l1] at hr
  refine at_seq (s_sr (s_mv rfl ?_))
  refine at_inv 0 rfl (fun l377 => ?_)
  replace l377 : x373.length ≤ 9223372036854775807 := l377
  refine at_lt (lt_slen rfl und9) rfl (at_lt (lt_gtr rfl rfl) rfl (s_mv rfl ?_))
  by_cases h378 : 0 < x373.length
  ·replace hr := ipos h378 hr
   refine at_on rfl rfl (decide_eq_true (by omega)) ?_
   refine s_mv rfl ?_
   refine at_on rfl rfl (decide_eq_true (by omega)) ?_
   refine s_mv rfl ?_
   refine at_on rfl rfl (decide_eq_true (by omega)) ?_
   refine at_lt (lt_slen rfl und9) rfl ?_
   refine at_on rfl rfl (decide_eq_true (by omega)) ?_
   refine at_lt (lt_sub rfl rfl (by simp only [lo, hi]; omega)) rfl ?_
   replace hr := obind hr
   obtain ⟨c379, h380, hr⟩ := hr
   have := at?_lt h380
   have := c379.toNat_lt
   refine at_on rfl rfl (decide_eq_true (by omega)) ?_
   refine at_lt (lt_sidx rfl rfl und9 (at?_lt h380).1 (at?_get h380)) rfl ?_
   refine at_on rfl rfl (decide_eq_true (by omega)) ?_
   refine s_mv rfl ?_
   refine at_on rfl rfl (decide_eq_true (by omega)) ?_
   refine at_lt (lt_eql rfl rfl) rfl ?_
   refine at_lt (lt_pick true rfl (decide_eq_true (by omega)) rfl) rfl ?_
   refine s_nt ?_
   by_cases h381 : c379.toNat = a1.toNat
   ·replace hr := ipos h381 hr
    refine at_true rfl (decide_eq_true (by omega)) ?_
    refine at_skip (at_then (at_block (at_region (s_mv rfl (s_mv rfl (at_lt (lt_slen rfl und9) rfl (at_lt (lt_sub rfl rfl (by simp only [lo, hi]; omega)) rfl ?_)))))))
    replace hr := imust hr
    obtain ⟨h382, hr⟩ := hr
    refine at_lt (lt_scut_h (((x373.length : Int) - 1).toNat) rfl rfl (by omega) und9 (by omega)) rfl ?_
    refine s_as rfl (at_nil (at_in ?_))
    refine at_str (x373.take (((x373.length : Int) - 1).toNat)) (by simp only [List.length_take, List.length_drop]; omega) ?_
    exact at_again (σ := Str) (V := Unit) (lp := fun n s => m176_l1 a1 n s) (S := fun s e => (⟨[(0, str s), (1, .int .u8 (a1.toNat : Int))], [], [], [(Ty.str.fact s [str s])]⟩ : St)) (x373.take (((x373.length : Int) - 1).toNat)) () hr ⟨⟨rfl, ⟨rfl, trivial⟩⟩, ⟨[], rfl⟩, ⟨[], rfl⟩, ⟨[0], rfl⟩⟩
   replace hr := ineg h381 hr
   refine at_false rfl (decide_eq_false (by omega)) ?_
   refine at_exit (at_then_exit (at_then_exit (at_in_exit ?_)))
   have hq := oinj hr
   clear hr
   subst hq
   exact at_leaf () ⟨⟨rfl, trivial⟩, ⟨[], rfl⟩, ⟨[], rfl⟩, ⟨[0], rfl⟩⟩
  replace hr := ineg h378 hr
  refine at_off rfl rfl (decide_eq_false (by omega)) rfl ?_
  refine at_off rfl rfl (decide_eq_false (by omega)) rfl ?_
  refine at_off rfl rfl (decide_eq_false (by omega)) rfl ?_
  refine at_off rfl rfl (decide_eq_false (by omega)) rfl ?_
  refine at_off rfl rfl (decide_eq_false (by omega)) rfl ?_
  refine at_off rfl rfl (decide_eq_false (by omega)) rfl ?_
  refine at_off rfl rfl (decide_eq_false (by omega)) rfl ?_
  refine at_lt (lt_pick false rfl (decide_eq_false (by omega)) rfl) rfl ?_
  refine s_nt (at_false rfl rfl (at_exit (at_then_exit (at_then_exit (at_in_exit ?_)))))
  have hq := oinj hr
  clear hr
  subst hq
  exact at_leaf () ⟨⟨rfl, trivial⟩, ⟨[], rfl⟩, ⟨[], rfl⟩, ⟨[0], rfl⟩⟩
 clear hl375
 intro e
 change At _ _ (⟨[(0, str x374)], [], [], [(Ty.str.fact x374 [str x374])]⟩ : St) _
 refine s_tsr (s_mv rfl (s_as rfl (s_nt (at_ret ?_))))
 have hq := oinj hr
 clear hr
 subst hq
 exact at_return (str x374) [0] hS Tryz.results176 (.cons (.tmp rfl) .nil) rfl rfl ⟨rfl, rfl⟩
def m180_l1 (a1 : Str) : Nat → Str → Option Str
  | 0, _ => none
  | k + 1, x383 =>
    if 0 < x383.length then
     (m171 x383).bind fun x389 =>
     (m190 a1 x389.1).bind fun x393 =>
     if x393 = true then
      if 0 ≤ x389.2 ∧ x389.2.toNat ≤ x383.length then
       m180_l1 a1 k (x383.drop x389.2.toNat)
      else none
     else
      some x383
    else
     some x383
def m180 (a0 : Str) (a1 : Str) : Option Str :=
  (m180_l1 a1 (a0.length + 1) a0).bind fun x384 =>
  some x384
def post180 (r : Str) (v : Value) (fs : List Fact) : Prop := v = str r ∧ fs = [(Ty.str.fact r [str r])]
theorem en180 : Enters Tryz.prog 180 := ⟨_, Tryz.func180, by kernel_rfl, rfl⟩
theorem f180_spec {a0 : Str} {a1 : Str} {r : Str} (hr : m180 a0 a1 = some r) : Spec Tryz.prog 180 [str a0, str a1] [(Ty.str.fact a0 [str a0]), (Ty.str.fact a1 [str a1]), (utf8F 1 2)] (post180 r) := by
 refine spec_start (N := 23) Tryz.func180 (by kernel_rfl) rfl rfl rfl ?_
 intro g hS
 unfold m180 at hr
 refine s_sr (s_as rfl (s_nt (at_seq ?_)))
 replace hr := obind hr
 obtain ⟨x384, hl385, hr⟩ := hr
 refine at_cut (V := Unit) (fun e => (⟨[(0, str x384)], [], [], [(Ty.str.fact x384 [str x384]), (utf8F 1 2)]⟩ : St)) ?_ ?_
 ·refine at_block ?_
  refine at_loopW (σ := Str) (V := Unit) (r := x384) (fun n s => m180_l1 a1 n s) (fun s e => (⟨[(0, str s), (1, str a1)], [], [], [(Ty.str.fact s [str s]), (Ty.str.fact a1 [str a1]), (utf8F 1 2)]⟩ : St)) (fun _ => rfl) _ a0 () hl385 ⟨⟨rfl, ⟨rfl, trivial⟩⟩, ⟨[], rfl⟩, ⟨[], rfl⟩, ⟨[0, 1, 2], rfl⟩⟩ ?_
  clear hr hl385
  intro n x383 hr e
  skip
  skip
  change m180_l1 a1 (n + 1) x383 = some x384 at hr
  change At _ _ (⟨[(0, str x383), (1, str a1)], [], [], [(Ty.str.fact x383 [str x383]), (Ty.str.fact a1 [str a1]), (utf8F 1 2)]⟩ : St) _
  rw [m180_l1] at hr
  refine at_seq (s_sr (s_mv rfl ?_))
  refine at_inv 0 rfl (fun l387 => ?_)
  replace l387 : x383.length ≤ 9223372036854775807 := l387
  refine at_lt (lt_slen rfl und9) rfl (at_lt (lt_gtr rfl rfl) rfl (s_nt ?_))
  by_cases h388 : 0 < x383.length
  ·replace hr := ipos h388 hr
   refine at_true rfl (decide_eq_true (by omega)) ?_
   refine at_skip (at_then (at_block (s_sr (s_mv rfl ?_))))
   replace hr := obind hr
   obtain ⟨x389, h390, hr⟩ := hr
   refine at_hv rfl (hv_call0 [0, 2] (f171_spec h390) rfl rfl rfl rfl ?_)
   rintro _ _ ⟨rfl, rfl⟩
   refine at_inv 0 rfl (fun l391 => ?_)
   replace l391 : (-2147483648) ≤ x389.1 ∧ x389.1 ≤ 2147483647 := l391
   refine at_inv 1 rfl (fun l392 => ?_)
   replace l392 : (-9223372036854775808) ≤ x389.2 ∧ x389.2 ≤ 9223372036854775807 := l392
   refine s_mv rfl (at_lt (lt_extract rfl rfl) rfl (at_lt (lt_extract rfl rfl) rfl (s_as rfl (s_as rfl (s_nt (at_seq (s_sr (s_mv rfl (s_mv rfl ?_)))))))))
   replace hr := obind hr
   obtain ⟨x393, h394, hr⟩ := hr
   refine at_hv rfl (hv_call0 [3, 0] (f190_spec h394) rfl rfl rfl rfl ?_)
   rintro _ _ ⟨rfl, rfl⟩
   refine at_lt (lt_not rfl) rfl (s_nt ?_)
   by_cases h395 : x393 = true
   ·replace hr := ipos h395 hr
    refine at_false rfl (nt h395) (at_skip (s_tr (s_mv rfl (s_mv rfl ?_))))
    replace hr := imust hr
    obtain ⟨h396, hr⟩ := hr
    refine at_lt (lt_scut_l x389.2.toNat rfl rfl (by omega) und9 (by omega)) rfl ?_
    refine s_as rfl (at_nil (at_in ?_))
    refine at_str (x383.drop x389.2.toNat) (by simp only [List.length_take, List.length_drop]; omega) ?_
    exact at_again (σ := Str) (V := Unit) (lp := fun n s => m180_l1 a1 n s) (S := fun s e => (⟨[(0, str s), (1, str a1)], [], [], [(Ty.str.fact s [str s]), (Ty.str.fact a1 [str a1]), (utf8F 1 2)]⟩ : St)) (x383.drop x389.2.toNat) () hr ⟨⟨rfl, ⟨rfl, trivial⟩⟩, ⟨[], rfl⟩, ⟨[], rfl⟩, ⟨[0, 4, 5], rfl⟩⟩
   replace hr := ineg h395 hr
   refine at_true rfl (nf (bf h395)) (at_exit (at_then_exit (at_in_other rfl (at_then_exit (at_in_exit ?_)))))
   have hq := oinj hr
   clear hr
   subst hq
   exact at_leaf () ⟨⟨rfl, trivial⟩, ⟨[], rfl⟩, ⟨[], rfl⟩, ⟨[2, 4], rfl⟩⟩
  replace hr := ineg h388 hr
  refine at_false rfl (decide_eq_false (by omega)) ?_
  refine at_exit (at_then_exit (at_then_exit (at_in_exit ?_)))
  have hq := oinj hr
  clear hr
  subst hq
  exact at_leaf () ⟨⟨rfl, trivial⟩, ⟨[], rfl⟩, ⟨[], rfl⟩, ⟨[0, 2], rfl⟩⟩
 clear hl385
 intro e
 change At _ _ (⟨[(0, str x384)], [], [], [(Ty.str.fact x384 [str x384]), (utf8F 1 2)]⟩ : St) _
 refine s_tsr (s_mv rfl (s_as rfl (s_nt (at_ret ?_))))
 have hq := oinj hr
 clear hr
 subst hq
 exact at_return (str x384) [0] hS Tryz.results180 (.cons (.tmp rfl) .nil) rfl rfl ⟨rfl, rfl⟩
def m196 (a0 : UInt8) : Option Bool :=
  some (!decide (bits .and .u8 (a0.toNat : Int) 192 = 128))
def post196 (r : Bool) (v : Value) (fs : List Fact) : Prop := v = .bool r ∧ fs = []
theorem en196 : Enters Tryz.prog 196 := ⟨_, Tryz.func196, by kernel_rfl, rfl⟩
theorem f196_spec {a0 : UInt8} {r : Bool} (hr : m196 a0 = some r) : Spec Tryz.prog 196 [.int .u8 (a0.toNat : Int)] [] (post196 r) := by
 refine spec_start (N := 6) Tryz.func196 (by kernel_rfl) rfl rfl rfl ?_
 intro g hS
 unfold m196 at hr
 refine s_sr (s_as rfl (s_ntsr (s_mv rfl (at_lt (lt_and rfl rfl) rfl (at_lt (lt_neq rfl rfl) rfl (s_as rfl (s_nt (at_ret ?_))))))))
 have hq := oinj hr
 clear hr
 subst hq
 exact at_return (.bool (!decide (bits .and .u8 (a0.toNat : Int) 192 = 128))) [] hS Tryz.results196 (.cons (.tmp rfl) .nil) rfl rfl ⟨rfl, rfl⟩
def m191 (a0 : Str) : Option (Int × Int) :=
  if a0.length = 0 then
   some (65533, 0)
  else
   (at? a0 ((a0.length : Int) - 1)).bind fun c399 =>
   if (c399.toNat : Int) < 128 then
    some ((c399.toNat : Int), 1)
   else
    none
def post191 (r : (Int × Int)) (v : Value) (fs : List Fact) : Prop := v = .tuple #[.int .i32 r.1, .int .i64 r.2] ∧ fs = [((Ty.int .i32).fact r.1 [.int .i32 r.1]), ((Ty.int .i64).fact r.2 [.int .i64 r.2])]
theorem en191 : Enters Tryz.prog 191 := ⟨_, Tryz.func191, by kernel_rfl, rfl⟩
theorem f191_spec {a0 : Str} {r : (Int × Int)} (hr : m191 a0 = some r) : Spec Tryz.prog 191 [str a0] [(Ty.str.fact a0 [str a0]), (utf8F 1 2)] (post191 r) := by
 refine spec_start (N := 51) Tryz.func191 (by kernel_rfl) rfl rfl rfl ?_
 intro g hS
 unfold m191 at hr
 refine s_sr (s_as rfl (s_as rfl (s_ntsr (s_mv rfl ?_))))
 refine at_inv 0 rfl (fun l397 => ?_)
 replace l397 : a0.length ≤ 9223372036854775807 := l397
 refine at_lt (lt_slen rfl und9) rfl (s_as rfl (s_nt (at_seq (s_sr (s_mv rfl (at_lt (lt_eql rfl rfl) rfl (s_nt ?_)))))))
 by_cases h398 : a0.length = 0
 ·replace hr := ipos h398 hr
  refine at_true rfl (decide_eq_true (by omega)) ?_
  refine s_sr (s_as rfl (s_as rfl (s_nt (at_ret ?_))))
  have hq := oinj hr
  clear hr
  subst hq
  refine at_then_ret (at_int .i32 65533 (by simp only [lo, hi]; omega) (at_int .i64 0 (by simp only [lo, hi]; omega) ?_))
  exact at_return (.tuple #[.int .i32 65533, .int .i64 0]) [1, 0] hS Tryz.results191 (.cons (.tmp rfl) (.cons (.tmp rfl) .nil)) rfl rfl ⟨rfl, rfl⟩
 replace hr := ineg h398 hr
 refine at_false rfl (decide_eq_false (by omega)) ?_
 refine at_skip (s_tsr (s_mv rfl (at_lt (lt_sub rfl rfl (by simp only [lo, hi]; omega)) rfl (s_as rfl (s_ntsr (s_mv rfl (s_mv rfl ?_)))))))
 replace hr := obind hr
 obtain ⟨c399, h400, hr⟩ := hr
 have := at?_lt h400
 have := c399.toNat_lt
 refine at_lt (lt_sidx rfl rfl und9 (at?_lt h400).1 (at?_get h400)) rfl ?_
 refine at_lt (lt_convint rfl (iso und5) und21 (u8_in_i32 c399)) rfl (s_as rfl (s_nt (at_seq (s_sr (s_mv rfl (at_lt (lt_lss rfl rfl) rfl (s_nt ?_)))))))
 by_cases h401 : (c399.toNat : Int) < 128
 ·replace hr := ipos h401 hr
  refine at_true rfl (decide_eq_true (by first | exact h401 | omega)) ?_
  refine s_sr (s_mv rfl (s_as rfl (s_as rfl (s_nt (at_ret ?_)))))
  have hq := oinj hr
  clear hr
  subst hq
  refine at_then_ret (at_int .i32 (c399.toNat : Int) (u8_in_i32 c399) (at_int .i64 1 (by simp only [lo, hi]; omega) ?_))
  exact at_return (.tuple #[.int .i32 (c399.toNat : Int), .int .i64 1]) [1, 0] hS Tryz.results191 (.cons (.tmp rfl) (.cons (.tmp rfl) .nil)) rfl rfl ⟨rfl, rfl⟩
 replace hr := ineg h401 hr
 cases hr
def m181_l1 (a1 : Str) : Nat → Str → Option Str
  | 0, _ => none
  | k + 1, x402 =>
    if 0 < x402.length then
     (at? x402 ((x402.length : Int) - 1)).bind fun c408 =>
     Option.bind (α := (Int × Int)) (
      if (128 : Int) ≤ (c408.toNat : Int) then
       (m191 x402).bind fun x415 =>
       some (x415.1, x415.2)
      else
       some ((c408.toNat : Int), 1)
     ) fun (x410, x411) =>
     (m190 a1 x410).bind fun x421 =>
     if x421 = true then
      if 0 ≤ IntKind.i64.wrap ((x402.length : Int) - x411) ∧ (IntKind.i64.wrap ((x402.length : Int) - x411)).toNat ≤ x402.length then
       m181_l1 a1 k (x402.take ((IntKind.i64.wrap ((x402.length : Int) - x411)).toNat))
      else none
     else
      some x402
    else
     some x402
def m181 (a0 : Str) (a1 : Str) : Option Str :=
  (m181_l1 a1 (a0.length + 1) a0).bind fun x403 =>
  some x403
def post181 (r : Str) (v : Value) (fs : List Fact) : Prop := v = str r ∧ fs = [(Ty.str.fact r [str r])]
theorem en181 : Enters Tryz.prog 181 := ⟨_, Tryz.func181, by kernel_rfl, rfl⟩
theorem f181_spec {a0 : Str} {a1 : Str} {r : Str} (hr : m181 a0 a1 = some r) : Spec Tryz.prog 181 [str a0, str a1] [(Ty.str.fact a0 [str a0]), (Ty.str.fact a1 [str a1]), (utf8F 1 2)] (post181 r) := by
 refine spec_start (N := 34) Tryz.func181 (by kernel_rfl) rfl rfl rfl ?_
 intro g hS
 unfold m181 at hr
 refine s_sr (s_as rfl (s_nt (at_seq ?_)))
 replace hr := obind hr
 obtain ⟨x403, hl404, hr⟩ := hr
 refine at_cut (V := Unit) (fun e => (⟨[(0, str x403)], [], [], [(Ty.str.fact x403 [str x403]), (utf8F 1 2)]⟩ : St)) ?_ ?_
 ·refine at_block ?_
  refine at_loopW (σ := Str) (V := Unit) (r := x403) (fun n s => m181_l1 a1 n s) (fun s e => (⟨[(0, str s), (1, str a1)], [], [], [(Ty.str.fact s [str s]), (Ty.str.fact a1 [str a1]), (utf8F 1 2)]⟩ : St)) (fun _ => rfl) _ a0 () hl404 ⟨⟨rfl, ⟨rfl, trivial⟩⟩, ⟨[], rfl⟩, ⟨[], rfl⟩, ⟨[0, 1, 2], rfl⟩⟩ ?_
  clear hr hl404
  intro n x402 hr e
  skip
  skip
  change m181_l1 a1 (n + 1) x402 = some x403 at hr
  change At _ _ (⟨[(0, str x402), (1, str a1)], [], [], [(Ty.str.fact x402 [str x402]), (Ty.str.fact a1 [str a1]), (utf8F 1 2)]⟩ : St) _
  rw [m181_l1] at hr
  refine at_seq (s_sr (s_mv rfl ?_))
  refine at_inv 0 rfl (fun l406 => ?_)
  replace l406 : x402.length ≤ 9223372036854775807 := l406
  refine at_lt (lt_slen rfl und9) rfl (at_lt (lt_gtr rfl rfl) rfl (s_nt ?_))
  by_cases h407 : 0 < x402.length
  ·replace hr := ipos h407 hr
   refine at_true rfl (decide_eq_true (by omega)) ?_
   refine at_skip (at_then (at_block (s_sr (s_mv rfl (s_mv rfl (at_lt (lt_slen rfl und9) rfl (at_lt (lt_sub rfl rfl (by simp only [lo, hi]; omega)) rfl ?_)))))))
   replace hr := obind hr
   obtain ⟨c408, h409, hr⟩ := hr
   have := at?_lt h409
   have := c408.toNat_lt
   refine at_lt (lt_sidx rfl rfl und9 (at?_lt h409).1 (at?_get h409)) rfl ?_
   refine at_lt (lt_convint rfl (iso und5) und21 (u8_in_i32 c408)) rfl (s_as rfl (s_as rfl (s_nt (at_seq (s_sr (s_mv rfl (at_lt (lt_geq rfl rfl) rfl (s_nt ?_))))))))
   replace hr := obind hr
   obtain ⟨r412, hc413, hr⟩ := hr
   refine at_cut (V := Unit) (fun e => (⟨[(0, str x402), (1, str a1), (5, .int .i32 r412.1), (6, .int .i64 r412.2)], [], [], [((Ty.int .i32).fact r412.1 [.int .i32 r412.1]), ((Ty.int .i64).fact r412.2 [.int .i64 r412.2]), (Ty.str.fact x402 [str x402]), (Ty.str.fact a1 [str a1]), (utf8F 1 2)]⟩ : St)) ?_ ?_
   ·clear hr
    have hr := hc413
    clear hc413
    by_cases h414 : (128 : Int) ≤ (c408.toNat : Int)
    ·replace hr := ipos h414 hr
     refine at_true rfl (decide_eq_true (by first | exact h414 | omega)) ?_
     refine at_region (s_mv rfl ?_)
     replace hr := obind hr
     obtain ⟨x415, h416, hr⟩ := hr
     refine at_hv rfl (hv_call0 [0, 2] (f191_spec h416) rfl rfl rfl rfl ?_)
     rintro _ _ ⟨rfl, rfl⟩
     refine at_inv 0 rfl (fun l417 => ?_)
     replace l417 : (-2147483648) ≤ x415.1 ∧ x415.1 ≤ 2147483647 := l417
     refine at_inv 1 rfl (fun l418 => ?_)
     replace l418 : (-9223372036854775808) ≤ x415.2 ∧ x415.2 ≤ 9223372036854775807 := l418
     refine s_mv rfl (at_lt (lt_extract rfl rfl) rfl (at_lt (lt_extract rfl rfl) rfl (s_as rfl (s_as rfl (at_nil ?_)))))
     have hq := oinj hr
     clear hr
     subst hq
     exact at_leaf () ⟨⟨rfl, ⟨rfl, ⟨rfl, ⟨rfl, trivial⟩⟩⟩⟩, ⟨[], rfl⟩, ⟨[], rfl⟩, ⟨[0, 1, 2, 3, 4], rfl⟩⟩
    replace hr := ineg h414 hr
    refine at_false rfl (decide_eq_false (by first | exact h414 | omega)) ?_
    refine at_skip ?_
    have hq := oinj hr
    clear hr
    subst hq
    refine at_int .i32 (c408.toNat : Int) (u8_in_i32 c408) (at_int .i64 1 (by simp only [lo, hi]; omega) ?_)
    exact at_leaf () ⟨⟨rfl, ⟨rfl, ⟨rfl, ⟨rfl, trivial⟩⟩⟩⟩, ⟨[], rfl⟩, ⟨[], rfl⟩, ⟨[1, 0, 2, 3, 4], rfl⟩⟩
   clear hc413
   obtain ⟨x410, x411⟩ := r412
   intro _
   change At _ _ (⟨[(0, str x402), (1, str a1), (5, .int .i32 x410), (6, .int .i64 x411)], [], [], [((Ty.int .i32).fact x410 [.int .i32 x410]), ((Ty.int .i64).fact x411 [.int .i64 x411]), (Ty.str.fact x402 [str x402]), (Ty.str.fact a1 [str a1]), (utf8F 1 2)]⟩ : St) _
   refine at_inv 0 rfl (fun l419 => ?_)
   replace l419 : (-2147483648) ≤ x410 ∧ x410 ≤ 2147483647 := l419
   refine at_inv 1 rfl (fun l420 => ?_)
   replace l420 : (-9223372036854775808) ≤ x411 ∧ x411 ≤ 9223372036854775807 := l420
   refine at_then (at_seq (s_sr (s_mv rfl (s_mv rfl ?_))))
   replace hr := obind hr
   obtain ⟨x421, h422, hr⟩ := hr
   refine at_hv rfl (hv_call0 [3, 0] (f190_spec h422) rfl rfl rfl rfl ?_)
   rintro _ _ ⟨rfl, rfl⟩
   refine at_lt (lt_not rfl) rfl (s_nt ?_)
   by_cases h423 : x421 = true
   ·replace hr := ipos h423 hr
    refine at_false rfl (nt h423) (at_skip (s_tr (s_mv rfl (s_mv rfl (at_lt (lt_slen rfl und9) rfl (s_mv rfl (at_lt (lt_subw rfl rfl) rfl ?_)))))))
    replace hr := imust hr
    obtain ⟨h424, hr⟩ := hr
    refine at_lt (lt_scut_h ((IntKind.i64.wrap ((x402.length : Int) - x411)).toNat) rfl rfl (by omega) und9 (by omega)) rfl ?_
    refine s_as rfl (at_nil (at_in ?_))
    refine at_str (x402.take ((IntKind.i64.wrap ((x402.length : Int) - x411)).toNat)) (by simp only [List.length_take, List.length_drop]; omega) ?_
    exact at_again (σ := Str) (V := Unit) (lp := fun n s => m181_l1 a1 n s) (S := fun s e => (⟨[(0, str s), (1, str a1)], [], [], [(Ty.str.fact s [str s]), (Ty.str.fact a1 [str a1]), (utf8F 1 2)]⟩ : St)) (x402.take ((IntKind.i64.wrap ((x402.length : Int) - x411)).toNat)) () hr ⟨⟨rfl, ⟨rfl, trivial⟩⟩, ⟨[], rfl⟩, ⟨[], rfl⟩, ⟨[0, 4, 5], rfl⟩⟩
   replace hr := ineg h423 hr
   refine at_true rfl (nf (bf h423)) (at_exit (at_then_exit (at_in_other rfl (at_then_exit (at_in_exit ?_)))))
   have hq := oinj hr
   clear hr
   subst hq
   exact at_leaf () ⟨⟨rfl, trivial⟩, ⟨[], rfl⟩, ⟨[], rfl⟩, ⟨[2, 4], rfl⟩⟩
  replace hr := ineg h407 hr
  refine at_false rfl (decide_eq_false (by omega)) ?_
  refine at_exit (at_then_exit (at_then_exit (at_in_exit ?_)))
  have hq := oinj hr
  clear hr
  subst hq
  exact at_leaf () ⟨⟨rfl, trivial⟩, ⟨[], rfl⟩, ⟨[], rfl⟩, ⟨[0, 2], rfl⟩⟩
 clear hl404
 intro e
 change At _ _ (⟨[(0, str x403)], [], [], [(Ty.str.fact x403 [str x403]), (utf8F 1 2)]⟩ : St) _
 refine s_tsr (s_mv rfl (s_as rfl (s_nt (at_ret ?_))))
 have hq := oinj hr
 clear hr
 subst hq
 exact at_return (str x403) [0] hS Tryz.results181 (.cons (.tmp rfl) .nil) rfl rfl ⟨rfl, rfl⟩
def m156 (a0 : Str) (a1 : Str) : Option Str :=
  if a0 = ([] : Str) then
   some a0
  else
   if a1 = ([] : Str) then
    some a0
   else
    Option.bind (α := Bool) (
     if a1.length = 1 then
      (a1[0]?).bind fun c431 =>
      some (decide ((c431.toNat : Int) < 128))
     else
      some false
    ) fun x427 =>
    if x427 = true then
     (a1[0]?).bind fun c434 =>
     (m176 a0 c434).bind fun x436 =>
     (a1[0]?).bind fun c438 =>
     (m175 x436 c438).bind fun x440 =>
     some x440
    else
     none
def post156 (r : Str) (v : Value) (fs : List Fact) : Prop := v = str r ∧ fs = [(Ty.str.fact r [str r])]
theorem en156 : Enters Tryz.prog 156 := ⟨_, Tryz.func156, by kernel_rfl, rfl⟩
theorem f156_spec {a0 : Str} {a1 : Str} {r : Str} (hr : m156 a0 a1 = some r) : Spec Tryz.prog 156 [str a0, str a1] [(Ty.str.fact a0 [str a0]), (Ty.str.fact a1 [str a1]), (utf8F 1 2)] (post156 r) := by
 refine spec_start (N := 43) Tryz.func156 (by kernel_rfl) rfl rfl rfl ?_
 intro g hS
 unfold m156 at hr
 refine s_sr (s_as rfl (s_nt (at_seq (s_sr (s_mv rfl (at_lt (lt_seql rfl rfl) rfl (s_mv rfl ?_)))))))
 by_cases h425 : a0 = ([] : Str)
 ·replace hr := ipos h425 hr
  refine at_off rfl rfl (decide_eq_true h425) rfl (at_off rfl rfl (decide_eq_true h425) rfl (at_lt (lt_pick true rfl (decide_eq_true h425) rfl) rfl (s_nt (at_true rfl rfl (s_sr (s_mv rfl (s_as rfl (s_nt (at_ret ?_)))))))))
  have hq := oinj hr
  clear hr
  subst hq
  refine at_then_ret ?_
  exact at_return (str a0) [0] hS Tryz.results156 (.cons (.tmp rfl) .nil) rfl rfl ⟨rfl, rfl⟩
 replace hr := ineg h425 hr
 refine at_on rfl rfl (decide_eq_false h425) (s_mv rfl (at_on rfl rfl (decide_eq_false h425) (at_lt (lt_seql rfl rfl) rfl (at_lt (lt_pick false rfl (decide_eq_false h425) rfl) rfl (s_nt ?_)))))
 by_cases h426 : a1 = ([] : Str)
 ·replace hr := ipos h426 hr
  refine at_true rfl (decide_eq_true h426) (s_sr (s_mv rfl (s_as rfl (s_nt (at_ret ?_)))))
  have hq := oinj hr
  clear hr
  subst hq
  refine at_then_ret ?_
  exact at_return (str a0) [0] hS Tryz.results156 (.cons (.tmp rfl) .nil) rfl rfl ⟨rfl, rfl⟩
 replace hr := ineg h426 hr
 refine at_false rfl (decide_eq_false h426) (at_skip (at_then (at_seq (at_seq ?_))))
 replace hr := obind hr
 obtain ⟨x427, hc428, hr⟩ := hr
 refine at_cut (V := Unit) (fun e => (⟨[(0, str a0), (1, str a1), (21, .bool x427)], [], [], [(Ty.str.fact a0 [str a0]), (Ty.str.fact a1 [str a1]), (utf8F 1 2)]⟩ : St)) ?_ ?_
 ·clear hr
  have hr := hc428
  clear hc428
  refine at_region (s_mv rfl ?_)
  refine at_inv 1 rfl (fun l429 => ?_)
  replace l429 : a1.length ≤ 9223372036854775807 := l429
  refine at_lt (lt_slen rfl und9) rfl (at_lt (lt_eql rfl rfl) rfl (s_mv rfl ?_))
  by_cases h430 : a1.length = 1
  ·replace hr := ipos h430 hr
   refine at_on rfl rfl (decide_eq_true (by omega)) ?_
   refine s_mv rfl ?_
   replace hr := obind hr
   obtain ⟨c431, h432, hr⟩ := hr
   have := (List.getElem?_eq_some_iff.1 h432).1
   have := c431.toNat_lt
   refine at_on rfl rfl (decide_eq_true (by omega)) ?_
   refine at_lt (lt_sidx rfl rfl und9 (by omega) h432) rfl ?_
   refine at_on rfl rfl (decide_eq_true (by omega)) ?_
   refine at_lt (lt_lss rfl rfl) rfl ?_
   refine at_lt (lt_pick true rfl (decide_eq_true (by omega)) rfl) rfl ?_
   refine at_nil ?_
   have hq := oinj hr
   clear hr
   subst hq
   exact at_leaf () ⟨⟨rfl, ⟨rfl, ⟨rfl, trivial⟩⟩⟩, ⟨[], rfl⟩, ⟨[], rfl⟩, ⟨[0, 1, 2], rfl⟩⟩
  replace hr := ineg h430 hr
  refine at_off rfl rfl (decide_eq_false (by omega)) rfl ?_
  refine at_off rfl rfl (decide_eq_false (by omega)) rfl ?_
  refine at_off rfl rfl (decide_eq_false (by omega)) rfl ?_
  refine at_lt (lt_pick false rfl (decide_eq_false (by omega)) rfl) rfl ?_
  refine at_nil ?_
  have hq := oinj hr
  clear hr
  subst hq
  exact at_leaf () ⟨⟨rfl, ⟨rfl, ⟨rfl, trivial⟩⟩⟩, ⟨[], rfl⟩, ⟨[], rfl⟩, ⟨[0, 1, 2], rfl⟩⟩
 clear hc428
 intro _
 change At _ _ (⟨[(0, str a0), (1, str a1), (21, .bool x427)], [], [], [(Ty.str.fact a0 [str a0]), (Ty.str.fact a1 [str a1]), (utf8F 1 2)]⟩ : St) _
 refine at_then ?_
 by_cases h433 : x427 = true
 ·replace hr := ipos h433 hr
  refine at_true rfl h433 (at_seq ?_)
  replace hr := obind hr
  obtain ⟨c434, h435, hr⟩ := hr
  have := (List.getElem?_eq_some_iff.1 h435).1
  have := c434.toNat_lt
  replace hr := obind hr
  obtain ⟨x436, h437, hr⟩ := hr
  replace hr := obind hr
  obtain ⟨c438, h439, hr⟩ := hr
  have := (List.getElem?_eq_some_iff.1 h439).1
  have := c438.toNat_lt
  replace hr := obind hr
  obtain ⟨x440, h441, hr⟩ := hr
  refine aa_start 8 (by kernel_rfl) ?_
  refine aa_p 0 rfl (lt_move rfl) (aa_p 1 rfl (lt_move rfl) ?_)
  refine aa_p 2 rfl (lt_sidx rfl rfl und9 (by omega) h435) ?_
  refine aa_p 4 rfl (lt_move rfl) ?_
  refine aa_p 5 rfl (lt_sidx rfl rfl und9 (by omega) h439) ?_
  refine aa_one 3 (aa_op rfl rfl (hv_call0 [0] (f176_spec h437) rfl rfl rfl rfl ?_))
  rintro _ _ ⟨rfl, rfl⟩
  refine aa_all (rs := [6]) (by kernel_rfl) rfl (ts_in 0 1 rfl rfl) (List.forall_mem_singleton.2 ?_)
  refine aa_op rfl rfl (hv_call0 [0] (f175_spec h441) rfl rfl rfl rfl ?_)
  rintro _ _ ⟨rfl, rfl⟩
  refine aa_pure 7 rfl (by kernel_rfl) rfl rfl (lt_assign rfl) rfl (ts_in 0 2 rfl rfl) ?_
  refine aa_done (by kernel_rfl) (ts_in 0 2 rfl rfl) ?_
  refine at_then (at_ret ?_)
  have hq := oinj hr
  clear hr
  subst hq
  refine at_then_ret ?_
  exact at_return (str x440) [0] hS Tryz.results156 (.cons (.tmp rfl) .nil) rfl rfl ⟨rfl, rfl⟩
 replace hr := ineg h433 hr
 cases hr
end Go.WK.S
