/- What functions of this program compute: a model of each, and the proof that it is kept. -/
import Derived.Test.YtidmlhihfanglaaGreatDoorTextT
import Derived.KernelRfl
namespace Go.WK.S
open Go Go.Proofs Go.WK Go.RowKit
set_option linter.unusedVariables false
set_option maxRecDepth 100000
set_option maxHeartbeats 4000000
/-! 91 bookplate/crosswalk.code -/
def m91 (a0 : UInt8) : Option Bool :=
  if 48 ≤ a0.toNat then
    if a0.toNat ≤ 57 then
      some true
    else
      if 97 ≤ a0.toNat then
        some (decide ((a0.toNat : Int) ≤ 122))
      else
        some false
  else
    if 97 ≤ a0.toNat then
      some (decide ((a0.toNat : Int) ≤ 122))
    else
      some false
def post91 (r : Bool) (v : Value) (fs : List Fact) : Prop := v = .bool r ∧ fs = []
theorem en91 : Enters Tryz.prog 91 := ⟨_, Tryz.func91, by kernel_rfl, rfl⟩
theorem f91_spec {a0 : UInt8} {r : Bool} (hr : m91 a0 = some r) : Spec Tryz.prog 91 [.int .u8 (a0.toNat : Int)] [] (post91 r) := by
  refine spec_start (N := 17) Tryz.func91 (by kernel_rfl) rfl rfl rfl ?_
  intro g hS
  unfold m91 at hr
  refine at_seq ?_
  refine at_region ?_
  refine at_lt (lt_assign rfl) rfl ?_
  refine at_nil ?_
  refine at_then ?_
  refine at_seq ?_
  refine at_region ?_
  refine at_lt (lt_move rfl) rfl ?_
  refine at_lt (lt_geq rfl rfl) rfl ?_
  refine at_lt (lt_move rfl) rfl ?_
  by_cases h1 : 48 ≤ a0.toNat
  · replace hr := ipos h1 hr
    refine at_on rfl rfl (decide_eq_true (by omega)) ?_
    refine at_lt (lt_move rfl) rfl ?_
    refine at_on rfl rfl (decide_eq_true (by omega)) ?_
    refine at_lt (lt_leq rfl rfl) rfl ?_
    refine at_lt (lt_pick true rfl (decide_eq_true (by omega)) rfl) rfl ?_
    refine at_lt (lt_move rfl) rfl ?_
    by_cases h2 : a0.toNat ≤ 57
    · replace hr := ipos h2 hr
      refine at_off rfl rfl (decide_eq_true (by omega)) rfl ?_
      refine at_off rfl rfl (decide_eq_true (by omega)) rfl ?_
      refine at_off rfl rfl (decide_eq_true (by omega)) rfl ?_
      refine at_offu rfl rfl rfl ?_
      refine at_offu rfl rfl rfl ?_
      refine at_off rfl rfl (decide_eq_true (by omega)) rfl ?_
      refine at_lt (lt_pick true rfl (decide_eq_true (by omega)) rfl) rfl ?_
      refine at_lt (lt_assign rfl) rfl ?_
      refine at_nil ?_
      refine at_then ?_
      refine at_ret ?_
      have hq := oinj hr
      clear hr
      subst hq
      exact at_return (.bool true) [] hS Tryz.results91 (.cons (.tmp rfl) .nil) rfl rfl ⟨rfl, rfl⟩
    · replace hr := ineg h2 hr
      refine at_on rfl rfl (decide_eq_false (by omega)) ?_
      refine at_lt (lt_move rfl) rfl ?_
      refine at_on rfl rfl (decide_eq_false (by omega)) ?_
      refine at_lt (lt_geq rfl rfl) rfl ?_
      refine at_on rfl rfl (decide_eq_false (by omega)) ?_
      refine at_lt (lt_move rfl) rfl ?_
      by_cases h3 : 97 ≤ a0.toNat
      · replace hr := ipos h3 hr
        refine at_on rfl rfl (decide_eq_true (by omega)) ?_
        refine at_lt (lt_move rfl) rfl ?_
        refine at_on rfl rfl (decide_eq_true (by omega)) ?_
        refine at_lt (lt_leq rfl rfl) rfl ?_
        refine at_on rfl rfl (decide_eq_false (by omega)) ?_
        refine at_lt (lt_pick true rfl (decide_eq_true (by omega)) rfl) rfl ?_
        refine at_lt (lt_pick false rfl (decide_eq_false (by omega)) rfl) rfl ?_
        refine at_lt (lt_assign rfl) rfl ?_
        refine at_nil ?_
        refine at_then ?_
        refine at_ret ?_
        have hq := oinj hr
        clear hr
        subst hq
        exact at_return (.bool (decide ((a0.toNat : Int) ≤ 122))) [] hS Tryz.results91 (.cons (.tmp rfl) .nil) rfl rfl ⟨rfl, rfl⟩
      · replace hr := ineg h3 hr
        refine at_off rfl rfl (decide_eq_false (by omega)) rfl ?_
        refine at_off rfl rfl (decide_eq_false (by omega)) rfl ?_
        refine at_on rfl rfl (decide_eq_false (by omega)) ?_
        refine at_lt (lt_pick false rfl (decide_eq_false (by omega)) rfl) rfl ?_
        refine at_lt (lt_pick false rfl (decide_eq_false (by omega)) rfl) rfl ?_
        refine at_lt (lt_assign rfl) rfl ?_
        refine at_nil ?_
        refine at_then ?_
        refine at_ret ?_
        have hq := oinj hr
        clear hr
        subst hq
        exact at_return (.bool false) [] hS Tryz.results91 (.cons (.tmp rfl) .nil) rfl rfl ⟨rfl, rfl⟩
  · replace hr := ineg h1 hr
    refine at_off rfl rfl (decide_eq_false (by omega)) rfl ?_
    refine at_off rfl rfl (decide_eq_false (by omega)) rfl ?_
    refine at_lt (lt_pick false rfl (decide_eq_false (by omega)) rfl) rfl ?_
    refine at_lt (lt_move rfl) rfl ?_
    refine at_on rfl rfl rfl ?_
    refine at_lt (lt_move rfl) rfl ?_
    refine at_on rfl rfl rfl ?_
    refine at_lt (lt_geq rfl rfl) rfl ?_
    refine at_on rfl rfl rfl ?_
    refine at_lt (lt_move rfl) rfl ?_
    by_cases h4 : 97 ≤ a0.toNat
    · replace hr := ipos h4 hr
      refine at_on rfl rfl (decide_eq_true (by omega)) ?_
      refine at_lt (lt_move rfl) rfl ?_
      refine at_on rfl rfl (decide_eq_true (by omega)) ?_
      refine at_lt (lt_leq rfl rfl) rfl ?_
      refine at_on rfl rfl rfl ?_
      refine at_lt (lt_pick true rfl (decide_eq_true (by omega)) rfl) rfl ?_
      refine at_lt (lt_pick false rfl rfl rfl) rfl ?_
      refine at_lt (lt_assign rfl) rfl ?_
      refine at_nil ?_
      refine at_then ?_
      refine at_ret ?_
      have hq := oinj hr
      clear hr
      subst hq
      exact at_return (.bool (decide ((a0.toNat : Int) ≤ 122))) [] hS Tryz.results91 (.cons (.tmp rfl) .nil) rfl rfl ⟨rfl, rfl⟩
    · replace hr := ineg h4 hr
      refine at_off rfl rfl (decide_eq_false (by omega)) rfl ?_
      refine at_off rfl rfl (decide_eq_false (by omega)) rfl ?_
      refine at_on rfl rfl rfl ?_
      refine at_lt (lt_pick false rfl (decide_eq_false (by omega)) rfl) rfl ?_
      refine at_lt (lt_pick false rfl rfl rfl) rfl ?_
      refine at_lt (lt_assign rfl) rfl ?_
      refine at_nil ?_
      refine at_then ?_
      refine at_ret ?_
      have hq := oinj hr
      clear hr
      subst hq
      exact at_return (.bool false) [] hS Tryz.results91 (.cons (.tmp rfl) .nil) rfl rfl ⟨rfl, rfl⟩
/-! 117 bookplate/record.digit -/
def m117 (a0 : UInt8) : Option Bool :=
  if 48 ≤ a0.toNat then
    some (decide ((a0.toNat : Int) ≤ 57))
  else
    some false
def post117 (r : Bool) (v : Value) (fs : List Fact) : Prop := v = .bool r ∧ fs = []
theorem en117 : Enters Tryz.prog 117 := ⟨_, Tryz.func117, by kernel_rfl, rfl⟩
theorem f117_spec {a0 : UInt8} {r : Bool} (hr : m117 a0 = some r) : Spec Tryz.prog 117 [.int .u8 (a0.toNat : Int)] [] (post117 r) := by
  refine spec_start (N := 9) Tryz.func117 (by kernel_rfl) rfl rfl rfl ?_
  intro g hS
  unfold m117 at hr
  refine at_seq ?_
  refine at_region ?_
  refine at_lt (lt_assign rfl) rfl ?_
  refine at_nil ?_
  refine at_then ?_
  refine at_seq ?_
  refine at_region ?_
  refine at_lt (lt_move rfl) rfl ?_
  refine at_lt (lt_geq rfl rfl) rfl ?_
  refine at_lt (lt_move rfl) rfl ?_
  by_cases h5 : 48 ≤ a0.toNat
  · replace hr := ipos h5 hr
    refine at_on rfl rfl (decide_eq_true (by omega)) ?_
    refine at_lt (lt_move rfl) rfl ?_
    refine at_on rfl rfl (decide_eq_true (by omega)) ?_
    refine at_lt (lt_leq rfl rfl) rfl ?_
    refine at_lt (lt_pick true rfl (decide_eq_true (by omega)) rfl) rfl ?_
    refine at_lt (lt_assign rfl) rfl ?_
    refine at_nil ?_
    refine at_then ?_
    refine at_ret ?_
    have hq := oinj hr
    clear hr
    subst hq
    exact at_return (.bool (decide ((a0.toNat : Int) ≤ 57))) [] hS Tryz.results117 (.cons (.tmp rfl) .nil) rfl rfl ⟨rfl, rfl⟩
  · replace hr := ineg h5 hr
    refine at_off rfl rfl (decide_eq_false (by omega)) rfl ?_
    refine at_off rfl rfl (decide_eq_false (by omega)) rfl ?_
    refine at_lt (lt_pick false rfl (decide_eq_false (by omega)) rfl) rfl ?_
    refine at_lt (lt_assign rfl) rfl ?_
    refine at_nil ?_
    refine at_then ?_
    refine at_ret ?_
    have hq := oinj hr
    clear hr
    subst hq
    exact at_return (.bool false) [] hS Tryz.results117 (.cons (.tmp rfl) .nil) rfl rfl ⟨rfl, rfl⟩
/-! 92 bookplate/record.ValidTag -/
def m92 (a0 : Str) : Option Bool :=
  if a0.length = 3 then
    if a0 = ([48, 48, 48] : Str) then
      some false
    else
      (a0[0]?).bind fun c9 =>
      (m117 c9).bind fun x11 =>
      if x11 = true then
        (a0[1]?).bind fun c14 =>
        (m117 c14).bind fun x16 =>
        if x16 = true then
          (a0[2]?).bind fun c19 =>
          (m117 c19).bind fun x21 =>
          some x21
        else
          some false
      else
        some false
  else
    some false
def post92 (r : Bool) (v : Value) (fs : List Fact) : Prop := v = .bool r ∧ fs = []
theorem en92 : Enters Tryz.prog 92 := ⟨_, Tryz.func92, by kernel_rfl, rfl⟩
theorem f92_spec {a0 : Str} {r : Bool} (hr : m92 a0 = some r) : Spec Tryz.prog 92 [str a0] [(Ty.str.fact a0 [str a0])] (post92 r) := by
  refine spec_start (N := 25) Tryz.func92 (by kernel_rfl) rfl rfl rfl ?_
  intro g hS
  unfold m92 at hr
  refine at_seq ?_
  refine at_region ?_
  refine at_lt (lt_assign rfl) rfl ?_
  refine at_nil ?_
  refine at_then ?_
  refine at_seq ?_
  refine at_region ?_
  refine at_lt (lt_move rfl) rfl ?_
  refine at_inv 0 rfl (fun l6 => ?_)
  replace l6 : a0.length ≤ 9223372036854775807 := l6
  refine at_lt (lt_slen rfl und9) rfl ?_
  refine at_lt (lt_eql rfl rfl) rfl ?_
  refine at_lt (lt_move rfl) rfl ?_
  by_cases h7 : a0.length = 3
  · replace hr := ipos h7 hr
    refine at_on rfl rfl (decide_eq_true (by omega)) ?_
    refine at_lt (lt_move rfl) rfl ?_
    refine at_on rfl rfl (decide_eq_true (by omega)) ?_
    refine at_lt (lt_sneq rfl rfl) rfl ?_
    refine at_lt (lt_pick true rfl (decide_eq_true (by omega)) rfl) rfl ?_
    refine at_lt (lt_move rfl) rfl ?_
    by_cases h8 : a0 = ([48, 48, 48] : Str)
    · replace hr := ipos h8 hr
      refine at_off rfl rfl (nt (decide_eq_true h8)) rfl ?_
      refine at_off rfl rfl (nt (decide_eq_true h8)) rfl ?_
      refine at_off rfl rfl (nt (decide_eq_true h8)) rfl ?_
      refine at_lt (lt_pick false rfl (nt (decide_eq_true h8)) rfl) rfl ?_
      refine at_lt (lt_move rfl) rfl ?_
      refine at_off rfl rfl rfl rfl ?_
      refine at_off rfl rfl rfl rfl ?_
      refine at_off rfl rfl rfl rfl ?_
      refine at_lt (lt_pick false rfl rfl rfl) rfl ?_
      refine at_lt (lt_move rfl) rfl ?_
      refine at_off rfl rfl rfl rfl ?_
      refine at_off rfl rfl rfl rfl ?_
      refine at_off rfl rfl rfl rfl ?_
      refine at_lt (lt_pick false rfl rfl rfl) rfl ?_
      refine at_lt (lt_assign rfl) rfl ?_
      refine at_nil ?_
      refine at_then ?_
      refine at_ret ?_
      have hq := oinj hr
      clear hr
      subst hq
      exact at_return (.bool false) [] hS Tryz.results92 (.cons (.tmp rfl) .nil) rfl rfl ⟨rfl, rfl⟩
    · replace hr := ineg h8 hr
      refine at_on rfl rfl (nf (decide_eq_false h8)) ?_
      refine at_lt (lt_move rfl) rfl ?_
      replace hr := obind hr
      obtain ⟨c9, h10, hr⟩ := hr
      have := (List.getElem?_eq_some_iff.1 h10).1
      have := c9.toNat_lt
      refine at_on rfl rfl (nf (decide_eq_false h8)) ?_
      refine at_lt (lt_sidx rfl rfl und9 (by omega) h10) rfl ?_
      replace hr := obind hr
      obtain ⟨x11, h12, hr⟩ := hr
      refine at_on rfl rfl (nf (decide_eq_false h8)) ?_
      refine at_hv rfl ?_
      refine hv_call0 [] (f117_spec h12) rfl rfl rfl rfl ?_
      rintro _ _ ⟨rfl, rfl⟩
      refine at_lt (lt_pick true rfl (nf (decide_eq_false h8)) rfl) rfl ?_
      refine at_lt (lt_move rfl) rfl ?_
      by_cases h13 : x11 = true
      · replace hr := ipos h13 hr
        refine at_on rfl rfl h13 ?_
        refine at_lt (lt_move rfl) rfl ?_
        replace hr := obind hr
        obtain ⟨c14, h15, hr⟩ := hr
        have := (List.getElem?_eq_some_iff.1 h15).1
        have := c14.toNat_lt
        refine at_on rfl rfl h13 ?_
        refine at_lt (lt_sidx rfl rfl und9 (by omega) h15) rfl ?_
        replace hr := obind hr
        obtain ⟨x16, h17, hr⟩ := hr
        refine at_on rfl rfl h13 ?_
        refine at_hv rfl ?_
        refine hv_call0 [] (f117_spec h17) rfl rfl rfl rfl ?_
        rintro _ _ ⟨rfl, rfl⟩
        refine at_lt (lt_pick true rfl h13 rfl) rfl ?_
        refine at_lt (lt_move rfl) rfl ?_
        by_cases h18 : x16 = true
        · replace hr := ipos h18 hr
          refine at_on rfl rfl h18 ?_
          refine at_lt (lt_move rfl) rfl ?_
          replace hr := obind hr
          obtain ⟨c19, h20, hr⟩ := hr
          have := (List.getElem?_eq_some_iff.1 h20).1
          have := c19.toNat_lt
          refine at_on rfl rfl h18 ?_
          refine at_lt (lt_sidx rfl rfl und9 (by omega) h20) rfl ?_
          replace hr := obind hr
          obtain ⟨x21, h22, hr⟩ := hr
          refine at_on rfl rfl h18 ?_
          refine at_hv rfl ?_
          refine hv_call0 [] (f117_spec h22) rfl rfl rfl rfl ?_
          rintro _ _ ⟨rfl, rfl⟩
          refine at_lt (lt_pick true rfl h18 rfl) rfl ?_
          refine at_lt (lt_assign rfl) rfl ?_
          refine at_nil ?_
          refine at_then ?_
          refine at_ret ?_
          have hq := oinj hr
          clear hr
          subst hq
          exact at_return (.bool x21) [] hS Tryz.results92 (.cons (.tmp rfl) .nil) rfl rfl ⟨rfl, rfl⟩
        · replace hr := ineg h18 hr
          refine at_off rfl rfl (bf h18) rfl ?_
          refine at_off rfl rfl (bf h18) rfl ?_
          refine at_off rfl rfl (bf h18) rfl ?_
          refine at_lt (lt_pick false rfl (bf h18) rfl) rfl ?_
          refine at_lt (lt_assign rfl) rfl ?_
          refine at_nil ?_
          refine at_then ?_
          refine at_ret ?_
          have hq := oinj hr
          clear hr
          subst hq
          exact at_return (.bool false) [] hS Tryz.results92 (.cons (.tmp rfl) .nil) rfl rfl ⟨rfl, rfl⟩
      · replace hr := ineg h13 hr
        refine at_off rfl rfl (bf h13) rfl ?_
        refine at_off rfl rfl (bf h13) rfl ?_
        refine at_off rfl rfl (bf h13) rfl ?_
        refine at_lt (lt_pick false rfl (bf h13) rfl) rfl ?_
        refine at_lt (lt_move rfl) rfl ?_
        refine at_off rfl rfl rfl rfl ?_
        refine at_off rfl rfl rfl rfl ?_
        refine at_off rfl rfl rfl rfl ?_
        refine at_lt (lt_pick false rfl rfl rfl) rfl ?_
        refine at_lt (lt_assign rfl) rfl ?_
        refine at_nil ?_
        refine at_then ?_
        refine at_ret ?_
        have hq := oinj hr
        clear hr
        subst hq
        exact at_return (.bool false) [] hS Tryz.results92 (.cons (.tmp rfl) .nil) rfl rfl ⟨rfl, rfl⟩
  · replace hr := ineg h7 hr
    refine at_off rfl rfl (decide_eq_false (by omega)) rfl ?_
    refine at_off rfl rfl (decide_eq_false (by omega)) rfl ?_
    refine at_lt (lt_pick false rfl (decide_eq_false (by omega)) rfl) rfl ?_
    refine at_lt (lt_move rfl) rfl ?_
    refine at_off rfl rfl rfl rfl ?_
    refine at_off rfl rfl rfl rfl ?_
    refine at_off rfl rfl rfl rfl ?_
    refine at_lt (lt_pick false rfl rfl rfl) rfl ?_
    refine at_lt (lt_move rfl) rfl ?_
    refine at_off rfl rfl rfl rfl ?_
    refine at_off rfl rfl rfl rfl ?_
    refine at_off rfl rfl rfl rfl ?_
    refine at_lt (lt_pick false rfl rfl rfl) rfl ?_
    refine at_lt (lt_move rfl) rfl ?_
    refine at_off rfl rfl rfl rfl ?_
    refine at_off rfl rfl rfl rfl ?_
    refine at_off rfl rfl rfl rfl ?_
    refine at_lt (lt_pick false rfl rfl rfl) rfl ?_
    refine at_lt (lt_assign rfl) rfl ?_
    refine at_nil ?_
    refine at_then ?_
    refine at_ret ?_
    have hq := oinj hr
    clear hr
    subst hq
    exact at_return (.bool false) [] hS Tryz.results92 (.cons (.tmp rfl) .nil) rfl rfl ⟨rfl, rfl⟩
/-! 57 bookplate/crosswalk.good -/
def m57_l1 (a0 : D_crosswalk_Entry) : Nat → Nat → Option (Fl Bool Unit)
  | 0, _ => none
  | k + 1, x27 =>
    if x27 < a0.Codes.length then
      (a0.Codes[x27]?).bind fun x32 =>
      (m91 x32.From).bind fun x37 =>
      if x37 = true then
        (m91 x32.To).bind fun x40 =>
        if x40 = true then
          if 0 < x27 then
            (at? a0.Codes ((x27 : Int) - 1)).bind fun x44 =>
            if x32.From.toNat ≤ x44.From.toNat then
              some (Fl.ret false)
            else
              m57_l1 a0 k (x27 + 1)
          else
            m57_l1 a0 k (x27 + 1)
        else
          some (Fl.ret false)
      else
        some (Fl.ret false)
    else
      some (Fl.go ())
def m57 (a0 : D_crosswalk_Entry) : Option Bool :=
  (m57_l1 a0 (a0.Codes.length + 1) 0).bind fun r => match r with
  | .ret x => some x
  | .go _ =>
    (m92 a0.From).bind fun x49 =>
    if x49 = true then
      (m92 a0.To).bind fun x52 =>
      if x52 = true then
        some (decide ((0 : Int) < (a0.Codes.length : Int)))
      else
        some false
    else
      some false
def post57 (r : Bool) (v : Value) (fs : List Fact) : Prop := v = .bool r ∧ fs = []
theorem en57 : Enters Tryz.prog 57 := ⟨_, Tryz.func57, by kernel_rfl, rfl⟩
theorem f57_spec {a0 : D_crosswalk_Entry} {s23 : Value} {r : Bool} (hr : m57 a0 = some r) : Spec Tryz.prog 57 [.agg #[str a0.From, str a0.To, s23]] [(ty76.fact a0 [str a0.From, str a0.To, s23])] (post57 r) := by
  refine spec_start (N := 54) Tryz.func57 (by kernel_rfl) rfl rfl rfl ?_
  intro g hS
  unfold m57 at hr
  refine at_open (A := Unit) 0 rfl (fun _ => True) (fun _ => [(Ty.str.fact a0.From [str a0.From]), (Ty.str.fact a0.To [str a0.To]), ((Ty.slice ty82).fact a0.Codes [s23])]) (fun F w h => ⟨(), trivial, ex76 h⟩) (fun _ _ => ?_)
  refine at_seq ?_
  refine at_region ?_
  refine at_hv rfl ?_
  refine hv_box (cs := [str a0.From, str a0.To, s23]) rfl rfl rfl (fun b24 => ?_)
  refine at_lt (lt_assign rfl) rfl ?_
  refine at_nil ?_
  refine at_then ?_
  refine at_seq ?_
  refine at_seq ?_
  refine at_region ?_
  refine at_lt (lt_fieldAddr 2 rfl fld76_2 rfl) rfl ?_
  refine at_lt (lt_load_box 0 rfl ti74 rfl rfl rfl rfl rfl) rfl ?_
  refine at_inv 2 rfl (fun i25 => ?_)
  have l26 := slice_len i25
  refine at_lt (lt_flen 2 rfl rfl und74) rfl ?_
  refine at_lt (lt_move rfl) rfl ?_
  refine at_nil ?_
  refine at_then ?_
  refine at_int .i64 0 (by simp only [lo, hi]; omega) ?_
  replace hr := obind hr
  obtain ⟨r28, hl29, hk30⟩ := hr
  refine at_cutP (V := (Unit) × (Unit)) (fun v => r28 = Fl.go v.1) (fun v => (⟨[(1, .pointer (some (Addr.add ⟨b24, 0, none⟩ 0)))], [⟨b24, [str a0.From, str a0.To, s23], 76⟩], [], [(Ty.str.fact a0.From [str a0.From]), (Ty.str.fact a0.To [str a0.To]), ((Ty.slice ty82).fact a0.Codes [s23])]⟩ : St)) ?_ ?_
  · refine at_block ?_
    refine at_loopW (σ := Nat) (V := Unit) (r := r28) (fun n s => m57_l1 a0 n s) (fun s e => (⟨[(1, .pointer (some (Addr.add ⟨b24, 0, none⟩ 0))), (6, s23), (7, .int .i64 (a0.Codes.length : Int)), (8, .int .i64 (s : Int))], [⟨b24, [str a0.From, str a0.To, s23], 76⟩], [], [((Ty.int .i64).fact (s : Int) [.int .i64 (s : Int)]), ((Ty.slice ty82).fact a0.Codes [s23]), (Ty.str.fact a0.From [str a0.From]), (Ty.str.fact a0.To [str a0.To])]⟩ : St)) (fun _ => rfl) _ 0 () hl29 ⟨⟨rfl, ⟨rfl, ⟨rfl, ⟨rfl, trivial⟩⟩⟩⟩, ⟨[true], rfl⟩, ⟨[], rfl⟩, ⟨[0, 3, 1, 2], rfl⟩⟩ ?_
    clear hl29
    intro n x27 hr e
    skip
    skip
    change m57_l1 a0 (n + 1) x27 = some r28 at hr
    change At _ _ (⟨[(1, .pointer (some (Addr.add ⟨b24, 0, none⟩ 0))), (6, s23), (7, .int .i64 (a0.Codes.length : Int)), (8, .int .i64 (x27 : Int))], [⟨b24, [str a0.From, str a0.To, s23], 76⟩], [], [((Ty.int .i64).fact (x27 : Int) [.int .i64 (x27 : Int)]), ((Ty.slice ty82).fact a0.Codes [s23]), (Ty.str.fact a0.From [str a0.From]), (Ty.str.fact a0.To [str a0.To])]⟩ : St) _
    rw [m57_l1] at hr
    refine at_seq ?_
    refine at_region ?_
    refine at_lt (lt_lss rfl rfl) rfl ?_
    refine at_nil ?_
    refine at_then ?_
    refine at_seq ?_
    by_cases h31 : x27 < a0.Codes.length
    · replace hr := ipos h31 hr
      refine at_true rfl (decide_eq_true (by omega)) ?_
      refine at_skip ?_
      refine at_then ?_
      refine at_seq ?_
      refine at_block ?_
      refine at_seq ?_
      refine at_region ?_
      refine at_lt (lt_move rfl) rfl ?_
      replace hr := obind hr
      obtain ⟨x32, h33, hr⟩ := hr
      have := (List.getElem?_eq_some_iff.1 h33).1
      refine at_elem 1 rfl (nat_at' h33) (fun p34 ec pa35 => ?_)
      refine at_open (A := Unit) 0 rfl _ _ (fun F w h => op82 h) ?_
      rintro _ rfl
      refine at_lt (lt_idx rfl rfl pa35 und74 ti82) rfl ?_
      refine at_lt (lt_load_peek 1 rfl ti82 rfl rfl rfl rfl rfl) rfl ?_
      refine at_hv rfl ?_
      refine hv_alloc (cs := [.int .u8 0, .int .u8 0]) ti82 rfl rfl (fun b36 => ?_)
      refine at_lt (lt_assign rfl) rfl ?_
      refine at_hv rfl ?_
      refine hv_store_box 0 (cs' := [.int .u8 (x32.From.toNat : Int), .int .u8 (x32.To.toNat : Int)]) rfl rfl ti82 rfl rfl rfl rfl rfl ?_
      refine at_nil ?_
      refine at_then ?_
      refine at_seq ?_
      replace hr := obind hr
      obtain ⟨x37, h38, hr⟩ := hr
      by_cases h39 : x37 = true
      · replace hr := ipos h39 hr
        replace hr := obind hr
        obtain ⟨x40, h41, hr⟩ := hr
        by_cases h42 : x40 = true
        · replace hr := ipos h42 hr
          by_cases h43 : 0 < x27
          · replace hr := ipos h43 hr
            replace hr := obind hr
            obtain ⟨x44, h45, hr⟩ := hr
            have := at?_lt h45
            refine at_elem 3 rfl h45 (fun p46 ec pa47 => ?_)
            refine at_open (A := Unit) 0 rfl _ _ (fun F w h => op82 h) ?_
            rintro _ rfl
            refine aa_start 26 (by kernel_rfl) ?_
            refine aa_pure (bs' := [true, false, false, false, false, false, false, false, false, false, false, false, false, false, false, false, false, false, false, false, false, false, false, false, false, false]) 0 rfl (by kernel_rfl) rfl rfl (lt_fieldAddr 0 rfl fld82_0 rfl) rfl (ts_in 0 0 rfl rfl) ?_
            refine aa_load (bs' := [true, true, false, false, false, false, false, false, false, false, false, false, false, false, false, false, false, false, false, false, false, false, false, false, false, false]) 1 rfl (by kernel_rfl) rfl rfl (lt_load_box 0 rfl ti5 rfl rfl rfl rfl rfl) rfl (ts_in 0 0 rfl rfl) ?_
            refine aa_all (rs := [2]) (by kernel_rfl) rfl (ts_in 0 0 rfl rfl) (List.forall_mem_singleton.2 ?_)
            refine aa_op rfl rfl ?_
            refine hv_call0 [] (f91_spec h38) rfl rfl rfl rfl ?_
            rintro _ _ ⟨rfl, rfl⟩
            refine aa_pure (bs' := [true, true, true, true, false, false, false, false, false, false, false, false, false, false, false, false, false, false, false, false, false, false, false, false, false, false]) 3 rfl (by kernel_rfl) rfl rfl (lt_not rfl) rfl (ts_in 0 0 rfl rfl) ?_
            refine aa_pure (bs' := [true, true, true, true, true, false, false, false, false, false, false, false, false, false, false, false, false, false, false, false, false, false, false, false, false, false]) 4 rfl (by kernel_rfl) rfl rfl (lt_move rfl) rfl (ts_in 0 0 rfl rfl) ?_
            refine aa_pure (bs' := [true, true, true, true, true, true, false, false, false, false, false, false, false, false, false, false, false, false, false, false, false, false, false, false, false, false]) 5 rfl (by kernel_rfl) rfl ⟨17, rfl, .inl ⟨_, rfl, gdq (v := false) (nt h39) rfl⟩⟩ (lt_fieldAddr 1 rfl fld82_1 rfl) rfl (ts_in 0 0 rfl rfl) ?_
            refine aa_load (bs' := [true, true, true, true, true, true, true, false, false, false, false, false, false, false, false, false, false, false, false, false, false, false, false, false, false, false]) 6 rfl (by kernel_rfl) rfl ⟨17, rfl, .inl ⟨_, rfl, gdq (v := false) (nt h39) rfl⟩⟩ (lt_load_box 0 rfl ti5 rfl rfl rfl rfl rfl) rfl (ts_in 0 0 rfl rfl) ?_
            refine aa_all (rs := [7]) (by kernel_rfl) rfl (ts_in 0 0 rfl rfl) (List.forall_mem_singleton.2 ?_)
            refine aa_op rfl ⟨17, rfl, .inl ⟨_, rfl, gdq (v := false) (nt h39) rfl⟩⟩ ?_
            refine hv_call0 [] (f91_spec h41) rfl rfl rfl rfl ?_
            rintro _ _ ⟨rfl, rfl⟩
            refine aa_pure (bs' := [true, true, true, true, true, true, true, true, true, false, false, false, false, false, false, false, false, false, false, false, false, false, false, false, false, false]) 8 rfl (by kernel_rfl) rfl ⟨17, rfl, .inl ⟨_, rfl, gdq (v := false) (nt h39) rfl⟩⟩ (lt_not rfl) rfl (ts_in 0 0 rfl rfl) ?_
            refine aa_pure (bs' := [true, true, true, true, true, true, true, true, true, true, false, false, false, false, false, false, false, false, false, false, false, false, false, false, false, false]) 9 rfl (by kernel_rfl) rfl rfl (lt_pick false rfl (nt h39) rfl) rfl (ts_in 0 0 rfl rfl) ?_
            refine aa_pure (bs' := [true, true, true, true, true, true, true, true, true, true, true, false, false, false, false, false, false, false, false, false, false, false, false, false, false, false]) 10 rfl (by kernel_rfl) rfl rfl (lt_move rfl) rfl (ts_in 0 0 rfl rfl) ?_
            refine aa_pure (bs' := [true, true, true, true, true, true, true, true, true, true, true, true, false, false, false, false, false, false, false, false, false, false, false, false, false, false]) 11 rfl (by kernel_rfl) rfl ⟨23, rfl, .inl ⟨_, rfl, gdq (v := false) (nt h42) rfl⟩⟩ (lt_move rfl) rfl (ts_in 0 0 rfl rfl) ?_
            refine aa_pure (bs' := [true, true, true, true, true, true, true, true, true, true, true, true, true, false, false, false, false, false, false, false, false, false, false, false, false, false]) 12 rfl (by kernel_rfl) rfl ⟨23, rfl, .inl ⟨_, rfl, gdq (v := false) (nt h42) rfl⟩⟩ (lt_gtr rfl rfl) rfl (ts_in 0 0 rfl rfl) ?_
            refine aa_pure (bs' := [true, true, true, true, true, true, true, true, true, true, true, true, true, true, false, false, false, false, false, false, false, false, false, false, false, false]) 13 rfl (by kernel_rfl) rfl ⟨23, rfl, .inl ⟨_, rfl, gdq (v := false) (nt h42) rfl⟩⟩ (lt_move rfl) rfl (ts_in 0 0 rfl rfl) ?_
            refine aa_pure (bs' := [true, true, true, true, true, true, true, true, true, true, true, true, true, true, true, false, false, false, false, false, false, false, false, false, false, false]) 14 rfl (by kernel_rfl) rfl ⟨26, rfl, .inl ⟨_, rfl, gdq (v := true) (decide_eq_true (by omega)) rfl⟩⟩ (lt_fieldAddr 2 rfl fld76_2 rfl) rfl (ts_in 0 0 rfl rfl) ?_
            refine aa_load (bs' := [true, true, true, true, true, true, true, true, true, true, true, true, true, true, true, true, false, false, false, false, false, false, false, false, false, false]) 15 rfl (by kernel_rfl) rfl ⟨26, rfl, .inl ⟨_, rfl, gdq (v := true) (decide_eq_true (by omega)) rfl⟩⟩ (lt_load_box 1 rfl ti74 rfl rfl rfl rfl rfl) rfl (ts_in 0 0 rfl rfl) ?_
            refine aa_pure (bs' := [true, true, true, true, true, true, true, true, true, true, true, true, true, true, true, true, true, false, false, false, false, false, false, false, false, false]) 16 rfl (by kernel_rfl) rfl ⟨26, rfl, .inl ⟨_, rfl, gdq (v := true) (decide_eq_true (by omega)) rfl⟩⟩ (lt_move rfl) rfl (ts_in 0 0 rfl rfl) ?_
            refine aa_pure (bs' := [true, true, true, true, true, true, true, true, true, true, true, true, true, true, true, true, true, true, false, false, false, false, false, false, false, false]) 17 rfl (by kernel_rfl) rfl ⟨26, rfl, .inl ⟨_, rfl, gdq (v := true) (decide_eq_true (by omega)) rfl⟩⟩ (lt_sub rfl rfl (by simp only [lo, hi]; omega)) rfl (ts_in 0 0 rfl rfl) ?_
            refine aa_pure (bs' := [true, true, true, true, true, true, true, true, true, true, true, true, true, true, true, true, true, true, true, false, false, false, false, false, false, false]) 18 rfl (by kernel_rfl) rfl ⟨26, rfl, .inl ⟨_, rfl, gdq (v := true) (decide_eq_true (by omega)) rfl⟩⟩ (lt_idx rfl rfl pa47 und74 ti82) rfl (ts_in 0 0 rfl rfl) ?_
            refine aa_pure (bs' := [true, true, true, true, true, true, true, true, true, true, true, true, true, true, true, true, true, true, true, true, false, false, false, false, false, false]) 19 rfl (by kernel_rfl) rfl ⟨26, rfl, .inl ⟨_, rfl, gdq (v := true) (decide_eq_true (by omega)) rfl⟩⟩ (lt_fieldAddr 0 rfl fld82_0 rfl) rfl (ts_in 0 0 rfl rfl) ?_
            refine aa_load (bs' := [true, true, true, true, true, true, true, true, true, true, true, true, true, true, true, true, true, true, true, true, true, false, false, false, false, false]) 20 rfl (by kernel_rfl) rfl ⟨26, rfl, .inl ⟨_, rfl, gdq (v := true) (decide_eq_true (by omega)) rfl⟩⟩ (lt_load_peek 1 rfl ti5 rfl rfl rfl rfl rfl) rfl (ts_in 0 0 rfl rfl) ?_
            refine aa_pure (bs' := [true, true, true, true, true, true, true, true, true, true, true, true, true, true, true, true, true, true, true, true, true, true, false, false, false, false]) 21 rfl (by kernel_rfl) rfl ⟨26, rfl, .inl ⟨_, rfl, gdq (v := true) (decide_eq_true (by omega)) rfl⟩⟩ (lt_fieldAddr 0 rfl fld82_0 rfl) rfl (ts_in 0 0 rfl rfl) ?_
            refine aa_load (bs' := [true, true, true, true, true, true, true, true, true, true, true, true, true, true, true, true, true, true, true, true, true, true, true, false, false, false]) 22 rfl (by kernel_rfl) rfl ⟨26, rfl, .inl ⟨_, rfl, gdq (v := true) (decide_eq_true (by omega)) rfl⟩⟩ (lt_load_box 0 rfl ti5 rfl rfl rfl rfl rfl) rfl (ts_in 0 0 rfl rfl) ?_
            refine aa_pure (bs' := [true, true, true, true, true, true, true, true, true, true, true, true, true, true, true, true, true, true, true, true, true, true, true, true, false, false]) 23 rfl (by kernel_rfl) rfl ⟨26, rfl, .inl ⟨_, rfl, gdq (v := true) (decide_eq_true (by omega)) rfl⟩⟩ (lt_geq rfl rfl) rfl (ts_in 0 0 rfl rfl) ?_
            refine aa_pure (bs' := [true, true, true, true, true, true, true, true, true, true, true, true, true, true, true, true, true, true, true, true, true, true, true, true, true, false]) 24 rfl (by kernel_rfl) rfl ⟨23, rfl, .inl ⟨_, rfl, gdq (v := false) (nt h42) rfl⟩⟩ (lt_pick true rfl (decide_eq_true (by omega)) rfl) rfl (ts_in 0 0 rfl rfl) ?_
            refine aa_pure (bs' := [true, true, true, true, true, true, true, true, true, true, true, true, true, true, true, true, true, true, true, true, true, true, true, true, true, true]) 25 rfl (by kernel_rfl) rfl rfl (lt_pick false rfl (nt h42) rfl) rfl (ts_in 0 0 rfl rfl) ?_
            refine aa_done (by kernel_rfl) (ts_in 0 0 rfl rfl) ?_
            refine at_then ?_
            by_cases h48 : x32.From.toNat ≤ x44.From.toNat
            · replace hr := ipos h48 hr
              refine at_true rfl (decide_eq_true (by omega)) ?_
              refine at_seq ?_
              refine at_region ?_
              refine at_lt (lt_assign rfl) rfl ?_
              refine at_nil ?_
              refine at_then ?_
              refine at_ret ?_
              have hq := oinj hr
              clear hr
              subst hq
              have hq := oinj hk30
              clear hk30
              subst hq
              refine at_in_ret ?_
              refine at_then_ret ?_
              refine at_then_ret ?_
              refine at_in_ret ?_
              refine at_then_ret ?_
              refine at_then_ret ?_
              exact at_return (.bool false) [] hS Tryz.results57 (.cons (.tmp rfl) .nil) rfl rfl ⟨rfl, rfl⟩
            · replace hr := ineg h48 hr
              refine at_false rfl (decide_eq_false (by omega)) ?_
              refine at_skip ?_
              refine at_in ?_
              refine at_then ?_
              refine at_region ?_
              refine at_lt (lt_add rfl rfl (by simp only [lo, hi]; omega)) rfl ?_
              refine at_lt (lt_move rfl) rfl ?_
              refine at_nil ?_
              refine at_int .i64 (x27 + 1 : Int) (by simp only [lo, hi]; omega) ?_
              exact at_again (σ := Nat) (V := Unit) (lp := fun n s => m57_l1 a0 n s) (S := fun s e => (⟨[(1, .pointer (some (Addr.add ⟨b24, 0, none⟩ 0))), (6, s23), (7, .int .i64 (a0.Codes.length : Int)), (8, .int .i64 (s : Int))], [⟨b24, [str a0.From, str a0.To, s23], 76⟩], [], [((Ty.int .i64).fact (s : Int) [.int .i64 (s : Int)]), ((Ty.slice ty82).fact a0.Codes [s23]), (Ty.str.fact a0.From [str a0.From]), (Ty.str.fact a0.To [str a0.To])]⟩ : St)) (x27 + 1) () hr ⟨⟨rfl, ⟨rfl, ⟨rfl, ⟨rfl, trivial⟩⟩⟩⟩, ⟨[false, true], rfl⟩, ⟨[], rfl⟩, ⟨[0, 6, 7, 8], rfl⟩⟩
          · replace hr := ineg h43 hr
            refine aa_start 26 (by kernel_rfl) ?_
            refine aa_pure (bs' := [true, false, false, false, false, false, false, false, false, false, false, false, false, false, false, false, false, false, false, false, false, false, false, false, false, false]) 0 rfl (by kernel_rfl) rfl rfl (lt_fieldAddr 0 rfl fld82_0 rfl) rfl (ts_in 0 0 rfl rfl) ?_
            refine aa_load (bs' := [true, true, false, false, false, false, false, false, false, false, false, false, false, false, false, false, false, false, false, false, false, false, false, false, false, false]) 1 rfl (by kernel_rfl) rfl rfl (lt_load_box 0 rfl ti5 rfl rfl rfl rfl rfl) rfl (ts_in 0 0 rfl rfl) ?_
            refine aa_all (rs := [2]) (by kernel_rfl) rfl (ts_in 0 0 rfl rfl) (List.forall_mem_singleton.2 ?_)
            refine aa_op rfl rfl ?_
            refine hv_call0 [] (f91_spec h38) rfl rfl rfl rfl ?_
            rintro _ _ ⟨rfl, rfl⟩
            refine aa_pure (bs' := [true, true, true, true, false, false, false, false, false, false, false, false, false, false, false, false, false, false, false, false, false, false, false, false, false, false]) 3 rfl (by kernel_rfl) rfl rfl (lt_not rfl) rfl (ts_in 0 0 rfl rfl) ?_
            refine aa_pure (bs' := [true, true, true, true, true, false, false, false, false, false, false, false, false, false, false, false, false, false, false, false, false, false, false, false, false, false]) 4 rfl (by kernel_rfl) rfl rfl (lt_move rfl) rfl (ts_in 0 0 rfl rfl) ?_
            refine aa_pure (bs' := [true, true, true, true, true, true, false, false, false, false, false, false, false, false, false, false, false, false, false, false, false, false, false, false, false, false]) 5 rfl (by kernel_rfl) rfl ⟨17, rfl, .inl ⟨_, rfl, gdq (v := false) (nt h39) rfl⟩⟩ (lt_fieldAddr 1 rfl fld82_1 rfl) rfl (ts_in 0 0 rfl rfl) ?_
            refine aa_load (bs' := [true, true, true, true, true, true, true, false, false, false, false, false, false, false, false, false, false, false, false, false, false, false, false, false, false, false]) 6 rfl (by kernel_rfl) rfl ⟨17, rfl, .inl ⟨_, rfl, gdq (v := false) (nt h39) rfl⟩⟩ (lt_load_box 0 rfl ti5 rfl rfl rfl rfl rfl) rfl (ts_in 0 0 rfl rfl) ?_
            refine aa_all (rs := [7]) (by kernel_rfl) rfl (ts_in 0 0 rfl rfl) (List.forall_mem_singleton.2 ?_)
            refine aa_op rfl ⟨17, rfl, .inl ⟨_, rfl, gdq (v := false) (nt h39) rfl⟩⟩ ?_
            refine hv_call0 [] (f91_spec h41) rfl rfl rfl rfl ?_
            rintro _ _ ⟨rfl, rfl⟩
            refine aa_pure (bs' := [true, true, true, true, true, true, true, true, true, false, false, false, false, false, false, false, false, false, false, false, false, false, false, false, false, false]) 8 rfl (by kernel_rfl) rfl ⟨17, rfl, .inl ⟨_, rfl, gdq (v := false) (nt h39) rfl⟩⟩ (lt_not rfl) rfl (ts_in 0 0 rfl rfl) ?_
            refine aa_pure (bs' := [true, true, true, true, true, true, true, true, true, true, false, false, false, false, false, false, false, false, false, false, false, false, false, false, false, false]) 9 rfl (by kernel_rfl) rfl rfl (lt_pick false rfl (nt h39) rfl) rfl (ts_in 0 0 rfl rfl) ?_
            refine aa_pure (bs' := [true, true, true, true, true, true, true, true, true, true, true, false, false, false, false, false, false, false, false, false, false, false, false, false, false, false]) 10 rfl (by kernel_rfl) rfl rfl (lt_move rfl) rfl (ts_in 0 0 rfl rfl) ?_
            refine aa_pure (bs' := [true, true, true, true, true, true, true, true, true, true, true, true, false, false, false, false, false, false, false, false, false, false, false, false, false, false]) 11 rfl (by kernel_rfl) rfl ⟨23, rfl, .inl ⟨_, rfl, gdq (v := false) (nt h42) rfl⟩⟩ (lt_move rfl) rfl (ts_in 0 0 rfl rfl) ?_
            refine aa_pure (bs' := [true, true, true, true, true, true, true, true, true, true, true, true, true, false, false, false, false, false, false, false, false, false, false, false, false, false]) 12 rfl (by kernel_rfl) rfl ⟨23, rfl, .inl ⟨_, rfl, gdq (v := false) (nt h42) rfl⟩⟩ (lt_gtr rfl rfl) rfl (ts_in 0 0 rfl rfl) ?_
            refine aa_pure (bs' := [true, true, true, true, true, true, true, true, true, true, true, true, true, true, false, false, false, false, false, false, false, false, false, false, false, false]) 13 rfl (by kernel_rfl) rfl ⟨23, rfl, .inl ⟨_, rfl, gdq (v := false) (nt h42) rfl⟩⟩ (lt_move rfl) rfl (ts_in 0 0 rfl rfl) ?_
            refine aa_off (bs' := [true, true, true, true, true, true, true, true, true, true, true, true, true, true, true, false, false, false, false, false, false, false, false, false, false, false]) 14 rfl (by kernel_rfl) rfl ⟨26, rfl, .inl ⟨_, rfl, gdq (v := false) (decide_eq_false (by omega)) rfl⟩⟩ rfl (ts_in 0 0 rfl rfl) ?_
            refine aa_off (bs' := [true, true, true, true, true, true, true, true, true, true, true, true, true, true, true, true, false, false, false, false, false, false, false, false, false, false]) 15 rfl (by kernel_rfl) rfl ⟨26, rfl, .inl ⟨_, rfl, gdq (v := false) (decide_eq_false (by omega)) rfl⟩⟩ rfl (ts_in 0 0 rfl rfl) ?_
            refine aa_off (bs' := [true, true, true, true, true, true, true, true, true, true, true, true, true, true, true, true, true, false, false, false, false, false, false, false, false, false]) 16 rfl (by kernel_rfl) rfl ⟨26, rfl, .inl ⟨_, rfl, gdq (v := false) (decide_eq_false (by omega)) rfl⟩⟩ rfl (ts_in 0 0 rfl rfl) ?_
            refine aa_off (bs' := [true, true, true, true, true, true, true, true, true, true, true, true, true, true, true, true, true, true, false, false, false, false, false, false, false, false]) 17 rfl (by kernel_rfl) rfl ⟨26, rfl, .inl ⟨_, rfl, gdq (v := false) (decide_eq_false (by omega)) rfl⟩⟩ rfl (ts_in 0 0 rfl rfl) ?_
            refine aa_off (bs' := [true, true, true, true, true, true, true, true, true, true, true, true, true, true, true, true, true, true, true, false, false, false, false, false, false, false]) 18 rfl (by kernel_rfl) rfl ⟨26, rfl, .inl ⟨_, rfl, gdq (v := false) (decide_eq_false (by omega)) rfl⟩⟩ rfl (ts_in 0 0 rfl rfl) ?_
            refine aa_off (bs' := [true, true, true, true, true, true, true, true, true, true, true, true, true, true, true, true, true, true, true, true, false, false, false, false, false, false]) 19 rfl (by kernel_rfl) rfl ⟨26, rfl, .inl ⟨_, rfl, gdq (v := false) (decide_eq_false (by omega)) rfl⟩⟩ rfl (ts_in 0 0 rfl rfl) ?_
            refine aa_off (bs' := [true, true, true, true, true, true, true, true, true, true, true, true, true, true, true, true, true, true, true, true, true, false, false, false, false, false]) 20 rfl (by kernel_rfl) rfl ⟨26, rfl, .inl ⟨_, rfl, gdq (v := false) (decide_eq_false (by omega)) rfl⟩⟩ rfl (ts_in 0 0 rfl rfl) ?_
            refine aa_off (bs' := [true, true, true, true, true, true, true, true, true, true, true, true, true, true, true, true, true, true, true, true, true, true, false, false, false, false]) 21 rfl (by kernel_rfl) rfl ⟨26, rfl, .inl ⟨_, rfl, gdq (v := false) (decide_eq_false (by omega)) rfl⟩⟩ rfl (ts_in 0 0 rfl rfl) ?_
            refine aa_off (bs' := [true, true, true, true, true, true, true, true, true, true, true, true, true, true, true, true, true, true, true, true, true, true, true, false, false, false]) 22 rfl (by kernel_rfl) rfl ⟨26, rfl, .inl ⟨_, rfl, gdq (v := false) (decide_eq_false (by omega)) rfl⟩⟩ rfl (ts_in 0 0 rfl rfl) ?_
            refine aa_off (bs' := [true, true, true, true, true, true, true, true, true, true, true, true, true, true, true, true, true, true, true, true, true, true, true, true, false, false]) 23 rfl (by kernel_rfl) rfl ⟨26, rfl, .inl ⟨_, rfl, gdq (v := false) (decide_eq_false (by omega)) rfl⟩⟩ rfl (ts_in 0 0 rfl rfl) ?_
            refine aa_pure (bs' := [true, true, true, true, true, true, true, true, true, true, true, true, true, true, true, true, true, true, true, true, true, true, true, true, true, false]) 24 rfl (by kernel_rfl) rfl ⟨23, rfl, .inl ⟨_, rfl, gdq (v := false) (nt h42) rfl⟩⟩ (lt_pick false rfl (decide_eq_false (by omega)) rfl) rfl (ts_in 0 0 rfl rfl) ?_
            refine aa_pure (bs' := [true, true, true, true, true, true, true, true, true, true, true, true, true, true, true, true, true, true, true, true, true, true, true, true, true, true]) 25 rfl (by kernel_rfl) rfl rfl (lt_pick false rfl (nt h42) rfl) rfl (ts_in 0 0 rfl rfl) ?_
            refine aa_done (by kernel_rfl) (ts_in 0 0 rfl rfl) ?_
            refine at_then ?_
            refine at_false rfl rfl ?_
            refine at_skip ?_
            refine at_in ?_
            refine at_then ?_
            refine at_region ?_
            refine at_lt (lt_add rfl rfl (by simp only [lo, hi]; omega)) rfl ?_
            refine at_lt (lt_move rfl) rfl ?_
            refine at_nil ?_
            refine at_int .i64 (x27 + 1 : Int) (by simp only [lo, hi]; omega) ?_
            exact at_again (σ := Nat) (V := Unit) (lp := fun n s => m57_l1 a0 n s) (S := fun s e => (⟨[(1, .pointer (some (Addr.add ⟨b24, 0, none⟩ 0))), (6, s23), (7, .int .i64 (a0.Codes.length : Int)), (8, .int .i64 (s : Int))], [⟨b24, [str a0.From, str a0.To, s23], 76⟩], [], [((Ty.int .i64).fact (s : Int) [.int .i64 (s : Int)]), ((Ty.slice ty82).fact a0.Codes [s23]), (Ty.str.fact a0.From [str a0.From]), (Ty.str.fact a0.To [str a0.To])]⟩ : St)) (x27 + 1) () hr ⟨⟨rfl, ⟨rfl, ⟨rfl, ⟨rfl, trivial⟩⟩⟩⟩, ⟨[false, true], rfl⟩, ⟨[], rfl⟩, ⟨[0, 4, 5, 6], rfl⟩⟩
        · replace hr := ineg h42 hr
          refine aa_start 26 (by kernel_rfl) ?_
          refine aa_pure (bs' := [true, false, false, false, false, false, false, false, false, false, false, false, false, false, false, false, false, false, false, false, false, false, false, false, false, false]) 0 rfl (by kernel_rfl) rfl rfl (lt_fieldAddr 0 rfl fld82_0 rfl) rfl (ts_in 0 0 rfl rfl) ?_
          refine aa_load (bs' := [true, true, false, false, false, false, false, false, false, false, false, false, false, false, false, false, false, false, false, false, false, false, false, false, false, false]) 1 rfl (by kernel_rfl) rfl rfl (lt_load_box 0 rfl ti5 rfl rfl rfl rfl rfl) rfl (ts_in 0 0 rfl rfl) ?_
          refine aa_all (rs := [2]) (by kernel_rfl) rfl (ts_in 0 0 rfl rfl) (List.forall_mem_singleton.2 ?_)
          refine aa_op rfl rfl ?_
          refine hv_call0 [] (f91_spec h38) rfl rfl rfl rfl ?_
          rintro _ _ ⟨rfl, rfl⟩
          refine aa_pure (bs' := [true, true, true, true, false, false, false, false, false, false, false, false, false, false, false, false, false, false, false, false, false, false, false, false, false, false]) 3 rfl (by kernel_rfl) rfl rfl (lt_not rfl) rfl (ts_in 0 0 rfl rfl) ?_
          refine aa_pure (bs' := [true, true, true, true, true, false, false, false, false, false, false, false, false, false, false, false, false, false, false, false, false, false, false, false, false, false]) 4 rfl (by kernel_rfl) rfl rfl (lt_move rfl) rfl (ts_in 0 0 rfl rfl) ?_
          refine aa_pure (bs' := [true, true, true, true, true, true, false, false, false, false, false, false, false, false, false, false, false, false, false, false, false, false, false, false, false, false]) 5 rfl (by kernel_rfl) rfl ⟨17, rfl, .inl ⟨_, rfl, gdq (v := false) (nt h39) rfl⟩⟩ (lt_fieldAddr 1 rfl fld82_1 rfl) rfl (ts_in 0 0 rfl rfl) ?_
          refine aa_load (bs' := [true, true, true, true, true, true, true, false, false, false, false, false, false, false, false, false, false, false, false, false, false, false, false, false, false, false]) 6 rfl (by kernel_rfl) rfl ⟨17, rfl, .inl ⟨_, rfl, gdq (v := false) (nt h39) rfl⟩⟩ (lt_load_box 0 rfl ti5 rfl rfl rfl rfl rfl) rfl (ts_in 0 0 rfl rfl) ?_
          refine aa_all (rs := [7]) (by kernel_rfl) rfl (ts_in 0 0 rfl rfl) (List.forall_mem_singleton.2 ?_)
          refine aa_op rfl ⟨17, rfl, .inl ⟨_, rfl, gdq (v := false) (nt h39) rfl⟩⟩ ?_
          refine hv_call0 [] (f91_spec h41) rfl rfl rfl rfl ?_
          rintro _ _ ⟨rfl, rfl⟩
          refine aa_pure (bs' := [true, true, true, true, true, true, true, true, true, false, false, false, false, false, false, false, false, false, false, false, false, false, false, false, false, false]) 8 rfl (by kernel_rfl) rfl ⟨17, rfl, .inl ⟨_, rfl, gdq (v := false) (nt h39) rfl⟩⟩ (lt_not rfl) rfl (ts_in 0 0 rfl rfl) ?_
          refine aa_pure (bs' := [true, true, true, true, true, true, true, true, true, true, false, false, false, false, false, false, false, false, false, false, false, false, false, false, false, false]) 9 rfl (by kernel_rfl) rfl rfl (lt_pick false rfl (nt h39) rfl) rfl (ts_in 0 0 rfl rfl) ?_
          refine aa_pure (bs' := [true, true, true, true, true, true, true, true, true, true, true, false, false, false, false, false, false, false, false, false, false, false, false, false, false, false]) 10 rfl (by kernel_rfl) rfl rfl (lt_move rfl) rfl (ts_in 0 0 rfl rfl) ?_
          refine aa_off (bs' := [true, true, true, true, true, true, true, true, true, true, true, true, false, false, false, false, false, false, false, false, false, false, false, false, false, false]) 11 rfl (by kernel_rfl) rfl ⟨23, rfl, .inl ⟨_, rfl, gdq (v := true) (nf (bf h42)) rfl⟩⟩ rfl (ts_in 0 0 rfl rfl) ?_
          refine aa_off (bs' := [true, true, true, true, true, true, true, true, true, true, true, true, true, false, false, false, false, false, false, false, false, false, false, false, false, false]) 12 rfl (by kernel_rfl) rfl ⟨23, rfl, .inl ⟨_, rfl, gdq (v := true) (nf (bf h42)) rfl⟩⟩ rfl (ts_in 0 0 rfl rfl) ?_
          refine aa_off (bs' := [true, true, true, true, true, true, true, true, true, true, true, true, true, true, false, false, false, false, false, false, false, false, false, false, false, false]) 13 rfl (by kernel_rfl) rfl ⟨23, rfl, .inl ⟨_, rfl, gdq (v := true) (nf (bf h42)) rfl⟩⟩ rfl (ts_in 0 0 rfl rfl) ?_
          refine aa_off (bs' := [true, true, true, true, true, true, true, true, true, true, true, true, true, true, true, false, false, false, false, false, false, false, false, false, false, false]) 14 rfl (by kernel_rfl) rfl ⟨26, rfl, .inr ⟨rfl, rfl⟩⟩ rfl (ts_in 0 0 rfl rfl) ?_
          refine aa_off (bs' := [true, true, true, true, true, true, true, true, true, true, true, true, true, true, true, true, false, false, false, false, false, false, false, false, false, false]) 15 rfl (by kernel_rfl) rfl ⟨26, rfl, .inr ⟨rfl, rfl⟩⟩ rfl (ts_in 0 0 rfl rfl) ?_
          refine aa_off (bs' := [true, true, true, true, true, true, true, true, true, true, true, true, true, true, true, true, true, false, false, false, false, false, false, false, false, false]) 16 rfl (by kernel_rfl) rfl ⟨26, rfl, .inr ⟨rfl, rfl⟩⟩ rfl (ts_in 0 0 rfl rfl) ?_
          refine aa_off (bs' := [true, true, true, true, true, true, true, true, true, true, true, true, true, true, true, true, true, true, false, false, false, false, false, false, false, false]) 17 rfl (by kernel_rfl) rfl ⟨26, rfl, .inr ⟨rfl, rfl⟩⟩ rfl (ts_in 0 0 rfl rfl) ?_
          refine aa_off (bs' := [true, true, true, true, true, true, true, true, true, true, true, true, true, true, true, true, true, true, true, false, false, false, false, false, false, false]) 18 rfl (by kernel_rfl) rfl ⟨26, rfl, .inr ⟨rfl, rfl⟩⟩ rfl (ts_in 0 0 rfl rfl) ?_
          refine aa_off (bs' := [true, true, true, true, true, true, true, true, true, true, true, true, true, true, true, true, true, true, true, true, false, false, false, false, false, false]) 19 rfl (by kernel_rfl) rfl ⟨26, rfl, .inr ⟨rfl, rfl⟩⟩ rfl (ts_in 0 0 rfl rfl) ?_
          refine aa_off (bs' := [true, true, true, true, true, true, true, true, true, true, true, true, true, true, true, true, true, true, true, true, true, false, false, false, false, false]) 20 rfl (by kernel_rfl) rfl ⟨26, rfl, .inr ⟨rfl, rfl⟩⟩ rfl (ts_in 0 0 rfl rfl) ?_
          refine aa_off (bs' := [true, true, true, true, true, true, true, true, true, true, true, true, true, true, true, true, true, true, true, true, true, true, false, false, false, false]) 21 rfl (by kernel_rfl) rfl ⟨26, rfl, .inr ⟨rfl, rfl⟩⟩ rfl (ts_in 0 0 rfl rfl) ?_
          refine aa_off (bs' := [true, true, true, true, true, true, true, true, true, true, true, true, true, true, true, true, true, true, true, true, true, true, true, false, false, false]) 22 rfl (by kernel_rfl) rfl ⟨26, rfl, .inr ⟨rfl, rfl⟩⟩ rfl (ts_in 0 0 rfl rfl) ?_
          refine aa_off (bs' := [true, true, true, true, true, true, true, true, true, true, true, true, true, true, true, true, true, true, true, true, true, true, true, true, false, false]) 23 rfl (by kernel_rfl) rfl ⟨26, rfl, .inr ⟨rfl, rfl⟩⟩ rfl (ts_in 0 0 rfl rfl) ?_
          refine aa_off (bs' := [true, true, true, true, true, true, true, true, true, true, true, true, true, true, true, true, true, true, true, true, true, true, true, true, true, false]) 24 rfl (by kernel_rfl) rfl ⟨23, rfl, .inl ⟨_, rfl, gdq (v := true) (nf (bf h42)) rfl⟩⟩ rfl (ts_in 0 0 rfl rfl) ?_
          refine aa_pure (bs' := [true, true, true, true, true, true, true, true, true, true, true, true, true, true, true, true, true, true, true, true, true, true, true, true, true, true]) 25 rfl (by kernel_rfl) rfl rfl (lt_pick true rfl (nf (bf h42)) rfl) rfl (ts_in 0 0 rfl rfl) ?_
          refine aa_done (by kernel_rfl) (ts_in 0 0 rfl rfl) ?_
          refine at_then ?_
          refine at_true rfl rfl ?_
          refine at_seq ?_
          refine at_region ?_
          refine at_lt (lt_assign rfl) rfl ?_
          refine at_nil ?_
          refine at_then ?_
          refine at_ret ?_
          have hq := oinj hr
          clear hr
          subst hq
          have hq := oinj hk30
          clear hk30
          subst hq
          refine at_in_ret ?_
          refine at_then_ret ?_
          refine at_then_ret ?_
          refine at_in_ret ?_
          refine at_then_ret ?_
          refine at_then_ret ?_
          exact at_return (.bool false) [] hS Tryz.results57 (.cons (.tmp rfl) .nil) rfl rfl ⟨rfl, rfl⟩
      · replace hr := ineg h39 hr
        refine aa_start 26 (by kernel_rfl) ?_
        refine aa_pure (bs' := [true, false, false, false, false, false, false, false, false, false, false, false, false, false, false, false, false, false, false, false, false, false, false, false, false, false]) 0 rfl (by kernel_rfl) rfl rfl (lt_fieldAddr 0 rfl fld82_0 rfl) rfl (ts_in 0 0 rfl rfl) ?_
        refine aa_load (bs' := [true, true, false, false, false, false, false, false, false, false, false, false, false, false, false, false, false, false, false, false, false, false, false, false, false, false]) 1 rfl (by kernel_rfl) rfl rfl (lt_load_box 0 rfl ti5 rfl rfl rfl rfl rfl) rfl (ts_in 0 0 rfl rfl) ?_
        refine aa_all (rs := [2]) (by kernel_rfl) rfl (ts_in 0 0 rfl rfl) (List.forall_mem_singleton.2 ?_)
        refine aa_op rfl rfl ?_
        refine hv_call0 [] (f91_spec h38) rfl rfl rfl rfl ?_
        rintro _ _ ⟨rfl, rfl⟩
        refine aa_pure (bs' := [true, true, true, true, false, false, false, false, false, false, false, false, false, false, false, false, false, false, false, false, false, false, false, false, false, false]) 3 rfl (by kernel_rfl) rfl rfl (lt_not rfl) rfl (ts_in 0 0 rfl rfl) ?_
        refine aa_pure (bs' := [true, true, true, true, true, false, false, false, false, false, false, false, false, false, false, false, false, false, false, false, false, false, false, false, false, false]) 4 rfl (by kernel_rfl) rfl rfl (lt_move rfl) rfl (ts_in 0 0 rfl rfl) ?_
        refine aa_off (bs' := [true, true, true, true, true, true, false, false, false, false, false, false, false, false, false, false, false, false, false, false, false, false, false, false, false, false]) 5 rfl (by kernel_rfl) rfl ⟨17, rfl, .inl ⟨_, rfl, gdq (v := true) (nf (bf h39)) rfl⟩⟩ rfl (ts_in 0 0 rfl rfl) ?_
        refine aa_off (bs' := [true, true, true, true, true, true, true, false, false, false, false, false, false, false, false, false, false, false, false, false, false, false, false, false, false, false]) 6 rfl (by kernel_rfl) rfl ⟨17, rfl, .inl ⟨_, rfl, gdq (v := true) (nf (bf h39)) rfl⟩⟩ rfl (ts_in 0 0 rfl rfl) ?_
        refine aa_off (bs' := [true, true, true, true, true, true, true, true, false, false, false, false, false, false, false, false, false, false, false, false, false, false, false, false, false, false]) 7 rfl (by kernel_rfl) rfl ⟨17, rfl, .inl ⟨_, rfl, gdq (v := true) (nf (bf h39)) rfl⟩⟩ rfl (ts_in 0 0 rfl rfl) ?_
        refine aa_off (bs' := [true, true, true, true, true, true, true, true, true, false, false, false, false, false, false, false, false, false, false, false, false, false, false, false, false, false]) 8 rfl (by kernel_rfl) rfl ⟨17, rfl, .inl ⟨_, rfl, gdq (v := true) (nf (bf h39)) rfl⟩⟩ rfl (ts_in 0 0 rfl rfl) ?_
        refine aa_pure (bs' := [true, true, true, true, true, true, true, true, true, true, false, false, false, false, false, false, false, false, false, false, false, false, false, false, false, false]) 9 rfl (by kernel_rfl) rfl rfl (lt_pick true rfl (nf (bf h39)) rfl) rfl (ts_in 0 0 rfl rfl) ?_
        refine aa_pure (bs' := [true, true, true, true, true, true, true, true, true, true, true, false, false, false, false, false, false, false, false, false, false, false, false, false, false, false]) 10 rfl (by kernel_rfl) rfl rfl (lt_move rfl) rfl (ts_in 0 0 rfl rfl) ?_
        refine aa_off (bs' := [true, true, true, true, true, true, true, true, true, true, true, true, false, false, false, false, false, false, false, false, false, false, false, false, false, false]) 11 rfl (by kernel_rfl) rfl ⟨23, rfl, .inl ⟨_, rfl, gdq (v := true) rfl rfl⟩⟩ rfl (ts_in 0 0 rfl rfl) ?_
        refine aa_off (bs' := [true, true, true, true, true, true, true, true, true, true, true, true, true, false, false, false, false, false, false, false, false, false, false, false, false, false]) 12 rfl (by kernel_rfl) rfl ⟨23, rfl, .inl ⟨_, rfl, gdq (v := true) rfl rfl⟩⟩ rfl (ts_in 0 0 rfl rfl) ?_
        refine aa_off (bs' := [true, true, true, true, true, true, true, true, true, true, true, true, true, true, false, false, false, false, false, false, false, false, false, false, false, false]) 13 rfl (by kernel_rfl) rfl ⟨23, rfl, .inl ⟨_, rfl, gdq (v := true) rfl rfl⟩⟩ rfl (ts_in 0 0 rfl rfl) ?_
        refine aa_off (bs' := [true, true, true, true, true, true, true, true, true, true, true, true, true, true, true, false, false, false, false, false, false, false, false, false, false, false]) 14 rfl (by kernel_rfl) rfl ⟨26, rfl, .inr ⟨rfl, rfl⟩⟩ rfl (ts_in 0 0 rfl rfl) ?_
        refine aa_off (bs' := [true, true, true, true, true, true, true, true, true, true, true, true, true, true, true, true, false, false, false, false, false, false, false, false, false, false]) 15 rfl (by kernel_rfl) rfl ⟨26, rfl, .inr ⟨rfl, rfl⟩⟩ rfl (ts_in 0 0 rfl rfl) ?_
        refine aa_off (bs' := [true, true, true, true, true, true, true, true, true, true, true, true, true, true, true, true, true, false, false, false, false, false, false, false, false, false]) 16 rfl (by kernel_rfl) rfl ⟨26, rfl, .inr ⟨rfl, rfl⟩⟩ rfl (ts_in 0 0 rfl rfl) ?_
        refine aa_off (bs' := [true, true, true, true, true, true, true, true, true, true, true, true, true, true, true, true, true, true, false, false, false, false, false, false, false, false]) 17 rfl (by kernel_rfl) rfl ⟨26, rfl, .inr ⟨rfl, rfl⟩⟩ rfl (ts_in 0 0 rfl rfl) ?_
        refine aa_off (bs' := [true, true, true, true, true, true, true, true, true, true, true, true, true, true, true, true, true, true, true, false, false, false, false, false, false, false]) 18 rfl (by kernel_rfl) rfl ⟨26, rfl, .inr ⟨rfl, rfl⟩⟩ rfl (ts_in 0 0 rfl rfl) ?_
        refine aa_off (bs' := [true, true, true, true, true, true, true, true, true, true, true, true, true, true, true, true, true, true, true, true, false, false, false, false, false, false]) 19 rfl (by kernel_rfl) rfl ⟨26, rfl, .inr ⟨rfl, rfl⟩⟩ rfl (ts_in 0 0 rfl rfl) ?_
        refine aa_off (bs' := [true, true, true, true, true, true, true, true, true, true, true, true, true, true, true, true, true, true, true, true, true, false, false, false, false, false]) 20 rfl (by kernel_rfl) rfl ⟨26, rfl, .inr ⟨rfl, rfl⟩⟩ rfl (ts_in 0 0 rfl rfl) ?_
        refine aa_off (bs' := [true, true, true, true, true, true, true, true, true, true, true, true, true, true, true, true, true, true, true, true, true, true, false, false, false, false]) 21 rfl (by kernel_rfl) rfl ⟨26, rfl, .inr ⟨rfl, rfl⟩⟩ rfl (ts_in 0 0 rfl rfl) ?_
        refine aa_off (bs' := [true, true, true, true, true, true, true, true, true, true, true, true, true, true, true, true, true, true, true, true, true, true, true, false, false, false]) 22 rfl (by kernel_rfl) rfl ⟨26, rfl, .inr ⟨rfl, rfl⟩⟩ rfl (ts_in 0 0 rfl rfl) ?_
        refine aa_off (bs' := [true, true, true, true, true, true, true, true, true, true, true, true, true, true, true, true, true, true, true, true, true, true, true, true, false, false]) 23 rfl (by kernel_rfl) rfl ⟨26, rfl, .inr ⟨rfl, rfl⟩⟩ rfl (ts_in 0 0 rfl rfl) ?_
        refine aa_off (bs' := [true, true, true, true, true, true, true, true, true, true, true, true, true, true, true, true, true, true, true, true, true, true, true, true, true, false]) 24 rfl (by kernel_rfl) rfl ⟨23, rfl, .inl ⟨_, rfl, gdq (v := true) rfl rfl⟩⟩ rfl (ts_in 0 0 rfl rfl) ?_
        refine aa_pure (bs' := [true, true, true, true, true, true, true, true, true, true, true, true, true, true, true, true, true, true, true, true, true, true, true, true, true, true]) 25 rfl (by kernel_rfl) rfl rfl (lt_pick true rfl rfl rfl) rfl (ts_in 0 0 rfl rfl) ?_
        refine aa_done (by kernel_rfl) (ts_in 0 0 rfl rfl) ?_
        refine at_then ?_
        refine at_true rfl rfl ?_
        refine at_seq ?_
        refine at_region ?_
        refine at_lt (lt_assign rfl) rfl ?_
        refine at_nil ?_
        refine at_then ?_
        refine at_ret ?_
        have hq := oinj hr
        clear hr
        subst hq
        have hq := oinj hk30
        clear hk30
        subst hq
        refine at_in_ret ?_
        refine at_then_ret ?_
        refine at_then_ret ?_
        refine at_in_ret ?_
        refine at_then_ret ?_
        refine at_then_ret ?_
        exact at_return (.bool false) [] hS Tryz.results57 (.cons (.tmp rfl) .nil) rfl rfl ⟨rfl, rfl⟩
    · replace hr := ineg h31 hr
      refine at_false rfl (decide_eq_false (by omega)) ?_
      refine at_exit ?_
      refine at_then_exit ?_
      refine at_then_exit ?_
      refine at_in_exit ?_
      have hq := oinj hr
      clear hr
      subst hq
      exact at_leafP ((), ()) rfl ⟨⟨rfl, trivial⟩, ⟨[true], rfl⟩, ⟨[], rfl⟩, ⟨[2, 3, 1], rfl⟩⟩
  · rintro ⟨_, _⟩ hp
    replace hr := hk30
    subst hp
    clear hl29
    change At _ _ (⟨[(1, .pointer (some (Addr.add ⟨b24, 0, none⟩ 0)))], [⟨b24, [str a0.From, str a0.To, s23], 76⟩], [], [(Ty.str.fact a0.From [str a0.From]), (Ty.str.fact a0.To [str a0.To]), ((Ty.slice ty82).fact a0.Codes [s23])]⟩ : St) _
    refine at_then ?_
    refine at_seq ?_
    refine at_region ?_
    refine at_lt (lt_fieldAddr 0 rfl fld76_0 rfl) rfl ?_
    refine at_lt (lt_load_box 0 rfl ti9 rfl rfl rfl rfl rfl) rfl ?_
    replace hr := obind hr
    obtain ⟨x49, h50, hr⟩ := hr
    refine at_hv rfl ?_
    refine hv_call0 [0] (f92_spec h50) rfl rfl rfl rfl ?_
    rintro _ _ ⟨rfl, rfl⟩
    refine at_lt (lt_move rfl) rfl ?_
    by_cases h51 : x49 = true
    · replace hr := ipos h51 hr
      refine at_on rfl rfl h51 ?_
      refine at_lt (lt_fieldAddr 1 rfl fld76_1 rfl) rfl ?_
      refine at_on rfl rfl h51 ?_
      refine at_lt (lt_load_box 0 rfl ti9 rfl rfl rfl rfl rfl) rfl ?_
      replace hr := obind hr
      obtain ⟨x52, h53, hr⟩ := hr
      refine at_on rfl rfl h51 ?_
      refine at_hv rfl ?_
      refine hv_call0 [1] (f92_spec h53) rfl rfl rfl rfl ?_
      rintro _ _ ⟨rfl, rfl⟩
      refine at_lt (lt_pick true rfl h51 rfl) rfl ?_
      refine at_lt (lt_move rfl) rfl ?_
      by_cases h54 : x52 = true
      · replace hr := ipos h54 hr
        refine at_on rfl rfl h54 ?_
        refine at_lt (lt_fieldAddr 2 rfl fld76_2 rfl) rfl ?_
        refine at_on rfl rfl h54 ?_
        refine at_lt (lt_load_box 0 rfl ti74 rfl rfl rfl rfl rfl) rfl ?_
        refine at_on rfl rfl h54 ?_
        refine at_lt (lt_flen 2 rfl rfl und74) rfl ?_
        refine at_on rfl rfl h54 ?_
        refine at_lt (lt_gtr rfl rfl) rfl ?_
        refine at_lt (lt_pick true rfl h54 rfl) rfl ?_
        refine at_lt (lt_assign rfl) rfl ?_
        refine at_nil ?_
        refine at_then ?_
        refine at_ret ?_
        have hq := oinj hr
        clear hr
        subst hq
        exact at_return (.bool (decide ((0 : Int) < (a0.Codes.length : Int)))) [] hS Tryz.results57 (.cons (.tmp rfl) .nil) rfl rfl ⟨rfl, rfl⟩
      · replace hr := ineg h54 hr
        refine at_off rfl rfl (bf h54) rfl ?_
        refine at_off rfl rfl (bf h54) rfl ?_
        refine at_off rfl rfl (bf h54) rfl ?_
        refine at_off rfl rfl (bf h54) rfl ?_
        refine at_lt (lt_pick false rfl (bf h54) rfl) rfl ?_
        refine at_lt (lt_assign rfl) rfl ?_
        refine at_nil ?_
        refine at_then ?_
        refine at_ret ?_
        have hq := oinj hr
        clear hr
        subst hq
        exact at_return (.bool false) [] hS Tryz.results57 (.cons (.tmp rfl) .nil) rfl rfl ⟨rfl, rfl⟩
    · replace hr := ineg h51 hr
      refine at_off rfl rfl (bf h51) rfl ?_
      refine at_off rfl rfl (bf h51) rfl ?_
      refine at_off rfl rfl (bf h51) rfl ?_
      refine at_lt (lt_pick false rfl (bf h51) rfl) rfl ?_
      refine at_lt (lt_move rfl) rfl ?_
      refine at_off rfl rfl rfl rfl ?_
      refine at_off rfl rfl rfl rfl ?_
      refine at_off rfl rfl rfl rfl ?_
      refine at_off rfl rfl rfl rfl ?_
      refine at_lt (lt_pick false rfl rfl rfl) rfl ?_
      refine at_lt (lt_assign rfl) rfl ?_
      refine at_nil ?_
      refine at_then ?_
      refine at_ret ?_
      have hq := oinj hr
      clear hr
      subst hq
      exact at_return (.bool false) [] hS Tryz.results57 (.cons (.tmp rfl) .nil) rfl rfl ⟨rfl, rfl⟩
/-! 27 bookplate/crosswalk.Valid -/
def m27_l1 (a0 : (List D_crosswalk_Entry)) : Nat → Nat → Option (Fl Bool Unit)
  | 0, _ => none
  | k + 1, x58 =>
    if x58 < a0.length then
      (a0[x58]?).bind fun x63 =>
      (m57 (⟨x63.From, x63.To, x63.Codes⟩ : D_crosswalk_Entry)).bind fun x70 =>
      if x70 = true then
        if 0 < x58 then
          (at? a0 ((x58 : Int) - 1)).bind fun x74 =>
          if (Op.bytesLess x74.From x63.From) = true then
            m27_l1 a0 k (x58 + 1)
          else
            some (Fl.ret false)
        else
          m27_l1 a0 k (x58 + 1)
      else
        some (Fl.ret false)
    else
      some (Fl.go ())
def m27 (a0 : (List D_crosswalk_Entry)) : Option Bool :=
  (m27_l1 a0 (a0.length + 1) 0).bind fun r => match r with
  | .ret x => some x
  | .go _ =>
    some (decide ((a0.length : Int) ≤ 60))
def post27 (r : Bool) (v : Value) (fs : List Fact) : Prop := v = .bool r ∧ fs = []
theorem en27 : Enters Tryz.prog 27 := ⟨_, Tryz.func27, by kernel_rfl, rfl⟩
theorem f27_spec {a0 : (List D_crosswalk_Entry)} {w55 : Value} {r : Bool} (hr : m27 a0 = some r) : Spec Tryz.prog 27 [w55] [((Ty.slice ty76).fact a0 [w55])] (post27 r) := by
  refine spec_start (N := 34) Tryz.func27 (by kernel_rfl) rfl rfl rfl ?_
  intro g hS
  unfold m27 at hr
  refine at_seq ?_
  refine at_region ?_
  refine at_lt (lt_assign rfl) rfl ?_
  refine at_nil ?_
  refine at_then ?_
  refine at_seq ?_
  refine at_seq ?_
  refine at_region ?_
  refine at_lt (lt_move rfl) rfl ?_
  refine at_inv 0 rfl (fun i56 => ?_)
  have l57 := slice_len i56
  refine at_lt (lt_flen 0 rfl rfl und34) rfl ?_
  refine at_lt (lt_move rfl) rfl ?_
  refine at_nil ?_
  refine at_then ?_
  refine at_int .i64 0 (by simp only [lo, hi]; omega) ?_
  replace hr := obind hr
  obtain ⟨r59, hl60, hk61⟩ := hr
  refine at_cutP (V := (Unit) × (Unit)) (fun v => r59 = Fl.go v.1) (fun v => (⟨[(0, w55)], [], [], [((Ty.slice ty76).fact a0 [w55])]⟩ : St)) ?_ ?_
  · refine at_block ?_
    refine at_loopW (σ := Nat) (V := Unit) (r := r59) (fun n s => m27_l1 a0 n s) (fun s e => (⟨[(0, w55), (5, w55), (6, .int .i64 (a0.length : Int)), (7, .int .i64 (s : Int))], [], [], [((Ty.int .i64).fact (s : Int) [.int .i64 (s : Int)]), ((Ty.slice ty76).fact a0 [w55])]⟩ : St)) (fun _ => rfl) _ 0 () hl60 ⟨⟨rfl, ⟨rfl, ⟨rfl, ⟨rfl, trivial⟩⟩⟩⟩, ⟨[], rfl⟩, ⟨[], rfl⟩, ⟨[0, 1], rfl⟩⟩ ?_
    clear hl60
    intro n x58 hr e
    skip
    skip
    change m27_l1 a0 (n + 1) x58 = some r59 at hr
    change At _ _ (⟨[(0, w55), (5, w55), (6, .int .i64 (a0.length : Int)), (7, .int .i64 (x58 : Int))], [], [], [((Ty.int .i64).fact (x58 : Int) [.int .i64 (x58 : Int)]), ((Ty.slice ty76).fact a0 [w55])]⟩ : St) _
    rw [m27_l1] at hr
    refine at_seq ?_
    refine at_region ?_
    refine at_lt (lt_lss rfl rfl) rfl ?_
    refine at_nil ?_
    refine at_then ?_
    refine at_seq ?_
    by_cases h62 : x58 < a0.length
    · replace hr := ipos h62 hr
      refine at_true rfl (decide_eq_true (by omega)) ?_
      refine at_skip ?_
      refine at_then ?_
      refine at_seq ?_
      refine at_block ?_
      refine at_seq ?_
      refine at_region ?_
      refine at_lt (lt_move rfl) rfl ?_
      replace hr := obind hr
      obtain ⟨x63, h64, hr⟩ := hr
      have := (List.getElem?_eq_some_iff.1 h64).1
      refine at_elem 1 rfl (nat_at' h64) (fun p66 ec pa67 => ?_)
      refine at_open (A := Value) 0 rfl _ _ (fun F w h => op76 h) ?_
      rintro s65 rfl
      refine at_lt (lt_idx rfl rfl pa67 und34 ti76) rfl ?_
      refine at_lt (lt_load_peek 4 rfl ti76 rfl rfl rfl rfl rfl) rfl ?_
      refine at_hv rfl ?_
      refine hv_alloc (cs := [str ([] : Str), str ([] : Str), (.slice none 0 0)]) ti76 rfl rfl (fun b68 => ?_)
      refine at_lt (lt_assign rfl) rfl ?_
      refine at_one 2 rfl (fun ho69 => ?_)
      refine at_hv rfl ?_
      refine hv_store_box 0 (cs' := [str x63.From, str x63.To, s65]) rfl rfl ti76 rfl rfl rfl rfl (allc rfl (allc rfl (allc ho69 rfl))) ?_
      refine at_nil ?_
      refine at_then ?_
      refine at_seq ?_
      replace hr := obind hr
      obtain ⟨x70, h71, hr⟩ := hr
      by_cases h72 : x70 = true
      · replace hr := ipos h72 hr
        by_cases h73 : 0 < x58
        · replace hr := ipos h73 hr
          replace hr := obind hr
          obtain ⟨x74, h75, hr⟩ := hr
          have := at?_lt h75
          refine at_elem 6 rfl h75 (fun p77 ec pa78 => ?_)
          refine at_open (A := Value) 0 rfl _ _ (fun F w h => op76 h) ?_
          rintro s76 rfl
          refine aa_start 18 (by kernel_rfl) ?_
          refine aa_load (bs' := [true, false, false, false, false, false, false, false, false, false, false, false, false, false, false, false, false, false]) 0 rfl (by kernel_rfl) rfl rfl (lt_load_box 0 rfl ti76 rfl rfl rfl rfl rfl) rfl (ts_in 0 0 rfl rfl) ?_
          refine aa_all (rs := [1]) (by kernel_rfl) rfl (ts_in 0 0 rfl rfl) (List.forall_mem_singleton.2 ?_)
          refine at_derive [5, 6, 7] (ty76.fact (⟨x63.From, x63.To, x63.Codes⟩ : D_crosswalk_Entry) [str x63.From, str x63.To, s65]) rfl (fun F w h => mk76 (x := (⟨x63.From, x63.To, x63.Codes⟩ : D_crosswalk_Entry)) h) ?_
          refine aa_op rfl rfl ?_
          refine hv_call0 [0] (f57_spec h71) rfl rfl rfl rfl ?_
          rintro _ _ ⟨rfl, rfl⟩
          refine aa_pure (bs' := [true, true, true, false, false, false, false, false, false, false, false, false, false, false, false, false, false, false]) 2 rfl (by kernel_rfl) rfl rfl (lt_not rfl) rfl (ts_in 0 1 rfl rfl) ?_
          refine aa_pure (bs' := [true, true, true, true, false, false, false, false, false, false, false, false, false, false, false, false, false, false]) 3 rfl (by kernel_rfl) rfl rfl (lt_move rfl) rfl (ts_in 0 1 rfl rfl) ?_
          refine aa_pure (bs' := [true, true, true, true, true, false, false, false, false, false, false, false, false, false, false, false, false, false]) 4 rfl (by kernel_rfl) rfl ⟨15, rfl, .inl ⟨_, rfl, gdq (v := false) (nt h72) rfl⟩⟩ (lt_move rfl) rfl (ts_in 0 1 rfl rfl) ?_
          refine aa_pure (bs' := [true, true, true, true, true, true, false, false, false, false, false, false, false, false, false, false, false, false]) 5 rfl (by kernel_rfl) rfl ⟨15, rfl, .inl ⟨_, rfl, gdq (v := false) (nt h72) rfl⟩⟩ (lt_gtr rfl rfl) rfl (ts_in 0 1 rfl rfl) ?_
          refine aa_pure (bs' := [true, true, true, true, true, true, true, false, false, false, false, false, false, false, false, false, false, false]) 6 rfl (by kernel_rfl) rfl ⟨15, rfl, .inl ⟨_, rfl, gdq (v := false) (nt h72) rfl⟩⟩ (lt_move rfl) rfl (ts_in 0 1 rfl rfl) ?_
          refine aa_pure (bs' := [true, true, true, true, true, true, true, true, false, false, false, false, false, false, false, false, false, false]) 7 rfl (by kernel_rfl) rfl ⟨18, rfl, .inl ⟨_, rfl, gdq (v := true) (decide_eq_true (by omega)) rfl⟩⟩ (lt_move rfl) rfl (ts_in 0 1 rfl rfl) ?_
          refine aa_pure (bs' := [true, true, true, true, true, true, true, true, true, false, false, false, false, false, false, false, false, false]) 8 rfl (by kernel_rfl) rfl ⟨18, rfl, .inl ⟨_, rfl, gdq (v := true) (decide_eq_true (by omega)) rfl⟩⟩ (lt_move rfl) rfl (ts_in 0 1 rfl rfl) ?_
          refine aa_pure (bs' := [true, true, true, true, true, true, true, true, true, true, false, false, false, false, false, false, false, false]) 9 rfl (by kernel_rfl) rfl ⟨18, rfl, .inl ⟨_, rfl, gdq (v := true) (decide_eq_true (by omega)) rfl⟩⟩ (lt_sub rfl rfl (by simp only [lo, hi]; omega)) rfl (ts_in 0 1 rfl rfl) ?_
          refine aa_pure (bs' := [true, true, true, true, true, true, true, true, true, true, true, false, false, false, false, false, false, false]) 10 rfl (by kernel_rfl) rfl ⟨18, rfl, .inl ⟨_, rfl, gdq (v := true) (decide_eq_true (by omega)) rfl⟩⟩ (lt_idx rfl rfl pa78 und34 ti76) rfl (ts_in 0 1 rfl rfl) ?_
          refine aa_pure (bs' := [true, true, true, true, true, true, true, true, true, true, true, true, false, false, false, false, false, false]) 11 rfl (by kernel_rfl) rfl ⟨18, rfl, .inl ⟨_, rfl, gdq (v := true) (decide_eq_true (by omega)) rfl⟩⟩ (lt_fieldAddr 0 rfl fld76_0 rfl) rfl (ts_in 0 1 rfl rfl) ?_
          refine aa_load (bs' := [true, true, true, true, true, true, true, true, true, true, true, true, true, false, false, false, false, false]) 12 rfl (by kernel_rfl) rfl ⟨18, rfl, .inl ⟨_, rfl, gdq (v := true) (decide_eq_true (by omega)) rfl⟩⟩ (lt_load_peek 4 rfl ti9 rfl rfl rfl rfl rfl) rfl (ts_in 0 1 rfl rfl) ?_
          refine aa_pure (bs' := [true, true, true, true, true, true, true, true, true, true, true, true, true, true, false, false, false, false]) 13 rfl (by kernel_rfl) rfl ⟨18, rfl, .inl ⟨_, rfl, gdq (v := true) (decide_eq_true (by omega)) rfl⟩⟩ (lt_fieldAddr 0 rfl fld76_0 rfl) rfl (ts_in 0 1 rfl rfl) ?_
          refine aa_load (bs' := [true, true, true, true, true, true, true, true, true, true, true, true, true, true, true, false, false, false]) 14 rfl (by kernel_rfl) rfl ⟨18, rfl, .inl ⟨_, rfl, gdq (v := true) (decide_eq_true (by omega)) rfl⟩⟩ (lt_load_box 0 rfl ti9 rfl rfl rfl rfl rfl) rfl (ts_in 0 1 rfl rfl) ?_
          refine aa_pure (bs' := [true, true, true, true, true, true, true, true, true, true, true, true, true, true, true, true, false, false]) 15 rfl (by kernel_rfl) rfl ⟨18, rfl, .inl ⟨_, rfl, gdq (v := true) (decide_eq_true (by omega)) rfl⟩⟩ (lt_sgeq rfl rfl) rfl (ts_in 0 1 rfl rfl) ?_
          refine aa_pure (bs' := [true, true, true, true, true, true, true, true, true, true, true, true, true, true, true, true, true, false]) 16 rfl (by kernel_rfl) rfl ⟨15, rfl, .inl ⟨_, rfl, gdq (v := false) (nt h72) rfl⟩⟩ (lt_pick true rfl (decide_eq_true (by omega)) rfl) rfl (ts_in 0 1 rfl rfl) ?_
          refine aa_pure (bs' := [true, true, true, true, true, true, true, true, true, true, true, true, true, true, true, true, true, true]) 17 rfl (by kernel_rfl) rfl rfl (lt_pick false rfl (nt h72) rfl) rfl (ts_in 0 1 rfl rfl) ?_
          refine aa_done (by kernel_rfl) (ts_in 0 1 rfl rfl) ?_
          refine at_then ?_
          by_cases h79 : (Op.bytesLess x74.From x63.From) = true
          · replace hr := ipos h79 hr
            refine at_false rfl (nt h79) ?_
            refine at_skip ?_
            refine at_in ?_
            refine at_then ?_
            refine at_region ?_
            refine at_lt (lt_add rfl rfl (by simp only [lo, hi]; omega)) rfl ?_
            refine at_lt (lt_move rfl) rfl ?_
            refine at_nil ?_
            refine at_int .i64 (x58 + 1 : Int) (by simp only [lo, hi]; omega) ?_
            exact at_again (σ := Nat) (V := Unit) (lp := fun n s => m27_l1 a0 n s) (S := fun s e => (⟨[(0, w55), (5, w55), (6, .int .i64 (a0.length : Int)), (7, .int .i64 (s : Int))], [], [], [((Ty.int .i64).fact (s : Int) [.int .i64 (s : Int)]), ((Ty.slice ty76).fact a0 [w55])]⟩ : St)) (x58 + 1) () hr ⟨⟨rfl, ⟨rfl, ⟨rfl, ⟨rfl, trivial⟩⟩⟩⟩, ⟨[false], rfl⟩, ⟨[], rfl⟩, ⟨[0, 13], rfl⟩⟩
          · replace hr := ineg h79 hr
            refine at_true rfl (nf (bf h79)) ?_
            refine at_seq ?_
            refine at_region ?_
            refine at_lt (lt_assign rfl) rfl ?_
            refine at_nil ?_
            refine at_then ?_
            refine at_ret ?_
            have hq := oinj hr
            clear hr
            subst hq
            have hq := oinj hk61
            clear hk61
            subst hq
            refine at_in_ret ?_
            refine at_then_ret ?_
            refine at_then_ret ?_
            refine at_in_ret ?_
            refine at_then_ret ?_
            refine at_then_ret ?_
            exact at_return (.bool false) [] hS Tryz.results27 (.cons (.tmp rfl) .nil) rfl rfl ⟨rfl, rfl⟩
        · replace hr := ineg h73 hr
          refine aa_start 18 (by kernel_rfl) ?_
          refine aa_load (bs' := [true, false, false, false, false, false, false, false, false, false, false, false, false, false, false, false, false, false]) 0 rfl (by kernel_rfl) rfl rfl (lt_load_box 0 rfl ti76 rfl rfl rfl rfl rfl) rfl (ts_in 0 0 rfl rfl) ?_
          refine aa_all (rs := [1]) (by kernel_rfl) rfl (ts_in 0 0 rfl rfl) (List.forall_mem_singleton.2 ?_)
          refine at_derive [0, 1, 2] (ty76.fact (⟨x63.From, x63.To, x63.Codes⟩ : D_crosswalk_Entry) [str x63.From, str x63.To, s65]) rfl (fun F w h => mk76 (x := (⟨x63.From, x63.To, x63.Codes⟩ : D_crosswalk_Entry)) h) ?_
          refine aa_op rfl rfl ?_
          refine hv_call0 [0] (f57_spec h71) rfl rfl rfl rfl ?_
          rintro _ _ ⟨rfl, rfl⟩
          refine aa_pure (bs' := [true, true, true, false, false, false, false, false, false, false, false, false, false, false, false, false, false, false]) 2 rfl (by kernel_rfl) rfl rfl (lt_not rfl) rfl (ts_in 0 1 rfl rfl) ?_
          refine aa_pure (bs' := [true, true, true, true, false, false, false, false, false, false, false, false, false, false, false, false, false, false]) 3 rfl (by kernel_rfl) rfl rfl (lt_move rfl) rfl (ts_in 0 1 rfl rfl) ?_
          refine aa_pure (bs' := [true, true, true, true, true, false, false, false, false, false, false, false, false, false, false, false, false, false]) 4 rfl (by kernel_rfl) rfl ⟨15, rfl, .inl ⟨_, rfl, gdq (v := false) (nt h72) rfl⟩⟩ (lt_move rfl) rfl (ts_in 0 1 rfl rfl) ?_
          refine aa_pure (bs' := [true, true, true, true, true, true, false, false, false, false, false, false, false, false, false, false, false, false]) 5 rfl (by kernel_rfl) rfl ⟨15, rfl, .inl ⟨_, rfl, gdq (v := false) (nt h72) rfl⟩⟩ (lt_gtr rfl rfl) rfl (ts_in 0 1 rfl rfl) ?_
          refine aa_pure (bs' := [true, true, true, true, true, true, true, false, false, false, false, false, false, false, false, false, false, false]) 6 rfl (by kernel_rfl) rfl ⟨15, rfl, .inl ⟨_, rfl, gdq (v := false) (nt h72) rfl⟩⟩ (lt_move rfl) rfl (ts_in 0 1 rfl rfl) ?_
          refine aa_off (bs' := [true, true, true, true, true, true, true, true, false, false, false, false, false, false, false, false, false, false]) 7 rfl (by kernel_rfl) rfl ⟨18, rfl, .inl ⟨_, rfl, gdq (v := false) (decide_eq_false (by omega)) rfl⟩⟩ rfl (ts_in 0 1 rfl rfl) ?_
          refine aa_off (bs' := [true, true, true, true, true, true, true, true, true, false, false, false, false, false, false, false, false, false]) 8 rfl (by kernel_rfl) rfl ⟨18, rfl, .inl ⟨_, rfl, gdq (v := false) (decide_eq_false (by omega)) rfl⟩⟩ rfl (ts_in 0 1 rfl rfl) ?_
          refine aa_off (bs' := [true, true, true, true, true, true, true, true, true, true, false, false, false, false, false, false, false, false]) 9 rfl (by kernel_rfl) rfl ⟨18, rfl, .inl ⟨_, rfl, gdq (v := false) (decide_eq_false (by omega)) rfl⟩⟩ rfl (ts_in 0 1 rfl rfl) ?_
          refine aa_off (bs' := [true, true, true, true, true, true, true, true, true, true, true, false, false, false, false, false, false, false]) 10 rfl (by kernel_rfl) rfl ⟨18, rfl, .inl ⟨_, rfl, gdq (v := false) (decide_eq_false (by omega)) rfl⟩⟩ rfl (ts_in 0 1 rfl rfl) ?_
          refine aa_off (bs' := [true, true, true, true, true, true, true, true, true, true, true, true, false, false, false, false, false, false]) 11 rfl (by kernel_rfl) rfl ⟨18, rfl, .inl ⟨_, rfl, gdq (v := false) (decide_eq_false (by omega)) rfl⟩⟩ rfl (ts_in 0 1 rfl rfl) ?_
          refine aa_off (bs' := [true, true, true, true, true, true, true, true, true, true, true, true, true, false, false, false, false, false]) 12 rfl (by kernel_rfl) rfl ⟨18, rfl, .inl ⟨_, rfl, gdq (v := false) (decide_eq_false (by omega)) rfl⟩⟩ rfl (ts_in 0 1 rfl rfl) ?_
          refine aa_off (bs' := [true, true, true, true, true, true, true, true, true, true, true, true, true, true, false, false, false, false]) 13 rfl (by kernel_rfl) rfl ⟨18, rfl, .inl ⟨_, rfl, gdq (v := false) (decide_eq_false (by omega)) rfl⟩⟩ rfl (ts_in 0 1 rfl rfl) ?_
          refine aa_off (bs' := [true, true, true, true, true, true, true, true, true, true, true, true, true, true, true, false, false, false]) 14 rfl (by kernel_rfl) rfl ⟨18, rfl, .inl ⟨_, rfl, gdq (v := false) (decide_eq_false (by omega)) rfl⟩⟩ rfl (ts_in 0 1 rfl rfl) ?_
          refine aa_off (bs' := [true, true, true, true, true, true, true, true, true, true, true, true, true, true, true, true, false, false]) 15 rfl (by kernel_rfl) rfl ⟨18, rfl, .inl ⟨_, rfl, gdq (v := false) (decide_eq_false (by omega)) rfl⟩⟩ rfl (ts_in 0 1 rfl rfl) ?_
          refine aa_pure (bs' := [true, true, true, true, true, true, true, true, true, true, true, true, true, true, true, true, true, false]) 16 rfl (by kernel_rfl) rfl ⟨15, rfl, .inl ⟨_, rfl, gdq (v := false) (nt h72) rfl⟩⟩ (lt_pick false rfl (decide_eq_false (by omega)) rfl) rfl (ts_in 0 1 rfl rfl) ?_
          refine aa_pure (bs' := [true, true, true, true, true, true, true, true, true, true, true, true, true, true, true, true, true, true]) 17 rfl (by kernel_rfl) rfl rfl (lt_pick false rfl (nt h72) rfl) rfl (ts_in 0 1 rfl rfl) ?_
          refine aa_done (by kernel_rfl) (ts_in 0 1 rfl rfl) ?_
          refine at_then ?_
          refine at_false rfl rfl ?_
          refine at_skip ?_
          refine at_in ?_
          refine at_then ?_
          refine at_region ?_
          refine at_lt (lt_add rfl rfl (by simp only [lo, hi]; omega)) rfl ?_
          refine at_lt (lt_move rfl) rfl ?_
          refine at_nil ?_
          refine at_int .i64 (x58 + 1 : Int) (by simp only [lo, hi]; omega) ?_
          exact at_again (σ := Nat) (V := Unit) (lp := fun n s => m27_l1 a0 n s) (S := fun s e => (⟨[(0, w55), (5, w55), (6, .int .i64 (a0.length : Int)), (7, .int .i64 (s : Int))], [], [], [((Ty.int .i64).fact (s : Int) [.int .i64 (s : Int)]), ((Ty.slice ty76).fact a0 [w55])]⟩ : St)) (x58 + 1) () hr ⟨⟨rfl, ⟨rfl, ⟨rfl, ⟨rfl, trivial⟩⟩⟩⟩, ⟨[false], rfl⟩, ⟨[], rfl⟩, ⟨[0, 8], rfl⟩⟩
      · replace hr := ineg h72 hr
        refine aa_start 18 (by kernel_rfl) ?_
        refine aa_load (bs' := [true, false, false, false, false, false, false, false, false, false, false, false, false, false, false, false, false, false]) 0 rfl (by kernel_rfl) rfl rfl (lt_load_box 0 rfl ti76 rfl rfl rfl rfl rfl) rfl (ts_in 0 0 rfl rfl) ?_
        refine aa_all (rs := [1]) (by kernel_rfl) rfl (ts_in 0 0 rfl rfl) (List.forall_mem_singleton.2 ?_)
        refine at_derive [0, 1, 2] (ty76.fact (⟨x63.From, x63.To, x63.Codes⟩ : D_crosswalk_Entry) [str x63.From, str x63.To, s65]) rfl (fun F w h => mk76 (x := (⟨x63.From, x63.To, x63.Codes⟩ : D_crosswalk_Entry)) h) ?_
        refine aa_op rfl rfl ?_
        refine hv_call0 [0] (f57_spec h71) rfl rfl rfl rfl ?_
        rintro _ _ ⟨rfl, rfl⟩
        refine aa_pure (bs' := [true, true, true, false, false, false, false, false, false, false, false, false, false, false, false, false, false, false]) 2 rfl (by kernel_rfl) rfl rfl (lt_not rfl) rfl (ts_in 0 1 rfl rfl) ?_
        refine aa_pure (bs' := [true, true, true, true, false, false, false, false, false, false, false, false, false, false, false, false, false, false]) 3 rfl (by kernel_rfl) rfl rfl (lt_move rfl) rfl (ts_in 0 1 rfl rfl) ?_
        refine aa_off (bs' := [true, true, true, true, true, false, false, false, false, false, false, false, false, false, false, false, false, false]) 4 rfl (by kernel_rfl) rfl ⟨15, rfl, .inl ⟨_, rfl, gdq (v := true) (nf (bf h72)) rfl⟩⟩ rfl (ts_in 0 1 rfl rfl) ?_
        refine aa_off (bs' := [true, true, true, true, true, true, false, false, false, false, false, false, false, false, false, false, false, false]) 5 rfl (by kernel_rfl) rfl ⟨15, rfl, .inl ⟨_, rfl, gdq (v := true) (nf (bf h72)) rfl⟩⟩ rfl (ts_in 0 1 rfl rfl) ?_
        refine aa_off (bs' := [true, true, true, true, true, true, true, false, false, false, false, false, false, false, false, false, false, false]) 6 rfl (by kernel_rfl) rfl ⟨15, rfl, .inl ⟨_, rfl, gdq (v := true) (nf (bf h72)) rfl⟩⟩ rfl (ts_in 0 1 rfl rfl) ?_
        refine aa_off (bs' := [true, true, true, true, true, true, true, true, false, false, false, false, false, false, false, false, false, false]) 7 rfl (by kernel_rfl) rfl ⟨18, rfl, .inr ⟨rfl, rfl⟩⟩ rfl (ts_in 0 1 rfl rfl) ?_
        refine aa_off (bs' := [true, true, true, true, true, true, true, true, true, false, false, false, false, false, false, false, false, false]) 8 rfl (by kernel_rfl) rfl ⟨18, rfl, .inr ⟨rfl, rfl⟩⟩ rfl (ts_in 0 1 rfl rfl) ?_
        refine aa_off (bs' := [true, true, true, true, true, true, true, true, true, true, false, false, false, false, false, false, false, false]) 9 rfl (by kernel_rfl) rfl ⟨18, rfl, .inr ⟨rfl, rfl⟩⟩ rfl (ts_in 0 1 rfl rfl) ?_
        refine aa_off (bs' := [true, true, true, true, true, true, true, true, true, true, true, false, false, false, false, false, false, false]) 10 rfl (by kernel_rfl) rfl ⟨18, rfl, .inr ⟨rfl, rfl⟩⟩ rfl (ts_in 0 1 rfl rfl) ?_
        refine aa_off (bs' := [true, true, true, true, true, true, true, true, true, true, true, true, false, false, false, false, false, false]) 11 rfl (by kernel_rfl) rfl ⟨18, rfl, .inr ⟨rfl, rfl⟩⟩ rfl (ts_in 0 1 rfl rfl) ?_
        refine aa_off (bs' := [true, true, true, true, true, true, true, true, true, true, true, true, true, false, false, false, false, false]) 12 rfl (by kernel_rfl) rfl ⟨18, rfl, .inr ⟨rfl, rfl⟩⟩ rfl (ts_in 0 1 rfl rfl) ?_
        refine aa_off (bs' := [true, true, true, true, true, true, true, true, true, true, true, true, true, true, false, false, false, false]) 13 rfl (by kernel_rfl) rfl ⟨18, rfl, .inr ⟨rfl, rfl⟩⟩ rfl (ts_in 0 1 rfl rfl) ?_
        refine aa_off (bs' := [true, true, true, true, true, true, true, true, true, true, true, true, true, true, true, false, false, false]) 14 rfl (by kernel_rfl) rfl ⟨18, rfl, .inr ⟨rfl, rfl⟩⟩ rfl (ts_in 0 1 rfl rfl) ?_
        refine aa_off (bs' := [true, true, true, true, true, true, true, true, true, true, true, true, true, true, true, true, false, false]) 15 rfl (by kernel_rfl) rfl ⟨18, rfl, .inr ⟨rfl, rfl⟩⟩ rfl (ts_in 0 1 rfl rfl) ?_
        refine aa_off (bs' := [true, true, true, true, true, true, true, true, true, true, true, true, true, true, true, true, true, false]) 16 rfl (by kernel_rfl) rfl ⟨15, rfl, .inl ⟨_, rfl, gdq (v := true) (nf (bf h72)) rfl⟩⟩ rfl (ts_in 0 1 rfl rfl) ?_
        refine aa_pure (bs' := [true, true, true, true, true, true, true, true, true, true, true, true, true, true, true, true, true, true]) 17 rfl (by kernel_rfl) rfl rfl (lt_pick true rfl (nf (bf h72)) rfl) rfl (ts_in 0 1 rfl rfl) ?_
        refine aa_done (by kernel_rfl) (ts_in 0 1 rfl rfl) ?_
        refine at_then ?_
        refine at_true rfl rfl ?_
        refine at_seq ?_
        refine at_region ?_
        refine at_lt (lt_assign rfl) rfl ?_
        refine at_nil ?_
        refine at_then ?_
        refine at_ret ?_
        have hq := oinj hr
        clear hr
        subst hq
        have hq := oinj hk61
        clear hk61
        subst hq
        refine at_in_ret ?_
        refine at_then_ret ?_
        refine at_then_ret ?_
        refine at_in_ret ?_
        refine at_then_ret ?_
        refine at_then_ret ?_
        exact at_return (.bool false) [] hS Tryz.results27 (.cons (.tmp rfl) .nil) rfl rfl ⟨rfl, rfl⟩
    · replace hr := ineg h62 hr
      refine at_false rfl (decide_eq_false (by omega)) ?_
      refine at_exit ?_
      refine at_then_exit ?_
      refine at_then_exit ?_
      refine at_in_exit ?_
      have hq := oinj hr
      clear hr
      subst hq
      exact at_leafP ((), ()) rfl ⟨⟨rfl, trivial⟩, ⟨[], rfl⟩, ⟨[], rfl⟩, ⟨[1], rfl⟩⟩
  · rintro ⟨_, _⟩ hp
    replace hr := hk61
    subst hp
    clear hl60
    change At _ _ (⟨[(0, w55)], [], [], [((Ty.slice ty76).fact a0 [w55])]⟩ : St) _
    refine at_then ?_
    refine at_seq ?_
    refine at_region ?_
    refine at_lt (lt_move rfl) rfl ?_
    refine at_lt (lt_flen 0 rfl rfl und34) rfl ?_
    refine at_lt (lt_leq rfl rfl) rfl ?_
    refine at_lt (lt_assign rfl) rfl ?_
    refine at_nil ?_
    refine at_then ?_
    refine at_ret ?_
    have hq := oinj hr
    clear hr
    subst hq
    exact at_return (.bool (decide ((a0.length : Int) ≤ 60))) [] hS Tryz.results27 (.cons (.tmp rfl) .nil) rfl rfl ⟨rfl, rfl⟩
/-! 118 slices.IndexFunc[[]bookplate/api.Field,bookplate/api.Field] -/
def m118_l1 (a0 : (List D_api_Field)) (p1 : (D_api_Field → Option Bool)) : Nat → Nat → Option (Fl Int Unit)
  | 0, _ => none
  | k + 1, x84 =>
    if x84 < a0.length then
      (a0[x84]?).bind fun x89 =>
      (p1 x89).bind fun x94 =>
      if x94 = true then
        some (Fl.ret (x84 : Int))
      else
        m118_l1 a0 p1 k (x84 + 1)
    else
      some (Fl.go ())
def m118 (a0 : (List D_api_Field)) (p1 : (D_api_Field → Option Bool)) : Option Int :=
  (m118_l1 a0 p1 (a0.length + 1) 0).bind fun r => match r with
  | .ret x => some x
  | .go _ =>
    some (-1)
def post118 (r : Int) (v : Value) (fs : List Fact) : Prop := v = .int .i64 r ∧ fs = [((Ty.int .i64).fact r [.int .i64 r])]
theorem en118 : Enters Tryz.prog 118 := ⟨_, Tryz.func118, by kernel_rfl, rfl⟩
theorem f118_spec {a0 : (List D_api_Field)} {p1 : (D_api_Field → Option Bool)} {w80 : Value} {w81 : Value} {r : Int} (hr : m118 a0 p1 = some r) : Spec Tryz.prog 118 [w80, w81] [((Ty.slice ty69).fact a0 [w80]), (FnOk Tryz.prog w81 (sp96 p1))] (post118 r) := by
  refine spec_start (N := 19) Tryz.func118 (by kernel_rfl) rfl rfl rfl ?_
  intro g hS
  unfold m118 at hr
  refine at_seq ?_
  refine at_region ?_
  refine at_lt (lt_assign rfl) rfl ?_
  refine at_nil ?_
  refine at_then ?_
  refine at_seq ?_
  refine at_seq ?_
  refine at_region ?_
  refine at_lt (lt_move rfl) rfl ?_
  refine at_inv 0 rfl (fun i82 => ?_)
  have l83 := slice_len i82
  refine at_lt (lt_flen 0 rfl rfl und23) rfl ?_
  refine at_lt (lt_move rfl) rfl ?_
  refine at_nil ?_
  refine at_then ?_
  refine at_int .i64 0 (by simp only [lo, hi]; omega) ?_
  replace hr := obind hr
  obtain ⟨r85, hl86, hk87⟩ := hr
  refine at_cutP (V := (Unit) × (Unit)) (fun v => r85 = Fl.go v.1) (fun v => (⟨[], [], [], []⟩ : St)) ?_ ?_
  · refine at_block ?_
    refine at_loopW (σ := Nat) (V := Unit) (r := r85) (fun n s => m118_l1 a0 p1 n s) (fun s e => (⟨[(0, w80), (1, w81), (7, .int .i64 (a0.length : Int)), (8, .int .i64 (s : Int))], [], [], [((Ty.int .i64).fact (s : Int) [.int .i64 (s : Int)]), ((Ty.slice ty69).fact a0 [w80]), (FnOk Tryz.prog w81 (sp96 p1))]⟩ : St)) (fun _ => rfl) _ 0 () hl86 ⟨⟨rfl, ⟨rfl, ⟨rfl, ⟨rfl, trivial⟩⟩⟩⟩, ⟨[], rfl⟩, ⟨[], rfl⟩, ⟨[0, 1, 2], rfl⟩⟩ ?_
    clear hl86
    intro n x84 hr e
    skip
    skip
    change m118_l1 a0 p1 (n + 1) x84 = some r85 at hr
    change At _ _ (⟨[(0, w80), (1, w81), (7, .int .i64 (a0.length : Int)), (8, .int .i64 (x84 : Int))], [], [], [((Ty.int .i64).fact (x84 : Int) [.int .i64 (x84 : Int)]), ((Ty.slice ty69).fact a0 [w80]), (FnOk Tryz.prog w81 (sp96 p1))]⟩ : St) _
    rw [m118_l1] at hr
    refine at_seq ?_
    refine at_region ?_
    refine at_lt (lt_lss rfl rfl) rfl ?_
    refine at_nil ?_
    refine at_then ?_
    refine at_seq ?_
    by_cases h88 : x84 < a0.length
    · replace hr := ipos h88 hr
      refine at_true rfl (decide_eq_true (by omega)) ?_
      refine at_skip ?_
      refine at_then ?_
      refine at_seq ?_
      refine at_block ?_
      refine at_seq ?_
      refine at_region ?_
      refine at_lt (lt_move rfl) rfl ?_
      refine at_lt (lt_assign rfl) rfl ?_
      refine at_nil ?_
      refine at_then ?_
      refine at_seq ?_
      refine at_region ?_
      refine at_lt (lt_move rfl) rfl ?_
      refine at_lt (lt_move rfl) rfl ?_
      refine at_lt (lt_move rfl) rfl ?_
      replace hr := obind hr
      obtain ⟨x89, h90, hr⟩ := hr
      have := (List.getElem?_eq_some_iff.1 h90).1
      refine at_elem 1 rfl (nat_at' h90) (fun p92 ec pa93 => ?_)
      refine at_open (A := Value) 0 rfl _ _ (fun F w h => op69 h) ?_
      rintro s91 rfl
      refine at_lt (lt_idx rfl rfl pa93 und23 ti69) rfl ?_
      refine at_lt (lt_load_peek 3 rfl ti69 rfl rfl rfl rfl rfl) rfl ?_
      replace hr := obind hr
      obtain ⟨x94, h95, hr⟩ := hr
      refine at_hv rfl ?_
      refine hv_callf 6 [2] rfl rfl rfl ⟨x89, x94, s91, h95, rfl, rfl, rfl⟩ rfl rfl ?_
      rintro _ _ ⟨rfl, rfl⟩
      refine at_nil ?_
      refine at_then ?_
      by_cases h96 : x94 = true
      · replace hr := ipos h96 hr
        refine at_true rfl h96 ?_
        refine at_seq ?_
        refine at_region ?_
        refine at_lt (lt_move rfl) rfl ?_
        refine at_lt (lt_assign rfl) rfl ?_
        refine at_nil ?_
        refine at_then ?_
        refine at_ret ?_
        have hq := oinj hr
        clear hr
        subst hq
        have hq := oinj hk87
        clear hk87
        subst hq
        refine at_in_ret ?_
        refine at_then_ret ?_
        refine at_then_ret ?_
        refine at_in_ret ?_
        refine at_then_ret ?_
        refine at_then_ret ?_
        exact at_return (.int .i64 (x84 : Int)) [4] hS Tryz.results118 (.cons (.tmp rfl) .nil) rfl rfl ⟨rfl, rfl⟩
      · replace hr := ineg h96 hr
        refine at_false rfl (bf h96) ?_
        refine at_skip ?_
        refine at_in ?_
        refine at_then ?_
        refine at_region ?_
        refine at_lt (lt_add rfl rfl (by simp only [lo, hi]; omega)) rfl ?_
        refine at_lt (lt_move rfl) rfl ?_
        refine at_nil ?_
        refine at_int .i64 (x84 + 1 : Int) (by simp only [lo, hi]; omega) ?_
        exact at_again (σ := Nat) (V := Unit) (lp := fun n s => m118_l1 a0 p1 n s) (S := fun s e => (⟨[(0, w80), (1, w81), (7, .int .i64 (a0.length : Int)), (8, .int .i64 (s : Int))], [], [], [((Ty.int .i64).fact (s : Int) [.int .i64 (s : Int)]), ((Ty.slice ty69).fact a0 [w80]), (FnOk Tryz.prog w81 (sp96 p1))]⟩ : St)) (x84 + 1) () hr ⟨⟨rfl, ⟨rfl, ⟨rfl, ⟨rfl, trivial⟩⟩⟩⟩, ⟨[], rfl⟩, ⟨[], rfl⟩, ⟨[0, 6, 7], rfl⟩⟩
    · replace hr := ineg h88 hr
      refine at_false rfl (decide_eq_false (by omega)) ?_
      refine at_exit ?_
      refine at_then_exit ?_
      refine at_then_exit ?_
      refine at_in_exit ?_
      have hq := oinj hr
      clear hr
      subst hq
      exact at_leafP ((), ()) rfl ⟨trivial, ⟨[], rfl⟩, ⟨[], rfl⟩, ⟨[], rfl⟩⟩
  · rintro ⟨_, _⟩ hp
    replace hr := hk87
    subst hp
    clear hl86
    change At _ _ (⟨[], [], [], []⟩ : St) _
    refine at_then ?_
    refine at_seq ?_
    refine at_region ?_
    refine at_lt (lt_assign rfl) rfl ?_
    refine at_nil ?_
    refine at_then ?_
    refine at_ret ?_
    have hq := oinj hr
    clear hr
    subst hq
    refine at_int .i64 (-1) (by simp only [lo, hi]; omega) ?_
    exact at_return (.int .i64 (-1)) [0] hS Tryz.results118 (.cons (.tmp rfl) .nil) rfl rfl ⟨rfl, rfl⟩
/-! 93 slices.ContainsFunc[[]bookplate/api.Field,bookplate/api.Field] -/
def m93 (a0 : (List D_api_Field)) (p1 : (D_api_Field → Option Bool)) : Option Bool :=
  (m118 a0 p1).bind fun x99 =>
  some (decide ((0 : Int) ≤ x99))
def post93 (r : Bool) (v : Value) (fs : List Fact) : Prop := v = .bool r ∧ fs = []
theorem en93 : Enters Tryz.prog 93 := ⟨_, Tryz.func93, by kernel_rfl, rfl⟩
theorem f93_spec {a0 : (List D_api_Field)} {p1 : (D_api_Field → Option Bool)} {w97 : Value} {w98 : Value} {r : Bool} (hr : m93 a0 p1 = some r) : Spec Tryz.prog 93 [w97, w98] [((Ty.slice ty69).fact a0 [w97]), (FnOk Tryz.prog w98 (sp96 p1))] (post93 r) := by
  refine spec_start (N := 9) Tryz.func93 (by kernel_rfl) rfl rfl rfl ?_
  intro g hS
  unfold m93 at hr
  refine at_seq ?_
  refine at_region ?_
  refine at_lt (lt_assign rfl) rfl ?_
  refine at_nil ?_
  refine at_then ?_
  refine at_seq ?_
  refine at_region ?_
  refine at_lt (lt_move rfl) rfl ?_
  refine at_lt (lt_move rfl) rfl ?_
  replace hr := obind hr
  obtain ⟨x99, h100, hr⟩ := hr
  refine at_hv rfl ?_
  refine hv_call0 [0, 1] (f118_spec h100) rfl rfl rfl rfl ?_
  rintro _ _ ⟨rfl, rfl⟩
  refine at_inv 0 rfl (fun l101 => ?_)
  replace l101 : (-9223372036854775808) ≤ x99 ∧ x99 ≤ 9223372036854775807 := l101
  refine at_lt (lt_geq rfl rfl) rfl ?_
  refine at_lt (lt_assign rfl) rfl ?_
  refine at_nil ?_
  refine at_then ?_
  refine at_ret ?_
  have hq := oinj hr
  clear hr
  subst hq
  exact at_return (.bool (decide ((0 : Int) ≤ x99))) [] hS Tryz.results93 (.cons (.tmp rfl) .nil) rfl rfl ⟨rfl, rfl⟩
/-! 102 slices.IndexFunc[[]bookplate/api.Sub,bookplate/api.Sub] -/
def m102_l1 (a0 : (List D_api_Sub)) (p1 : (D_api_Sub → Option Bool)) : Nat → Nat → Option (Fl Int Unit)
  | 0, _ => none
  | k + 1, x106 =>
    if x106 < a0.length then
      (a0[x106]?).bind fun x111 =>
      (p1 x111).bind fun x115 =>
      if x115 = true then
        some (Fl.ret (x106 : Int))
      else
        m102_l1 a0 p1 k (x106 + 1)
    else
      some (Fl.go ())
def m102 (a0 : (List D_api_Sub)) (p1 : (D_api_Sub → Option Bool)) : Option Int :=
  (m102_l1 a0 p1 (a0.length + 1) 0).bind fun r => match r with
  | .ret x => some x
  | .go _ =>
    some (-1)
def post102 (r : Int) (v : Value) (fs : List Fact) : Prop := v = .int .i64 r ∧ fs = [((Ty.int .i64).fact r [.int .i64 r])]
theorem en102 : Enters Tryz.prog 102 := ⟨_, Tryz.func102, by kernel_rfl, rfl⟩
theorem f102_spec {a0 : (List D_api_Sub)} {p1 : (D_api_Sub → Option Bool)} {w102 : Value} {w103 : Value} {r : Int} (hr : m102 a0 p1 = some r) : Spec Tryz.prog 102 [w102, w103] [((Ty.slice ty66).fact a0 [w102]), (FnOk Tryz.prog w103 (sp101 p1))] (post102 r) := by
  refine spec_start (N := 19) Tryz.func102 (by kernel_rfl) rfl rfl rfl ?_
  intro g hS
  unfold m102 at hr
  refine at_seq ?_
  refine at_region ?_
  refine at_lt (lt_assign rfl) rfl ?_
  refine at_nil ?_
  refine at_then ?_
  refine at_seq ?_
  refine at_seq ?_
  refine at_region ?_
  refine at_lt (lt_move rfl) rfl ?_
  refine at_inv 0 rfl (fun i104 => ?_)
  have l105 := slice_len i104
  refine at_lt (lt_flen 0 rfl rfl und67) rfl ?_
  refine at_lt (lt_move rfl) rfl ?_
  refine at_nil ?_
  refine at_then ?_
  refine at_int .i64 0 (by simp only [lo, hi]; omega) ?_
  replace hr := obind hr
  obtain ⟨r107, hl108, hk109⟩ := hr
  refine at_cutP (V := (Unit) × (Unit)) (fun v => r107 = Fl.go v.1) (fun v => (⟨[], [], [], []⟩ : St)) ?_ ?_
  · refine at_block ?_
    refine at_loopW (σ := Nat) (V := Unit) (r := r107) (fun n s => m102_l1 a0 p1 n s) (fun s e => (⟨[(0, w102), (1, w103), (7, .int .i64 (a0.length : Int)), (8, .int .i64 (s : Int))], [], [], [((Ty.int .i64).fact (s : Int) [.int .i64 (s : Int)]), ((Ty.slice ty66).fact a0 [w102]), (FnOk Tryz.prog w103 (sp101 p1))]⟩ : St)) (fun _ => rfl) _ 0 () hl108 ⟨⟨rfl, ⟨rfl, ⟨rfl, ⟨rfl, trivial⟩⟩⟩⟩, ⟨[], rfl⟩, ⟨[], rfl⟩, ⟨[0, 1, 2], rfl⟩⟩ ?_
    clear hl108
    intro n x106 hr e
    skip
    skip
    change m102_l1 a0 p1 (n + 1) x106 = some r107 at hr
    change At _ _ (⟨[(0, w102), (1, w103), (7, .int .i64 (a0.length : Int)), (8, .int .i64 (x106 : Int))], [], [], [((Ty.int .i64).fact (x106 : Int) [.int .i64 (x106 : Int)]), ((Ty.slice ty66).fact a0 [w102]), (FnOk Tryz.prog w103 (sp101 p1))]⟩ : St) _
    rw [m102_l1] at hr
    refine at_seq ?_
    refine at_region ?_
    refine at_lt (lt_lss rfl rfl) rfl ?_
    refine at_nil ?_
    refine at_then ?_
    refine at_seq ?_
    by_cases h110 : x106 < a0.length
    · replace hr := ipos h110 hr
      refine at_true rfl (decide_eq_true (by omega)) ?_
      refine at_skip ?_
      refine at_then ?_
      refine at_seq ?_
      refine at_block ?_
      refine at_seq ?_
      refine at_region ?_
      refine at_lt (lt_move rfl) rfl ?_
      refine at_lt (lt_assign rfl) rfl ?_
      refine at_nil ?_
      refine at_then ?_
      refine at_seq ?_
      refine at_region ?_
      refine at_lt (lt_move rfl) rfl ?_
      refine at_lt (lt_move rfl) rfl ?_
      refine at_lt (lt_move rfl) rfl ?_
      replace hr := obind hr
      obtain ⟨x111, h112, hr⟩ := hr
      have := (List.getElem?_eq_some_iff.1 h112).1
      refine at_elem 1 rfl (nat_at' h112) (fun p113 ec pa114 => ?_)
      refine at_open (A := Unit) 0 rfl _ _ (fun F w h => op66 h) ?_
      rintro _ rfl
      refine at_lt (lt_idx rfl rfl pa114 und67 ti66) rfl ?_
      refine at_lt (lt_load_peek 2 rfl ti66 rfl rfl rfl rfl rfl) rfl ?_
      replace hr := obind hr
      obtain ⟨x115, h116, hr⟩ := hr
      refine at_hv rfl ?_
      refine hv_callf 5 [1] rfl rfl rfl ⟨x111, x115, h116, rfl, rfl, rfl⟩ rfl rfl ?_
      rintro _ _ ⟨rfl, rfl⟩
      refine at_nil ?_
      refine at_then ?_
      by_cases h117 : x115 = true
      · replace hr := ipos h117 hr
        refine at_true rfl h117 ?_
        refine at_seq ?_
        refine at_region ?_
        refine at_lt (lt_move rfl) rfl ?_
        refine at_lt (lt_assign rfl) rfl ?_
        refine at_nil ?_
        refine at_then ?_
        refine at_ret ?_
        have hq := oinj hr
        clear hr
        subst hq
        have hq := oinj hk109
        clear hk109
        subst hq
        refine at_in_ret ?_
        refine at_then_ret ?_
        refine at_then_ret ?_
        refine at_in_ret ?_
        refine at_then_ret ?_
        refine at_then_ret ?_
        exact at_return (.int .i64 (x106 : Int)) [3] hS Tryz.results102 (.cons (.tmp rfl) .nil) rfl rfl ⟨rfl, rfl⟩
      · replace hr := ineg h117 hr
        refine at_false rfl (bf h117) ?_
        refine at_skip ?_
        refine at_in ?_
        refine at_then ?_
        refine at_region ?_
        refine at_lt (lt_add rfl rfl (by simp only [lo, hi]; omega)) rfl ?_
        refine at_lt (lt_move rfl) rfl ?_
        refine at_nil ?_
        refine at_int .i64 (x106 + 1 : Int) (by simp only [lo, hi]; omega) ?_
        exact at_again (σ := Nat) (V := Unit) (lp := fun n s => m102_l1 a0 p1 n s) (S := fun s e => (⟨[(0, w102), (1, w103), (7, .int .i64 (a0.length : Int)), (8, .int .i64 (s : Int))], [], [], [((Ty.int .i64).fact (s : Int) [.int .i64 (s : Int)]), ((Ty.slice ty66).fact a0 [w102]), (FnOk Tryz.prog w103 (sp101 p1))]⟩ : St)) (x106 + 1) () hr ⟨⟨rfl, ⟨rfl, ⟨rfl, ⟨rfl, trivial⟩⟩⟩⟩, ⟨[], rfl⟩, ⟨[], rfl⟩, ⟨[0, 5, 6], rfl⟩⟩
    · replace hr := ineg h110 hr
      refine at_false rfl (decide_eq_false (by omega)) ?_
      refine at_exit ?_
      refine at_then_exit ?_
      refine at_then_exit ?_
      refine at_in_exit ?_
      have hq := oinj hr
      clear hr
      subst hq
      exact at_leafP ((), ()) rfl ⟨trivial, ⟨[], rfl⟩, ⟨[], rfl⟩, ⟨[], rfl⟩⟩
  · rintro ⟨_, _⟩ hp
    replace hr := hk109
    subst hp
    clear hl108
    change At _ _ (⟨[], [], [], []⟩ : St) _
    refine at_then ?_
    refine at_seq ?_
    refine at_region ?_
    refine at_lt (lt_assign rfl) rfl ?_
    refine at_nil ?_
    refine at_then ?_
    refine at_ret ?_
    have hq := oinj hr
    clear hr
    subst hq
    refine at_int .i64 (-1) (by simp only [lo, hi]; omega) ?_
    exact at_return (.int .i64 (-1)) [0] hS Tryz.results102 (.cons (.tmp rfl) .nil) rfl rfl ⟨rfl, rfl⟩
/-! 62 slices.ContainsFunc[[]bookplate/api.Sub,bookplate/api.Sub] -/
def m62 (a0 : (List D_api_Sub)) (p1 : (D_api_Sub → Option Bool)) : Option Bool :=
  (m102 a0 p1).bind fun x120 =>
  some (decide ((0 : Int) ≤ x120))
def post62 (r : Bool) (v : Value) (fs : List Fact) : Prop := v = .bool r ∧ fs = []
theorem en62 : Enters Tryz.prog 62 := ⟨_, Tryz.func62, by kernel_rfl, rfl⟩
theorem f62_spec {a0 : (List D_api_Sub)} {p1 : (D_api_Sub → Option Bool)} {w118 : Value} {w119 : Value} {r : Bool} (hr : m62 a0 p1 = some r) : Spec Tryz.prog 62 [w118, w119] [((Ty.slice ty66).fact a0 [w118]), (FnOk Tryz.prog w119 (sp101 p1))] (post62 r) := by
  refine spec_start (N := 9) Tryz.func62 (by kernel_rfl) rfl rfl rfl ?_
  intro g hS
  unfold m62 at hr
  refine at_seq ?_
  refine at_region ?_
  refine at_lt (lt_assign rfl) rfl ?_
  refine at_nil ?_
  refine at_then ?_
  refine at_seq ?_
  refine at_region ?_
  refine at_lt (lt_move rfl) rfl ?_
  refine at_lt (lt_move rfl) rfl ?_
  replace hr := obind hr
  obtain ⟨x120, h121, hr⟩ := hr
  refine at_hv rfl ?_
  refine hv_call0 [0, 1] (f102_spec h121) rfl rfl rfl rfl ?_
  rintro _ _ ⟨rfl, rfl⟩
  refine at_inv 0 rfl (fun l122 => ?_)
  replace l122 : (-9223372036854775808) ≤ x120 ∧ x120 ≤ 9223372036854775807 := l122
  refine at_lt (lt_geq rfl rfl) rfl ?_
  refine at_lt (lt_assign rfl) rfl ?_
  refine at_nil ?_
  refine at_then ?_
  refine at_ret ?_
  have hq := oinj hr
  clear hr
  subst hq
  exact at_return (.bool (decide ((0 : Int) ≤ x120))) [] hS Tryz.results62 (.cons (.tmp rfl) .nil) rfl rfl ⟨rfl, rfl⟩
/-! 154 bookplate/record.small -/
def m154 (a0 : UInt8) : Option Bool :=
  if 97 ≤ a0.toNat then
    some (decide ((a0.toNat : Int) ≤ 122))
  else
    some false
def post154 (r : Bool) (v : Value) (fs : List Fact) : Prop := v = .bool r ∧ fs = []
theorem en154 : Enters Tryz.prog 154 := ⟨_, Tryz.func154, by kernel_rfl, rfl⟩
theorem f154_spec {a0 : UInt8} {r : Bool} (hr : m154 a0 = some r) : Spec Tryz.prog 154 [.int .u8 (a0.toNat : Int)] [] (post154 r) := by
  refine spec_start (N := 9) Tryz.func154 (by kernel_rfl) rfl rfl rfl ?_
  intro g hS
  unfold m154 at hr
  refine at_seq ?_
  refine at_region ?_
  refine at_lt (lt_assign rfl) rfl ?_
  refine at_nil ?_
  refine at_then ?_
  refine at_seq ?_
  refine at_region ?_
  refine at_lt (lt_move rfl) rfl ?_
  refine at_lt (lt_geq rfl rfl) rfl ?_
  refine at_lt (lt_move rfl) rfl ?_
  by_cases h123 : 97 ≤ a0.toNat
  · replace hr := ipos h123 hr
    refine at_on rfl rfl (decide_eq_true (by omega)) ?_
    refine at_lt (lt_move rfl) rfl ?_
    refine at_on rfl rfl (decide_eq_true (by omega)) ?_
    refine at_lt (lt_leq rfl rfl) rfl ?_
    refine at_lt (lt_pick true rfl (decide_eq_true (by omega)) rfl) rfl ?_
    refine at_lt (lt_assign rfl) rfl ?_
    refine at_nil ?_
    refine at_then ?_
    refine at_ret ?_
    have hq := oinj hr
    clear hr
    subst hq
    exact at_return (.bool (decide ((a0.toNat : Int) ≤ 122))) [] hS Tryz.results154 (.cons (.tmp rfl) .nil) rfl rfl ⟨rfl, rfl⟩
  · replace hr := ineg h123 hr
    refine at_off rfl rfl (decide_eq_false (by omega)) rfl ?_
    refine at_off rfl rfl (decide_eq_false (by omega)) rfl ?_
    refine at_lt (lt_pick false rfl (decide_eq_false (by omega)) rfl) rfl ?_
    refine at_lt (lt_assign rfl) rfl ?_
    refine at_nil ?_
    refine at_then ?_
    refine at_ret ?_
    have hq := oinj hr
    clear hr
    subst hq
    exact at_return (.bool false) [] hS Tryz.results154 (.cons (.tmp rfl) .nil) rfl rfl ⟨rfl, rfl⟩
/-! 121 bookplate/record.code -/
def m121 (a0 : UInt8) : Option Bool :=
  (m117 a0).bind fun x124 =>
  if x124 = true then
    some true
  else
    (m154 a0).bind fun x127 =>
    some x127
def post121 (r : Bool) (v : Value) (fs : List Fact) : Prop := v = .bool r ∧ fs = []
theorem en121 : Enters Tryz.prog 121 := ⟨_, Tryz.func121, by kernel_rfl, rfl⟩
theorem f121_spec {a0 : UInt8} {r : Bool} (hr : m121 a0 = some r) : Spec Tryz.prog 121 [.int .u8 (a0.toNat : Int)] [] (post121 r) := by
  refine spec_start (N := 9) Tryz.func121 (by kernel_rfl) rfl rfl rfl ?_
  intro g hS
  unfold m121 at hr
  refine at_seq ?_
  refine at_region ?_
  refine at_lt (lt_assign rfl) rfl ?_
  refine at_nil ?_
  refine at_then ?_
  refine at_seq ?_
  refine at_region ?_
  refine at_lt (lt_move rfl) rfl ?_
  replace hr := obind hr
  obtain ⟨x124, h125, hr⟩ := hr
  refine at_hv rfl ?_
  refine hv_call0 [] (f117_spec h125) rfl rfl rfl rfl ?_
  rintro _ _ ⟨rfl, rfl⟩
  refine at_lt (lt_move rfl) rfl ?_
  by_cases h126 : x124 = true
  · replace hr := ipos h126 hr
    refine at_off rfl rfl h126 rfl ?_
    refine at_off rfl rfl h126 rfl ?_
    refine at_lt (lt_pick true rfl h126 rfl) rfl ?_
    refine at_lt (lt_assign rfl) rfl ?_
    refine at_nil ?_
    refine at_then ?_
    refine at_ret ?_
    have hq := oinj hr
    clear hr
    subst hq
    exact at_return (.bool true) [] hS Tryz.results121 (.cons (.tmp rfl) .nil) rfl rfl ⟨rfl, rfl⟩
  · replace hr := ineg h126 hr
    refine at_on rfl rfl (bf h126) ?_
    refine at_lt (lt_move rfl) rfl ?_
    replace hr := obind hr
    obtain ⟨x127, h128, hr⟩ := hr
    refine at_on rfl rfl (bf h126) ?_
    refine at_hv rfl ?_
    refine hv_call0 [] (f154_spec h128) rfl rfl rfl rfl ?_
    rintro _ _ ⟨rfl, rfl⟩
    refine at_lt (lt_pick false rfl (bf h126) rfl) rfl ?_
    refine at_lt (lt_assign rfl) rfl ?_
    refine at_nil ?_
    refine at_then ?_
    refine at_ret ?_
    have hq := oinj hr
    clear hr
    subst hq
    exact at_return (.bool x127) [] hS Tryz.results121 (.cons (.tmp rfl) .nil) rfl rfl ⟨rfl, rfl⟩
/-! 119 bookplate/record.indicator -/
def m119 (a0 : UInt8) : Option Bool :=
  if a0.toNat = 32 then
    some true
  else
    (m121 a0).bind fun x130 =>
    some x130
def post119 (r : Bool) (v : Value) (fs : List Fact) : Prop := v = .bool r ∧ fs = []
theorem en119 : Enters Tryz.prog 119 := ⟨_, Tryz.func119, by kernel_rfl, rfl⟩
theorem f119_spec {a0 : UInt8} {r : Bool} (hr : m119 a0 = some r) : Spec Tryz.prog 119 [.int .u8 (a0.toNat : Int)] [] (post119 r) := by
  refine spec_start (N := 9) Tryz.func119 (by kernel_rfl) rfl rfl rfl ?_
  intro g hS
  unfold m119 at hr
  refine at_seq ?_
  refine at_region ?_
  refine at_lt (lt_assign rfl) rfl ?_
  refine at_nil ?_
  refine at_then ?_
  refine at_seq ?_
  refine at_region ?_
  refine at_lt (lt_move rfl) rfl ?_
  refine at_lt (lt_eql rfl rfl) rfl ?_
  refine at_lt (lt_move rfl) rfl ?_
  by_cases h129 : a0.toNat = 32
  · replace hr := ipos h129 hr
    refine at_off rfl rfl (decide_eq_true (by omega)) rfl ?_
    refine at_off rfl rfl (decide_eq_true (by omega)) rfl ?_
    refine at_lt (lt_pick true rfl (decide_eq_true (by omega)) rfl) rfl ?_
    refine at_lt (lt_assign rfl) rfl ?_
    refine at_nil ?_
    refine at_then ?_
    refine at_ret ?_
    have hq := oinj hr
    clear hr
    subst hq
    exact at_return (.bool true) [] hS Tryz.results119 (.cons (.tmp rfl) .nil) rfl rfl ⟨rfl, rfl⟩
  · replace hr := ineg h129 hr
    refine at_on rfl rfl (decide_eq_false (by omega)) ?_
    refine at_lt (lt_move rfl) rfl ?_
    replace hr := obind hr
    obtain ⟨x130, h131, hr⟩ := hr
    refine at_on rfl rfl (decide_eq_false (by omega)) ?_
    refine at_hv rfl ?_
    refine hv_call0 [] (f121_spec h131) rfl rfl rfl rfl ?_
    rintro _ _ ⟨rfl, rfl⟩
    refine at_lt (lt_pick false rfl (decide_eq_false (by omega)) rfl) rfl ?_
    refine at_lt (lt_assign rfl) rfl ?_
    refine at_nil ?_
    refine at_then ?_
    refine at_ret ?_
    have hq := oinj hr
    clear hr
    subst hq
    exact at_return (.bool x130) [] hS Tryz.results119 (.cons (.tmp rfl) .nil) rfl rfl ⟨rfl, rfl⟩
/-! 185 unicode/utf8.decodeRuneInStringSlow -/
def m185 (a0 : Str) : Option (Int × Int) :=
  if a0.length < 1 then
    some (65533, 0)
  else
    none
def post185 (r : (Int × Int)) (v : Value) (fs : List Fact) : Prop := v = .tuple #[.int .i32 r.1, .int .i64 r.2] ∧ fs = [((Ty.int .i32).fact r.1 [.int .i32 r.1]), ((Ty.int .i64).fact r.2 [.int .i64 r.2])]
theorem en185 : Enters Tryz.prog 185 := ⟨_, Tryz.func185, by kernel_rfl, rfl⟩
theorem f185_spec {a0 : Str} {r : (Int × Int)} (hr : m185 a0 = some r) : Spec Tryz.prog 185 [str a0] [(Ty.str.fact a0 [str a0])] (post185 r) := by
  refine spec_start (N := 117) Tryz.func185 (by kernel_rfl) rfl rfl rfl ?_
  intro g hS
  unfold m185 at hr
  refine at_seq ?_
  refine at_region ?_
  refine at_lt (lt_assign rfl) rfl ?_
  refine at_lt (lt_assign rfl) rfl ?_
  refine at_nil ?_
  refine at_then ?_
  refine at_seq ?_
  refine at_region ?_
  refine at_lt (lt_move rfl) rfl ?_
  refine at_inv 0 rfl (fun l132 => ?_)
  replace l132 : a0.length ≤ 9223372036854775807 := l132
  refine at_lt (lt_slen rfl und9) rfl ?_
  refine at_lt (lt_assign rfl) rfl ?_
  refine at_nil ?_
  refine at_then ?_
  refine at_seq ?_
  refine at_seq ?_
  refine at_region ?_
  refine at_lt (lt_move rfl) rfl ?_
  refine at_lt (lt_lss rfl rfl) rfl ?_
  refine at_nil ?_
  refine at_then ?_
  by_cases h133 : a0.length < 1
  · replace hr := ipos h133 hr
    refine at_true rfl (decide_eq_true (by omega)) ?_
    refine at_seq ?_
    refine at_region ?_
    refine at_lt (lt_assign rfl) rfl ?_
    refine at_lt (lt_assign rfl) rfl ?_
    refine at_nil ?_
    refine at_then ?_
    refine at_ret ?_
    have hq := oinj hr
    clear hr
    subst hq
    refine at_then_ret ?_
    refine at_int .i32 65533 (by simp only [lo, hi]; omega) ?_
    refine at_int .i64 0 (by simp only [lo, hi]; omega) ?_
    exact at_return (.tuple #[.int .i32 65533, .int .i64 0]) [1, 0] hS Tryz.results185 (.cons (.tmp rfl) (.cons (.tmp rfl) .nil)) rfl rfl ⟨rfl, rfl⟩
  · replace hr := ineg h133 hr
    cases hr
/-! 171 unicode/utf8.DecodeRuneInString -/
def m171 (a0 : Str) : Option (Int × Int) :=
  if a0 = ([] : Str) then
    (m185 a0).bind fun x137 =>
    some (x137.1, x137.2)
  else
    (a0[0]?).bind fun c141 =>
    if c141.toNat < 128 then
      (a0[0]?).bind fun c144 =>
      some ((c144.toNat : Int), 1)
    else
      (m185 a0).bind fun x146 =>
      some (x146.1, x146.2)
def post171 (r : (Int × Int)) (v : Value) (fs : List Fact) : Prop := v = .tuple #[.int .i32 r.1, .int .i64 r.2] ∧ fs = [((Ty.int .i32).fact r.1 [.int .i32 r.1]), ((Ty.int .i64).fact r.2 [.int .i64 r.2])]
theorem en171 : Enters Tryz.prog 171 := ⟨_, Tryz.func171, by kernel_rfl, rfl⟩
theorem f171_spec {a0 : Str} {r : (Int × Int)} (hr : m171 a0 = some r) : Spec Tryz.prog 171 [str a0] [(Ty.str.fact a0 [str a0])] (post171 r) := by
  refine spec_start (N := 19) Tryz.func171 (by kernel_rfl) rfl rfl rfl ?_
  intro g hS
  unfold m171 at hr
  refine at_seq ?_
  refine at_region ?_
  refine at_lt (lt_assign rfl) rfl ?_
  refine at_lt (lt_assign rfl) rfl ?_
  refine at_nil ?_
  refine at_then ?_
  refine at_seq ?_
  refine at_seq ?_
  refine at_region ?_
  refine at_lt (lt_move rfl) rfl ?_
  refine at_lt (lt_sneq rfl rfl) rfl ?_
  refine at_lt (lt_move rfl) rfl ?_
  by_cases h136 : a0 = ([] : Str)
  · replace hr := ipos h136 hr
    refine at_off rfl rfl (nt (decide_eq_true h136)) rfl ?_
    refine at_off rfl rfl (nt (decide_eq_true h136)) rfl ?_
    refine at_off rfl rfl (nt (decide_eq_true h136)) rfl ?_
    refine at_lt (lt_pick false rfl (nt (decide_eq_true h136)) rfl) rfl ?_
    refine at_nil ?_
    refine at_then ?_
    refine at_false rfl rfl ?_
    refine at_region ?_
    refine at_lt (lt_move rfl) rfl ?_
    replace hr := obind hr
    obtain ⟨x137, h138, hr⟩ := hr
    refine at_hv rfl ?_
    refine hv_call0 [0] (f185_spec h138) rfl rfl rfl rfl ?_
    rintro _ _ ⟨rfl, rfl⟩
    refine at_inv 0 rfl (fun l139 => ?_)
    replace l139 : (-2147483648) ≤ x137.1 ∧ x137.1 ≤ 2147483647 := l139
    refine at_inv 1 rfl (fun l140 => ?_)
    replace l140 : (-9223372036854775808) ≤ x137.2 ∧ x137.2 ≤ 9223372036854775807 := l140
    refine at_lt (lt_move rfl) rfl ?_
    refine at_lt (lt_extract rfl rfl) rfl ?_
    refine at_lt (lt_extract rfl rfl) rfl ?_
    refine at_lt (lt_assign rfl) rfl ?_
    refine at_lt (lt_assign rfl) rfl ?_
    refine at_nil ?_
    refine at_then ?_
    refine at_ret ?_
    have hq := oinj hr
    clear hr
    subst hq
    exact at_return (.tuple #[.int .i32 x137.1, .int .i64 x137.2]) [0, 1] hS Tryz.results171 (.cons (.tmp rfl) (.cons (.tmp rfl) .nil)) rfl rfl ⟨rfl, rfl⟩
  · replace hr := ineg h136 hr
    refine at_on rfl rfl (nf (decide_eq_false h136)) ?_
    refine at_lt (lt_move rfl) rfl ?_
    replace hr := obind hr
    obtain ⟨c141, h142, hr⟩ := hr
    have := (List.getElem?_eq_some_iff.1 h142).1
    have := c141.toNat_lt
    refine at_on rfl rfl (nf (decide_eq_false h136)) ?_
    refine at_lt (lt_sidx rfl rfl und9 (by omega) h142) rfl ?_
    refine at_on rfl rfl (nf (decide_eq_false h136)) ?_
    refine at_lt (lt_lss rfl rfl) rfl ?_
    refine at_lt (lt_pick true rfl (nf (decide_eq_false h136)) rfl) rfl ?_
    refine at_nil ?_
    refine at_then ?_
    by_cases h143 : c141.toNat < 128
    · replace hr := ipos h143 hr
      refine at_true rfl (decide_eq_true (by omega)) ?_
      refine at_seq ?_
      refine at_region ?_
      refine at_lt (lt_move rfl) rfl ?_
      replace hr := obind hr
      obtain ⟨c144, h145, hr⟩ := hr
      have := (List.getElem?_eq_some_iff.1 h145).1
      have := c144.toNat_lt
      refine at_lt (lt_sidx rfl rfl und9 (by omega) h145) rfl ?_
      refine at_lt (lt_convint rfl (iso und5) und21 (u8_in_i32 c144)) rfl ?_
      refine at_lt (lt_assign rfl) rfl ?_
      refine at_lt (lt_assign rfl) rfl ?_
      refine at_nil ?_
      refine at_then ?_
      refine at_ret ?_
      have hq := oinj hr
      clear hr
      subst hq
      refine at_then_ret ?_
      refine at_int .i32 (c144.toNat : Int) (u8_in_i32 c144) ?_
      refine at_int .i64 1 (by simp only [lo, hi]; omega) ?_
      exact at_return (.tuple #[.int .i32 (c144.toNat : Int), .int .i64 1]) [1, 0] hS Tryz.results171 (.cons (.tmp rfl) (.cons (.tmp rfl) .nil)) rfl rfl ⟨rfl, rfl⟩
    · replace hr := ineg h143 hr
      refine at_false rfl (decide_eq_false (by omega)) ?_
      refine at_region ?_
      refine at_lt (lt_move rfl) rfl ?_
      replace hr := obind hr
      obtain ⟨x146, h147, hr⟩ := hr
      refine at_hv rfl ?_
      refine hv_call0 [0] (f185_spec h147) rfl rfl rfl rfl ?_
      rintro _ _ ⟨rfl, rfl⟩
      refine at_inv 0 rfl (fun l148 => ?_)
      replace l148 : (-2147483648) ≤ x146.1 ∧ x146.1 ≤ 2147483647 := l148
      refine at_inv 1 rfl (fun l149 => ?_)
      replace l149 : (-9223372036854775808) ≤ x146.2 ∧ x146.2 ≤ 9223372036854775807 := l149
      refine at_lt (lt_move rfl) rfl ?_
      refine at_lt (lt_extract rfl rfl) rfl ?_
      refine at_lt (lt_extract rfl rfl) rfl ?_
      refine at_lt (lt_assign rfl) rfl ?_
      refine at_lt (lt_assign rfl) rfl ?_
      refine at_nil ?_
      refine at_then ?_
      refine at_ret ?_
      have hq := oinj hr
      clear hr
      subst hq
      exact at_return (.tuple #[.int .i32 x146.1, .int .i64 x146.2]) [0, 1] hS Tryz.results171 (.cons (.tmp rfl) (.cons (.tmp rfl) .nil)) rfl rfl ⟨rfl, rfl⟩
/-! 192 bookplate/repertoire.from -/
def m192 (a0 : Int) (a1 : Int) (a2 : Int) : Option Bool :=
  if a1 ≤ a0 then
    some (decide (a0 ≤ a2))
  else
    some false
def post192 (r : Bool) (v : Value) (fs : List Fact) : Prop := v = .bool r ∧ fs = []
theorem en192 : Enters Tryz.prog 192 := ⟨_, Tryz.func192, by kernel_rfl, rfl⟩
theorem f192_spec {a0 : Int} {a1 : Int} {a2 : Int} {r : Bool} (hr : m192 a0 a1 a2 = some r) : Spec Tryz.prog 192 [.int .i64 a0, .int .i64 a1, .int .i64 a2] [((Ty.int .i64).fact a0 [.int .i64 a0]), ((Ty.int .i64).fact a1 [.int .i64 a1]), ((Ty.int .i64).fact a2 [.int .i64 a2])] (post192 r) := by
  refine spec_start (N := 15) Tryz.func192 (by kernel_rfl) rfl rfl rfl ?_
  intro g hS
  unfold m192 at hr
  refine at_inv 0 rfl (fun l150 => ?_)
  replace l150 : (-9223372036854775808) ≤ a0 ∧ a0 ≤ 9223372036854775807 := l150
  refine at_inv 1 rfl (fun l151 => ?_)
  replace l151 : (-9223372036854775808) ≤ a1 ∧ a1 ≤ 9223372036854775807 := l151
  refine at_inv 2 rfl (fun l152 => ?_)
  replace l152 : (-9223372036854775808) ≤ a2 ∧ a2 ≤ 9223372036854775807 := l152
  refine at_seq ?_
  refine at_region ?_
  refine at_lt (lt_assign rfl) rfl ?_
  refine at_nil ?_
  refine at_then ?_
  refine at_seq ?_
  refine at_region ?_
  refine at_lt (lt_move rfl) rfl ?_
  refine at_lt (lt_move rfl) rfl ?_
  refine at_lt (lt_geq rfl rfl) rfl ?_
  refine at_lt (lt_move rfl) rfl ?_
  by_cases h153 : a1 ≤ a0
  · replace hr := ipos h153 hr
    refine at_on rfl rfl (decide_eq_true (by first | exact h153 | omega)) ?_
    refine at_lt (lt_move rfl) rfl ?_
    refine at_on rfl rfl (decide_eq_true (by first | exact h153 | omega)) ?_
    refine at_lt (lt_move rfl) rfl ?_
    refine at_on rfl rfl (decide_eq_true (by first | exact h153 | omega)) ?_
    refine at_lt (lt_leq rfl rfl) rfl ?_
    refine at_lt (lt_pick true rfl (decide_eq_true (by first | exact h153 | omega)) rfl) rfl ?_
    refine at_lt (lt_assign rfl) rfl ?_
    refine at_nil ?_
    refine at_then ?_
    refine at_ret ?_
    have hq := oinj hr
    clear hr
    subst hq
    exact at_return (.bool (decide (a0 ≤ a2))) [] hS Tryz.results192 (.cons (.tmp rfl) .nil) rfl rfl ⟨rfl, rfl⟩
  · replace hr := ineg h153 hr
    refine at_off rfl rfl (decide_eq_false (by first | exact h153 | omega)) rfl ?_
    refine at_off rfl rfl (decide_eq_false (by first | exact h153 | omega)) rfl ?_
    refine at_off rfl rfl (decide_eq_false (by first | exact h153 | omega)) rfl ?_
    refine at_lt (lt_pick false rfl (decide_eq_false (by first | exact h153 | omega)) rfl) rfl ?_
    refine at_lt (lt_assign rfl) rfl ?_
    refine at_nil ?_
    refine at_then ?_
    refine at_ret ?_
    have hq := oinj hr
    clear hr
    subst hq
    exact at_return (.bool false) [] hS Tryz.results192 (.cons (.tmp rfl) .nil) rfl rfl ⟨rfl, rfl⟩
/-! 168 internal/bytealg.IndexByteString -/
def m168 (a0 : Str) (a1 : UInt8) : Option Int := if a0.length ≤ 9223372036854775807 then some (Lib.indexByte a0 a1) else none
theorem f168_specX {a0 : Str} {a1 : UInt8} {r : Int} (hr : m168 a0 a1 = some r) : SpecX Tryz.prog 168 [str a0, .int .u8 (a1.toNat : Int)] (postInt r) := by
  unfold m168 at hr
  obtain ⟨hb, hr⟩ := imust hr
  obtain rfl := oinj hr
  exact ext_indexByte Tryz.func168 (by kernel_rfl) (by kernel_rfl) rfl rfl hb

/-! 145 internal/stringslite.IndexByte -/
def m145 (a0 : Str) (a1 : UInt8) : Option Int :=
  (m168 a0 a1).bind fun x154 =>
  some x154
def post145 (r : Int) (v : Value) (fs : List Fact) : Prop := v = .int .i64 r ∧ fs = [((Ty.int .i64).fact r [.int .i64 r])]
theorem en145 : Enters Tryz.prog 145 := ⟨_, Tryz.func145, by kernel_rfl, rfl⟩
theorem f145_spec {a0 : Str} {a1 : UInt8} {r : Int} (hr : m145 a0 a1 = some r) : Spec Tryz.prog 145 [str a0, .int .u8 (a1.toNat : Int)] [(Ty.str.fact a0 [str a0])] (post145 r) := by
  refine spec_start (N := 8) Tryz.func145 (by kernel_rfl) rfl rfl rfl ?_
  intro g hS
  unfold m145 at hr
  refine at_seq ?_
  refine at_region ?_
  refine at_lt (lt_assign rfl) rfl ?_
  refine at_nil ?_
  refine at_then ?_
  refine at_seq ?_
  refine at_region ?_
  refine at_lt (lt_move rfl) rfl ?_
  refine at_lt (lt_move rfl) rfl ?_
  replace hr := obind hr
  obtain ⟨x154, h155, hr⟩ := hr
  refine at_hv rfl ?_
  refine hv_callx (f168_specX h155) rfl rfl rfl ?_
  rintro _ _ ⟨rfl, rfl⟩
  refine at_inv 0 rfl (fun l156 => ?_)
  replace l156 : (-9223372036854775808) ≤ x154 ∧ x154 ≤ 9223372036854775807 := l156
  refine at_lt (lt_assign rfl) rfl ?_
  refine at_nil ?_
  refine at_then ?_
  refine at_ret ?_
  have hq := oinj hr
  clear hr
  subst hq
  exact at_return (.int .i64 x154) [0] hS Tryz.results145 (.cons (.tmp rfl) .nil) rfl rfl ⟨rfl, rfl⟩
/-! 197 strings.IndexByte -/
def m197 (a0 : Str) (a1 : UInt8) : Option Int :=
  (m145 a0 a1).bind fun x157 =>
  some x157
def post197 (r : Int) (v : Value) (fs : List Fact) : Prop := v = .int .i64 r ∧ fs = [((Ty.int .i64).fact r [.int .i64 r])]
theorem en197 : Enters Tryz.prog 197 := ⟨_, Tryz.func197, by kernel_rfl, rfl⟩
theorem f197_spec {a0 : Str} {a1 : UInt8} {r : Int} (hr : m197 a0 a1 = some r) : Spec Tryz.prog 197 [str a0, .int .u8 (a1.toNat : Int)] [(Ty.str.fact a0 [str a0])] (post197 r) := by
  refine spec_start (N := 8) Tryz.func197 (by kernel_rfl) rfl rfl rfl ?_
  intro g hS
  unfold m197 at hr
  refine at_seq ?_
  refine at_region ?_
  refine at_lt (lt_assign rfl) rfl ?_
  refine at_nil ?_
  refine at_then ?_
  refine at_seq ?_
  refine at_region ?_
  refine at_lt (lt_move rfl) rfl ?_
  refine at_lt (lt_move rfl) rfl ?_
  replace hr := obind hr
  obtain ⟨x157, h158, hr⟩ := hr
  refine at_hv rfl ?_
  refine hv_call0 [0] (f145_spec h158) rfl rfl rfl rfl ?_
  rintro _ _ ⟨rfl, rfl⟩
  refine at_inv 0 rfl (fun l159 => ?_)
  replace l159 : (-9223372036854775808) ≤ x157 ∧ x157 ≤ 9223372036854775807 := l159
  refine at_lt (lt_assign rfl) rfl ?_
  refine at_nil ?_
  refine at_then ?_
  refine at_ret ?_
  have hq := oinj hr
  clear hr
  subst hq
  exact at_return (.int .i64 x157) [0] hS Tryz.results197 (.cons (.tmp rfl) .nil) rfl rfl ⟨rfl, rfl⟩
/-! 198 unicode/utf8.ValidRune -/
def m198 (a0 : Int) : Option Bool :=
  Option.bind (α := Bool) (
    if (0 : Int) ≤ a0 then
      some (decide (a0 < 55296))
    else
      some false
  ) fun x161 =>
  if x161 = true then
    some true
  else
    Option.bind (α := Bool) (
      if (57343 : Int) < a0 then
        some (decide (a0 ≤ 1114111))
      else
        some false
    ) fun x165 =>
    if x165 = true then
      some true
    else
      some false
def post198 (r : Bool) (v : Value) (fs : List Fact) : Prop := v = .bool r ∧ fs = []
theorem en198 : Enters Tryz.prog 198 := ⟨_, Tryz.func198, by kernel_rfl, rfl⟩
theorem f198_spec {a0 : Int} {r : Bool} (hr : m198 a0 = some r) : Spec Tryz.prog 198 [.int .i32 a0] [((Ty.int .i32).fact a0 [.int .i32 a0])] (post198 r) := by
  refine spec_start (N := 17) Tryz.func198 (by kernel_rfl) rfl rfl rfl ?_
  intro g hS
  unfold m198 at hr
  refine at_inv 0 rfl (fun l160 => ?_)
  replace l160 : (-2147483648) ≤ a0 ∧ a0 ≤ 2147483647 := l160
  refine at_seq ?_
  refine at_region ?_
  refine at_lt (lt_assign rfl) rfl ?_
  refine at_nil ?_
  refine at_then ?_
  refine at_seq ?_
  refine at_block ?_
  refine at_seq ?_
  replace hr := obind hr
  obtain ⟨x161, hc162, hr⟩ := hr
  refine at_cut (V := Unit) (fun e => (⟨[(0, .int .i32 a0), (3, .bool x161)], [], [], [((Ty.int .i32).fact a0 [.int .i32 a0])]⟩ : St)) ?_ ?_
  · clear hr
    have hr := hc162
    clear hc162
    refine at_region ?_
    refine at_lt (lt_move rfl) rfl ?_
    refine at_lt (lt_leq rfl rfl) rfl ?_
    refine at_lt (lt_move rfl) rfl ?_
    by_cases h163 : (0 : Int) ≤ a0
    · replace hr := ipos h163 hr
      refine at_on rfl rfl (decide_eq_true (by first | exact h163 | omega)) ?_
      refine at_lt (lt_move rfl) rfl ?_
      refine at_on rfl rfl (decide_eq_true (by first | exact h163 | omega)) ?_
      refine at_lt (lt_lss rfl rfl) rfl ?_
      refine at_lt (lt_pick true rfl (decide_eq_true (by first | exact h163 | omega)) rfl) rfl ?_
      refine at_lt (lt_assign rfl) rfl ?_
      refine at_nil ?_
      have hq := oinj hr
      clear hr
      subst hq
      exact at_leaf () ⟨⟨rfl, ⟨rfl, trivial⟩⟩, ⟨[], rfl⟩, ⟨[], rfl⟩, ⟨[0], rfl⟩⟩
    · replace hr := ineg h163 hr
      refine at_off rfl rfl (decide_eq_false (by first | exact h163 | omega)) rfl ?_
      refine at_off rfl rfl (decide_eq_false (by first | exact h163 | omega)) rfl ?_
      refine at_lt (lt_pick false rfl (decide_eq_false (by first | exact h163 | omega)) rfl) rfl ?_
      refine at_lt (lt_assign rfl) rfl ?_
      refine at_nil ?_
      have hq := oinj hr
      clear hr
      subst hq
      exact at_leaf () ⟨⟨rfl, ⟨rfl, trivial⟩⟩, ⟨[], rfl⟩, ⟨[], rfl⟩, ⟨[0], rfl⟩⟩
  · clear hc162
    intro _
    change At _ _ (⟨[(0, .int .i32 a0), (3, .bool x161)], [], [], [((Ty.int .i32).fact a0 [.int .i32 a0])]⟩ : St) _
    refine at_then ?_
    by_cases h164 : x161 = true
    · replace hr := ipos h164 hr
      refine at_true rfl h164 ?_
      refine at_seq ?_
      refine at_region ?_
      refine at_lt (lt_assign rfl) rfl ?_
      refine at_nil ?_
      refine at_then ?_
      refine at_ret ?_
      have hq := oinj hr
      clear hr
      subst hq
      refine at_in_ret ?_
      refine at_then_ret ?_
      exact at_return (.bool true) [] hS Tryz.results198 (.cons (.tmp rfl) .nil) rfl rfl ⟨rfl, rfl⟩
    · replace hr := ineg h164 hr
      refine at_false rfl (bf h164) ?_
      refine at_seq ?_
      replace hr := obind hr
      obtain ⟨x165, hc166, hr⟩ := hr
      refine at_cut (V := Unit) (fun e => (⟨[(10, .bool x165)], [], [], []⟩ : St)) ?_ ?_
      · clear hr
        have hr := hc166
        clear hc166
        refine at_region ?_
        refine at_lt (lt_move rfl) rfl ?_
        refine at_lt (lt_lss rfl rfl) rfl ?_
        refine at_lt (lt_move rfl) rfl ?_
        by_cases h167 : (57343 : Int) < a0
        · replace hr := ipos h167 hr
          refine at_on rfl rfl (decide_eq_true (by first | exact h167 | omega)) ?_
          refine at_lt (lt_move rfl) rfl ?_
          refine at_on rfl rfl (decide_eq_true (by first | exact h167 | omega)) ?_
          refine at_lt (lt_leq rfl rfl) rfl ?_
          refine at_lt (lt_pick true rfl (decide_eq_true (by first | exact h167 | omega)) rfl) rfl ?_
          refine at_lt (lt_assign rfl) rfl ?_
          refine at_nil ?_
          have hq := oinj hr
          clear hr
          subst hq
          exact at_leaf () ⟨⟨rfl, trivial⟩, ⟨[], rfl⟩, ⟨[], rfl⟩, ⟨[], rfl⟩⟩
        · replace hr := ineg h167 hr
          refine at_off rfl rfl (decide_eq_false (by first | exact h167 | omega)) rfl ?_
          refine at_off rfl rfl (decide_eq_false (by first | exact h167 | omega)) rfl ?_
          refine at_lt (lt_pick false rfl (decide_eq_false (by first | exact h167 | omega)) rfl) rfl ?_
          refine at_lt (lt_assign rfl) rfl ?_
          refine at_nil ?_
          have hq := oinj hr
          clear hr
          subst hq
          exact at_leaf () ⟨⟨rfl, trivial⟩, ⟨[], rfl⟩, ⟨[], rfl⟩, ⟨[], rfl⟩⟩
      · clear hc166
        intro _
        change At _ _ (⟨[(10, .bool x165)], [], [], []⟩ : St) _
        refine at_then ?_
        by_cases h168 : x165 = true
        · replace hr := ipos h168 hr
          refine at_true rfl h168 ?_
          refine at_seq ?_
          refine at_region ?_
          refine at_lt (lt_assign rfl) rfl ?_
          refine at_nil ?_
          refine at_then ?_
          refine at_ret ?_
          have hq := oinj hr
          clear hr
          subst hq
          refine at_in_ret ?_
          refine at_then_ret ?_
          exact at_return (.bool true) [] hS Tryz.results198 (.cons (.tmp rfl) .nil) rfl rfl ⟨rfl, rfl⟩
        · replace hr := ineg h168 hr
          refine at_false rfl (bf h168) ?_
          refine at_skip ?_
          refine at_in ?_
          refine at_then ?_
          refine at_seq ?_
          refine at_region ?_
          refine at_lt (lt_assign rfl) rfl ?_
          refine at_nil ?_
          refine at_then ?_
          refine at_ret ?_
          have hq := oinj hr
          clear hr
          subst hq
          exact at_return (.bool false) [] hS Tryz.results198 (.cons (.tmp rfl) .nil) rfl rfl ⟨rfl, rfl⟩
/-! 193 bookplate/repertoire.letter -/
def m193 (a0 : Int) : Option Int :=
  (m192 a0 65 90).bind fun x174 =>
  if x174 = true then
    some 1
  else
    (m192 a0 97 122).bind fun x177 =>
    if x177 = true then
      some 1
    else
      if a0 = 383 then
        some 1
      else
        (m192 a0 64257 64258).bind fun x181 =>
        if x181 = true then
          some 1
        else
          none
def post193 (r : Int) (v : Value) (fs : List Fact) : Prop := v = .int .i64 r ∧ fs = [((Ty.int .i64).fact r [.int .i64 r])]
theorem en193 : Enters Tryz.prog 193 := ⟨_, Tryz.func193, by kernel_rfl, rfl⟩
theorem f193_spec {a0 : Int} {r : Int} (hr : m193 a0 = some r) : Spec Tryz.prog 193 [.int .i64 a0] [((Ty.int .i64).fact a0 [.int .i64 a0])] (post193 r) := by
  refine spec_start (N := 47) Tryz.func193 (by kernel_rfl) rfl rfl rfl ?_
  intro g hS
  unfold m193 at hr
  refine at_inv 0 rfl (fun l173 => ?_)
  replace l173 : (-9223372036854775808) ≤ a0 ∧ a0 ≤ 9223372036854775807 := l173
  refine at_seq ?_
  refine at_region ?_
  refine at_lt (lt_assign rfl) rfl ?_
  refine at_nil ?_
  refine at_then ?_
  refine at_seq ?_
  refine at_block ?_
  refine at_seq ?_
  refine at_region ?_
  refine at_lt (lt_move rfl) rfl ?_
  replace hr := obind hr
  obtain ⟨x174, h175, hr⟩ := hr
  refine at_int .i64 65 (by simp only [lo, hi]; omega) ?_
  refine at_int .i64 90 (by simp only [lo, hi]; omega) ?_
  refine at_hv rfl ?_
  refine hv_call0 [2, 1, 0] (f192_spec h175) rfl rfl rfl rfl ?_
  rintro _ _ ⟨rfl, rfl⟩
  refine at_lt (lt_move rfl) rfl ?_
  by_cases h176 : x174 = true
  · replace hr := ipos h176 hr
    refine at_off rfl rfl h176 rfl ?_
    refine at_off rfl rfl h176 rfl ?_
    refine at_lt (lt_pick true rfl h176 rfl) rfl ?_
    refine at_lt (lt_move rfl) rfl ?_
    refine at_off rfl rfl rfl rfl ?_
    refine at_off rfl rfl rfl rfl ?_
    refine at_lt (lt_pick true rfl rfl rfl) rfl ?_
    refine at_lt (lt_move rfl) rfl ?_
    refine at_off rfl rfl rfl rfl ?_
    refine at_off rfl rfl rfl rfl ?_
    refine at_lt (lt_pick true rfl rfl rfl) rfl ?_
    refine at_lt (lt_move rfl) rfl ?_
    refine at_off rfl rfl rfl rfl ?_
    refine at_off rfl rfl rfl rfl ?_
    refine at_off rfl rfl rfl rfl ?_
    refine at_lt (lt_pick true rfl rfl rfl) rfl ?_
    refine at_lt (lt_assign rfl) rfl ?_
    refine at_nil ?_
    refine at_then ?_
    refine at_true rfl rfl ?_
    refine at_seq ?_
    refine at_region ?_
    refine at_lt (lt_assign rfl) rfl ?_
    refine at_nil ?_
    refine at_then ?_
    refine at_ret ?_
    have hq := oinj hr
    clear hr
    subst hq
    refine at_in_ret ?_
    refine at_then_ret ?_
    refine at_int .i64 1 (by simp only [lo, hi]; omega) ?_
    exact at_return (.int .i64 1) [0] hS Tryz.results193 (.cons (.tmp rfl) .nil) rfl rfl ⟨rfl, rfl⟩
  · replace hr := ineg h176 hr
    refine at_on rfl rfl (bf h176) ?_
    refine at_lt (lt_move rfl) rfl ?_
    replace hr := obind hr
    obtain ⟨x177, h178, hr⟩ := hr
    refine at_int .i64 97 (by simp only [lo, hi]; omega) ?_
    refine at_int .i64 122 (by simp only [lo, hi]; omega) ?_
    refine at_on rfl rfl (bf h176) ?_
    refine at_hv rfl ?_
    refine hv_call0 [4, 1, 0] (f192_spec h178) rfl rfl rfl rfl ?_
    rintro _ _ ⟨rfl, rfl⟩
    refine at_lt (lt_pick false rfl (bf h176) rfl) rfl ?_
    refine at_lt (lt_move rfl) rfl ?_
    by_cases h179 : x177 = true
    · replace hr := ipos h179 hr
      refine at_off rfl rfl h179 rfl ?_
      refine at_off rfl rfl h179 rfl ?_
      refine at_lt (lt_pick true rfl h179 rfl) rfl ?_
      refine at_lt (lt_move rfl) rfl ?_
      refine at_off rfl rfl rfl rfl ?_
      refine at_off rfl rfl rfl rfl ?_
      refine at_lt (lt_pick true rfl rfl rfl) rfl ?_
      refine at_lt (lt_move rfl) rfl ?_
      refine at_off rfl rfl rfl rfl ?_
      refine at_off rfl rfl rfl rfl ?_
      refine at_off rfl rfl rfl rfl ?_
      refine at_lt (lt_pick true rfl rfl rfl) rfl ?_
      refine at_lt (lt_assign rfl) rfl ?_
      refine at_nil ?_
      refine at_then ?_
      refine at_true rfl rfl ?_
      refine at_seq ?_
      refine at_region ?_
      refine at_lt (lt_assign rfl) rfl ?_
      refine at_nil ?_
      refine at_then ?_
      refine at_ret ?_
      have hq := oinj hr
      clear hr
      subst hq
      refine at_in_ret ?_
      refine at_then_ret ?_
      refine at_int .i64 1 (by simp only [lo, hi]; omega) ?_
      exact at_return (.int .i64 1) [0] hS Tryz.results193 (.cons (.tmp rfl) .nil) rfl rfl ⟨rfl, rfl⟩
    · replace hr := ineg h179 hr
      refine at_on rfl rfl (bf h179) ?_
      refine at_lt (lt_move rfl) rfl ?_
      refine at_on rfl rfl (bf h179) ?_
      refine at_lt (lt_eql rfl rfl) rfl ?_
      refine at_lt (lt_pick false rfl (bf h179) rfl) rfl ?_
      refine at_lt (lt_move rfl) rfl ?_
      by_cases h180 : a0 = 383
      · replace hr := ipos h180 hr
        refine at_off rfl rfl (decide_eq_true (by first | exact h180 | omega)) rfl ?_
        refine at_off rfl rfl (decide_eq_true (by first | exact h180 | omega)) rfl ?_
        refine at_lt (lt_pick true rfl (decide_eq_true (by first | exact h180 | omega)) rfl) rfl ?_
        refine at_lt (lt_move rfl) rfl ?_
        refine at_off rfl rfl rfl rfl ?_
        refine at_off rfl rfl rfl rfl ?_
        refine at_off rfl rfl rfl rfl ?_
        refine at_lt (lt_pick true rfl rfl rfl) rfl ?_
        refine at_lt (lt_assign rfl) rfl ?_
        refine at_nil ?_
        refine at_then ?_
        refine at_true rfl rfl ?_
        refine at_seq ?_
        refine at_region ?_
        refine at_lt (lt_assign rfl) rfl ?_
        refine at_nil ?_
        refine at_then ?_
        refine at_ret ?_
        have hq := oinj hr
        clear hr
        subst hq
        refine at_in_ret ?_
        refine at_then_ret ?_
        refine at_int .i64 1 (by simp only [lo, hi]; omega) ?_
        exact at_return (.int .i64 1) [0] hS Tryz.results193 (.cons (.tmp rfl) .nil) rfl rfl ⟨rfl, rfl⟩
      · replace hr := ineg h180 hr
        refine at_on rfl rfl (decide_eq_false (by first | exact h180 | omega)) ?_
        refine at_lt (lt_move rfl) rfl ?_
        replace hr := obind hr
        obtain ⟨x181, h182, hr⟩ := hr
        refine at_int .i64 64257 (by simp only [lo, hi]; omega) ?_
        refine at_int .i64 64258 (by simp only [lo, hi]; omega) ?_
        refine at_on rfl rfl (decide_eq_false (by first | exact h180 | omega)) ?_
        refine at_hv rfl ?_
        refine hv_call0 [6, 1, 0] (f192_spec h182) rfl rfl rfl rfl ?_
        rintro _ _ ⟨rfl, rfl⟩
        refine at_lt (lt_pick false rfl (decide_eq_false (by first | exact h180 | omega)) rfl) rfl ?_
        refine at_lt (lt_move rfl) rfl ?_
        by_cases h183 : x181 = true
        · replace hr := ipos h183 hr
          refine at_off rfl rfl h183 rfl ?_
          refine at_off rfl rfl h183 rfl ?_
          refine at_off rfl rfl h183 rfl ?_
          refine at_lt (lt_pick true rfl h183 rfl) rfl ?_
          refine at_lt (lt_assign rfl) rfl ?_
          refine at_nil ?_
          refine at_then ?_
          refine at_true rfl rfl ?_
          refine at_seq ?_
          refine at_region ?_
          refine at_lt (lt_assign rfl) rfl ?_
          refine at_nil ?_
          refine at_then ?_
          refine at_ret ?_
          have hq := oinj hr
          clear hr
          subst hq
          refine at_in_ret ?_
          refine at_then_ret ?_
          refine at_int .i64 1 (by simp only [lo, hi]; omega) ?_
          exact at_return (.int .i64 1) [0] hS Tryz.results193 (.cons (.tmp rfl) .nil) rfl rfl ⟨rfl, rfl⟩
        · replace hr := ineg h183 hr
          cases hr
/-! 194 bookplate/repertoire.mark -/
def m194 (a0 : Int) : Option Bool :=
  Option.bind (α := Bool) (
    if a0 = 773 then
      some (decide (a0 = 773))
    else
      some (decide (a0 = 777))
  ) fun x187 =>
  if x187 = true then
    some false
  else
    Option.bind (α := Bool) (
      if a0 = 803 then
        some (decide (a0 = 803))
      else
        if a0 = 807 then
          some (decide (a0 = 807))
        else
          some (decide (a0 = 808))
    ) fun x191 =>
    if x191 = true then
      some true
    else
      (m192 a0 768 780).bind fun x196 =>
      some x196
def post194 (r : Bool) (v : Value) (fs : List Fact) : Prop := v = .bool r ∧ fs = []
theorem en194 : Enters Tryz.prog 194 := ⟨_, Tryz.func194, by kernel_rfl, rfl⟩
theorem f194_spec {a0 : Int} {r : Bool} (hr : m194 a0 = some r) : Spec Tryz.prog 194 [.int .i64 a0] [((Ty.int .i64).fact a0 [.int .i64 a0])] (post194 r) := by
  refine spec_start (N := 13) Tryz.func194 (by kernel_rfl) rfl rfl rfl ?_
  intro g hS
  unfold m194 at hr
  refine at_inv 0 rfl (fun l186 => ?_)
  replace l186 : (-9223372036854775808) ≤ a0 ∧ a0 ≤ 9223372036854775807 := l186
  refine at_seq ?_
  refine at_region ?_
  refine at_lt (lt_assign rfl) rfl ?_
  refine at_nil ?_
  refine at_then ?_
  refine at_seq ?_
  refine at_seq ?_
  refine at_region ?_
  refine at_lt (lt_move rfl) rfl ?_
  refine at_nil ?_
  refine at_then ?_
  refine at_block ?_
  refine at_seq ?_
  refine at_seq ?_
  refine at_region ?_
  refine at_lt (lt_eql rfl rfl) rfl ?_
  refine at_lt (lt_assign rfl) rfl ?_
  refine at_nil ?_
  refine at_then ?_
  replace hr := obind hr
  obtain ⟨x187, hc188, hr⟩ := hr
  refine at_cut (V := Unit) (fun e => (⟨[(0, .int .i64 a0), (3, .int .i64 a0), (4, .bool x187)], [], [], [((Ty.int .i64).fact a0 [.int .i64 a0])]⟩ : St)) ?_ ?_
  · clear hr
    have hr := hc188
    clear hc188
    by_cases h189 : a0 = 773
    · replace hr := ipos h189 hr
      refine at_true rfl (decide_eq_true (by first | exact h189 | omega)) ?_
      refine at_skip ?_
      have hq := oinj hr
      clear hr
      subst hq
      exact at_leaf () ⟨⟨rfl, ⟨rfl, ⟨rfl, trivial⟩⟩⟩, ⟨[], rfl⟩, ⟨[], rfl⟩, ⟨[0], rfl⟩⟩
    · replace hr := ineg h189 hr
      refine at_false rfl (decide_eq_false (by first | exact h189 | omega)) ?_
      refine at_region ?_
      refine at_lt (lt_eql rfl rfl) rfl ?_
      refine at_lt (lt_assign rfl) rfl ?_
      refine at_nil ?_
      have hq := oinj hr
      clear hr
      subst hq
      exact at_leaf () ⟨⟨rfl, ⟨rfl, ⟨rfl, trivial⟩⟩⟩, ⟨[], rfl⟩, ⟨[], rfl⟩, ⟨[0], rfl⟩⟩
  · clear hc188
    intro _
    change At _ _ (⟨[(0, .int .i64 a0), (3, .int .i64 a0), (4, .bool x187)], [], [], [((Ty.int .i64).fact a0 [.int .i64 a0])]⟩ : St) _
    refine at_then ?_
    by_cases h190 : x187 = true
    · replace hr := ipos h190 hr
      refine at_true rfl h190 ?_
      refine at_seq ?_
      refine at_region ?_
      refine at_lt (lt_assign rfl) rfl ?_
      refine at_nil ?_
      refine at_then ?_
      refine at_ret ?_
      have hq := oinj hr
      clear hr
      subst hq
      refine at_in_ret ?_
      refine at_then_ret ?_
      exact at_return (.bool false) [] hS Tryz.results194 (.cons (.tmp rfl) .nil) rfl rfl ⟨rfl, rfl⟩
    · replace hr := ineg h190 hr
      refine at_false rfl (bf h190) ?_
      refine at_seq ?_
      refine at_seq ?_
      refine at_region ?_
      refine at_lt (lt_eql rfl rfl) rfl ?_
      refine at_lt (lt_assign rfl) rfl ?_
      refine at_nil ?_
      refine at_then ?_
      replace hr := obind hr
      obtain ⟨x191, hc192, hr⟩ := hr
      refine at_cut (V := Unit) (fun e => (⟨[(0, .int .i64 a0), (7, .bool x191)], [], [], [((Ty.int .i64).fact a0 [.int .i64 a0])]⟩ : St)) ?_ ?_
      · clear hr
        have hr := hc192
        clear hc192
        by_cases h193 : a0 = 803
        · replace hr := ipos h193 hr
          refine at_true rfl (decide_eq_true (by first | exact h193 | omega)) ?_
          refine at_skip ?_
          have hq := oinj hr
          clear hr
          subst hq
          exact at_leaf () ⟨⟨rfl, ⟨rfl, trivial⟩⟩, ⟨[], rfl⟩, ⟨[], rfl⟩, ⟨[0], rfl⟩⟩
        · replace hr := ineg h193 hr
          refine at_false rfl (decide_eq_false (by first | exact h193 | omega)) ?_
          refine at_seq ?_
          refine at_region ?_
          refine at_lt (lt_eql rfl rfl) rfl ?_
          refine at_lt (lt_assign rfl) rfl ?_
          refine at_nil ?_
          refine at_then ?_
          by_cases h194 : a0 = 807
          · replace hr := ipos h194 hr
            refine at_true rfl (decide_eq_true (by first | exact h194 | omega)) ?_
            refine at_skip ?_
            have hq := oinj hr
            clear hr
            subst hq
            exact at_leaf () ⟨⟨rfl, ⟨rfl, trivial⟩⟩, ⟨[], rfl⟩, ⟨[], rfl⟩, ⟨[0], rfl⟩⟩
          · replace hr := ineg h194 hr
            refine at_false rfl (decide_eq_false (by first | exact h194 | omega)) ?_
            refine at_region ?_
            refine at_lt (lt_eql rfl rfl) rfl ?_
            refine at_lt (lt_assign rfl) rfl ?_
            refine at_nil ?_
            have hq := oinj hr
            clear hr
            subst hq
            exact at_leaf () ⟨⟨rfl, ⟨rfl, trivial⟩⟩, ⟨[], rfl⟩, ⟨[], rfl⟩, ⟨[0], rfl⟩⟩
      · clear hc192
        intro _
        change At _ _ (⟨[(0, .int .i64 a0), (7, .bool x191)], [], [], [((Ty.int .i64).fact a0 [.int .i64 a0])]⟩ : St) _
        refine at_then ?_
        by_cases h195 : x191 = true
        · replace hr := ipos h195 hr
          refine at_true rfl h195 ?_
          refine at_seq ?_
          refine at_region ?_
          refine at_lt (lt_assign rfl) rfl ?_
          refine at_nil ?_
          refine at_then ?_
          refine at_ret ?_
          have hq := oinj hr
          clear hr
          subst hq
          refine at_in_ret ?_
          refine at_then_ret ?_
          exact at_return (.bool true) [] hS Tryz.results194 (.cons (.tmp rfl) .nil) rfl rfl ⟨rfl, rfl⟩
        · replace hr := ineg h195 hr
          refine at_false rfl (bf h195) ?_
          refine at_skip ?_
          refine at_in ?_
          refine at_then ?_
          refine at_seq ?_
          refine at_region ?_
          refine at_lt (lt_move rfl) rfl ?_
          replace hr := obind hr
          obtain ⟨x196, h197, hr⟩ := hr
          refine at_int .i64 768 (by simp only [lo, hi]; omega) ?_
          refine at_int .i64 780 (by simp only [lo, hi]; omega) ?_
          refine at_hv rfl ?_
          refine hv_call0 [2, 1, 0] (f192_spec h197) rfl rfl rfl rfl ?_
          rintro _ _ ⟨rfl, rfl⟩
          refine at_lt (lt_assign rfl) rfl ?_
          refine at_nil ?_
          refine at_then ?_
          refine at_ret ?_
          have hq := oinj hr
          clear hr
          subst hq
          exact at_return (.bool x196) [] hS Tryz.results194 (.cons (.tmp rfl) .nil) rfl rfl ⟨rfl, rfl⟩
/-! 188 bookplate/repertoire.Class -/
def m188 (a0 : Int) : Option (Int × Int) :=
  (m192 a0 65281 65374).bind fun x199 =>
  Option.bind (α := Int) (
    if x199 = true then
      some (IntKind.i64.wrap (a0 - 65248))
    else
      some a0
  ) fun x201 =>
  if x201 < 32 then
    some (0, 0)
  else
    if (65535 : Int) < x201 then
      some (0, 0)
    else
      (m193 x201).bind fun x207 =>
      if x207 = 0 then
        if x201 = 32 then
          some (0, 4)
        else
          if x201 = 160 then
            some (0, 4)
          else
            (m192 x201 48 57).bind fun x213 =>
            if x213 = true then
              some (0, 3)
            else
              if x201 = 178 then
                some (0, 3)
              else
                if x201 = 179 then
                  some (0, 3)
                else
                  if x201 = 185 then
                    some (0, 3)
                  else
                    (m194 x201).bind fun x219 =>
                    if x219 = true then
                      some (0, 2)
                    else
                      if x201 ≤ 126 then
                        some (0, 5)
                      else
                        some (0, 0)
      else
        some (x207, 1)
def post188 (r : (Int × Int)) (v : Value) (fs : List Fact) : Prop := v = .tuple #[.int .i64 r.1, .int .i64 r.2] ∧ fs = [((Ty.int .i64).fact r.1 [.int .i64 r.1]), ((Ty.int .i64).fact r.2 [.int .i64 r.2])]
theorem en188 : Enters Tryz.prog 188 := ⟨_, Tryz.func188, by kernel_rfl, rfl⟩
theorem f188_spec {a0 : Int} {r : (Int × Int)} (hr : m188 a0 = some r) : Spec Tryz.prog 188 [.int .i64 a0] [((Ty.int .i64).fact a0 [.int .i64 a0])] (post188 r) := by
  refine spec_start (N := 49) Tryz.func188 (by kernel_rfl) rfl rfl rfl ?_
  intro g hS
  unfold m188 at hr
  refine at_inv 0 rfl (fun l198 => ?_)
  replace l198 : (-9223372036854775808) ≤ a0 ∧ a0 ≤ 9223372036854775807 := l198
  refine at_seq ?_
  refine at_region ?_
  refine at_lt (lt_assign rfl) rfl ?_
  refine at_lt (lt_assign rfl) rfl ?_
  refine at_nil ?_
  refine at_then ?_
  refine at_seq ?_
  refine at_seq ?_
  refine at_region ?_
  refine at_lt (lt_move rfl) rfl ?_
  replace hr := obind hr
  obtain ⟨x199, h200, hr⟩ := hr
  refine at_int .i64 65281 (by simp only [lo, hi]; omega) ?_
  refine at_int .i64 65374 (by simp only [lo, hi]; omega) ?_
  refine at_hv rfl ?_
  refine hv_call0 [2, 1, 0] (f192_spec h200) rfl rfl rfl rfl ?_
  rintro _ _ ⟨rfl, rfl⟩
  refine at_nil ?_
  refine at_then ?_
  replace hr := obind hr
  obtain ⟨x201, hc202, hr⟩ := hr
  refine at_cut (V := Unit) (fun e => (⟨[(0, .int .i64 x201)], [], [], [((Ty.int .i64).fact x201 [.int .i64 x201])]⟩ : St)) ?_ ?_
  · clear hr
    have hr := hc202
    clear hc202
    by_cases h203 : x199 = true
    · replace hr := ipos h203 hr
      refine at_true rfl h203 ?_
      refine at_region ?_
      refine at_lt (lt_move rfl) rfl ?_
      refine at_lt (lt_subw rfl rfl) rfl ?_
      refine at_lt (lt_assign rfl) rfl ?_
      refine at_nil ?_
      have hq := oinj hr
      clear hr
      subst hq
      refine at_int .i64 (IntKind.i64.wrap (a0 - 65248)) (wrap_bd .i64 _) ?_
      exact at_leaf () ⟨⟨rfl, trivial⟩, ⟨[], rfl⟩, ⟨[], rfl⟩, ⟨[0], rfl⟩⟩
    · replace hr := ineg h203 hr
      refine at_false rfl (bf h203) ?_
      refine at_skip ?_
      have hq := oinj hr
      clear hr
      subst hq
      exact at_leaf () ⟨⟨rfl, trivial⟩, ⟨[], rfl⟩, ⟨[], rfl⟩, ⟨[2], rfl⟩⟩
  · clear hc202
    intro _
    change At _ _ (⟨[(0, .int .i64 x201)], [], [], [((Ty.int .i64).fact x201 [.int .i64 x201])]⟩ : St) _
    refine at_inv 0 rfl (fun l204 => ?_)
    replace l204 : (-9223372036854775808) ≤ x201 ∧ x201 ≤ 9223372036854775807 := l204
    refine at_then ?_
    refine at_seq ?_
    refine at_seq ?_
    refine at_region ?_
    refine at_lt (lt_move rfl) rfl ?_
    refine at_lt (lt_lss rfl rfl) rfl ?_
    refine at_lt (lt_move rfl) rfl ?_
    by_cases h205 : x201 < 32
    · replace hr := ipos h205 hr
      refine at_off rfl rfl (decide_eq_true (by first | exact h205 | omega)) rfl ?_
      refine at_off rfl rfl (decide_eq_true (by first | exact h205 | omega)) rfl ?_
      refine at_lt (lt_pick true rfl (decide_eq_true (by first | exact h205 | omega)) rfl) rfl ?_
      refine at_nil ?_
      refine at_then ?_
      refine at_true rfl rfl ?_
      refine at_seq ?_
      refine at_region ?_
      refine at_lt (lt_assign rfl) rfl ?_
      refine at_lt (lt_assign rfl) rfl ?_
      refine at_nil ?_
      refine at_then ?_
      refine at_ret ?_
      have hq := oinj hr
      clear hr
      subst hq
      refine at_then_ret ?_
      refine at_int .i64 0 (by simp only [lo, hi]; omega) ?_
      exact at_return (.tuple #[.int .i64 0, .int .i64 0]) [0, 0] hS Tryz.results188 (.cons (.tmp rfl) (.cons (.tmp rfl) .nil)) rfl rfl ⟨rfl, rfl⟩
    · replace hr := ineg h205 hr
      refine at_on rfl rfl (decide_eq_false (by first | exact h205 | omega)) ?_
      refine at_lt (lt_move rfl) rfl ?_
      refine at_on rfl rfl (decide_eq_false (by first | exact h205 | omega)) ?_
      refine at_lt (lt_gtr rfl rfl) rfl ?_
      refine at_lt (lt_pick false rfl (decide_eq_false (by first | exact h205 | omega)) rfl) rfl ?_
      refine at_nil ?_
      refine at_then ?_
      by_cases h206 : (65535 : Int) < x201
      · replace hr := ipos h206 hr
        refine at_true rfl (decide_eq_true (by first | exact h206 | omega)) ?_
        refine at_seq ?_
        refine at_region ?_
        refine at_lt (lt_assign rfl) rfl ?_
        refine at_lt (lt_assign rfl) rfl ?_
        refine at_nil ?_
        refine at_then ?_
        refine at_ret ?_
        have hq := oinj hr
        clear hr
        subst hq
        refine at_then_ret ?_
        refine at_int .i64 0 (by simp only [lo, hi]; omega) ?_
        exact at_return (.tuple #[.int .i64 0, .int .i64 0]) [0, 0] hS Tryz.results188 (.cons (.tmp rfl) (.cons (.tmp rfl) .nil)) rfl rfl ⟨rfl, rfl⟩
      · replace hr := ineg h206 hr
        refine at_false rfl (decide_eq_false (by first | exact h206 | omega)) ?_
        refine at_skip ?_
        refine at_then ?_
        refine at_seq ?_
        refine at_seq ?_
        refine at_region ?_
        refine at_lt (lt_move rfl) rfl ?_
        replace hr := obind hr
        obtain ⟨x207, h208, hr⟩ := hr
        refine at_hv rfl ?_
        refine hv_call0 [0] (f193_spec h208) rfl rfl rfl rfl ?_
        rintro _ _ ⟨rfl, rfl⟩
        refine at_inv 0 rfl (fun l209 => ?_)
        replace l209 : (-9223372036854775808) ≤ x207 ∧ x207 ≤ 9223372036854775807 := l209
        refine at_lt (lt_assign rfl) rfl ?_
        refine at_nil ?_
        refine at_then ?_
        refine at_block ?_
        refine at_seq ?_
        refine at_region ?_
        refine at_lt (lt_move rfl) rfl ?_
        refine at_lt (lt_neq rfl rfl) rfl ?_
        refine at_lt (lt_assign rfl) rfl ?_
        refine at_nil ?_
        refine at_then ?_
        by_cases h210 : x207 = 0
        · replace hr := ipos h210 hr
          refine at_false rfl (nt (decide_eq_true (by first | exact h210 | omega))) ?_
          refine at_seq ?_
          refine at_region ?_
          refine at_lt (lt_move rfl) rfl ?_
          refine at_lt (lt_eql rfl rfl) rfl ?_
          refine at_lt (lt_move rfl) rfl ?_
          by_cases h211 : x201 = 32
          · replace hr := ipos h211 hr
            refine at_off rfl rfl (decide_eq_true (by first | exact h211 | omega)) rfl ?_
            refine at_off rfl rfl (decide_eq_true (by first | exact h211 | omega)) rfl ?_
            refine at_lt (lt_pick true rfl (decide_eq_true (by first | exact h211 | omega)) rfl) rfl ?_
            refine at_lt (lt_assign rfl) rfl ?_
            refine at_nil ?_
            refine at_then ?_
            refine at_true rfl rfl ?_
            refine at_seq ?_
            refine at_region ?_
            refine at_lt (lt_assign rfl) rfl ?_
            refine at_lt (lt_assign rfl) rfl ?_
            refine at_nil ?_
            refine at_then ?_
            refine at_ret ?_
            have hq := oinj hr
            clear hr
            subst hq
            refine at_in_ret ?_
            refine at_then_ret ?_
            refine at_int .i64 0 (by simp only [lo, hi]; omega) ?_
            refine at_int .i64 4 (by simp only [lo, hi]; omega) ?_
            exact at_return (.tuple #[.int .i64 0, .int .i64 4]) [1, 0] hS Tryz.results188 (.cons (.tmp rfl) (.cons (.tmp rfl) .nil)) rfl rfl ⟨rfl, rfl⟩
          · replace hr := ineg h211 hr
            refine at_on rfl rfl (decide_eq_false (by first | exact h211 | omega)) ?_
            refine at_lt (lt_move rfl) rfl ?_
            refine at_on rfl rfl (decide_eq_false (by first | exact h211 | omega)) ?_
            refine at_lt (lt_eql rfl rfl) rfl ?_
            refine at_lt (lt_pick false rfl (decide_eq_false (by first | exact h211 | omega)) rfl) rfl ?_
            refine at_lt (lt_assign rfl) rfl ?_
            refine at_nil ?_
            refine at_then ?_
            by_cases h212 : x201 = 160
            · replace hr := ipos h212 hr
              refine at_true rfl (decide_eq_true (by first | exact h212 | omega)) ?_
              refine at_seq ?_
              refine at_region ?_
              refine at_lt (lt_assign rfl) rfl ?_
              refine at_lt (lt_assign rfl) rfl ?_
              refine at_nil ?_
              refine at_then ?_
              refine at_ret ?_
              have hq := oinj hr
              clear hr
              subst hq
              refine at_in_ret ?_
              refine at_then_ret ?_
              refine at_int .i64 0 (by simp only [lo, hi]; omega) ?_
              refine at_int .i64 4 (by simp only [lo, hi]; omega) ?_
              exact at_return (.tuple #[.int .i64 0, .int .i64 4]) [1, 0] hS Tryz.results188 (.cons (.tmp rfl) (.cons (.tmp rfl) .nil)) rfl rfl ⟨rfl, rfl⟩
            · replace hr := ineg h212 hr
              refine at_false rfl (decide_eq_false (by first | exact h212 | omega)) ?_
              refine at_seq ?_
              refine at_region ?_
              refine at_lt (lt_move rfl) rfl ?_
              replace hr := obind hr
              obtain ⟨x213, h214, hr⟩ := hr
              refine at_int .i64 48 (by simp only [lo, hi]; omega) ?_
              refine at_int .i64 57 (by simp only [lo, hi]; omega) ?_
              refine at_hv rfl ?_
              refine hv_call0 [3, 1, 0] (f192_spec h214) rfl rfl rfl rfl ?_
              rintro _ _ ⟨rfl, rfl⟩
              refine at_lt (lt_move rfl) rfl ?_
              by_cases h215 : x213 = true
              · replace hr := ipos h215 hr
                refine at_off rfl rfl h215 rfl ?_
                refine at_off rfl rfl h215 rfl ?_
                refine at_lt (lt_pick true rfl h215 rfl) rfl ?_
                refine at_lt (lt_move rfl) rfl ?_
                refine at_off rfl rfl rfl rfl ?_
                refine at_off rfl rfl rfl rfl ?_
                refine at_lt (lt_pick true rfl rfl rfl) rfl ?_
                refine at_lt (lt_move rfl) rfl ?_
                refine at_off rfl rfl rfl rfl ?_
                refine at_off rfl rfl rfl rfl ?_
                refine at_lt (lt_pick true rfl rfl rfl) rfl ?_
                refine at_lt (lt_assign rfl) rfl ?_
                refine at_nil ?_
                refine at_then ?_
                refine at_true rfl rfl ?_
                refine at_seq ?_
                refine at_region ?_
                refine at_lt (lt_assign rfl) rfl ?_
                refine at_lt (lt_assign rfl) rfl ?_
                refine at_nil ?_
                refine at_then ?_
                refine at_ret ?_
                have hq := oinj hr
                clear hr
                subst hq
                refine at_in_ret ?_
                refine at_then_ret ?_
                refine at_int .i64 0 (by simp only [lo, hi]; omega) ?_
                refine at_int .i64 3 (by simp only [lo, hi]; omega) ?_
                exact at_return (.tuple #[.int .i64 0, .int .i64 3]) [1, 0] hS Tryz.results188 (.cons (.tmp rfl) (.cons (.tmp rfl) .nil)) rfl rfl ⟨rfl, rfl⟩
              · replace hr := ineg h215 hr
                refine at_on rfl rfl (bf h215) ?_
                refine at_lt (lt_move rfl) rfl ?_
                refine at_on rfl rfl (bf h215) ?_
                refine at_lt (lt_eql rfl rfl) rfl ?_
                refine at_lt (lt_pick false rfl (bf h215) rfl) rfl ?_
                refine at_lt (lt_move rfl) rfl ?_
                by_cases h216 : x201 = 178
                · replace hr := ipos h216 hr
                  refine at_off rfl rfl (decide_eq_true (by first | exact h216 | omega)) rfl ?_
                  refine at_off rfl rfl (decide_eq_true (by first | exact h216 | omega)) rfl ?_
                  refine at_lt (lt_pick true rfl (decide_eq_true (by first | exact h216 | omega)) rfl) rfl ?_
                  refine at_lt (lt_move rfl) rfl ?_
                  refine at_off rfl rfl rfl rfl ?_
                  refine at_off rfl rfl rfl rfl ?_
                  refine at_lt (lt_pick true rfl rfl rfl) rfl ?_
                  refine at_lt (lt_assign rfl) rfl ?_
                  refine at_nil ?_
                  refine at_then ?_
                  refine at_true rfl rfl ?_
                  refine at_seq ?_
                  refine at_region ?_
                  refine at_lt (lt_assign rfl) rfl ?_
                  refine at_lt (lt_assign rfl) rfl ?_
                  refine at_nil ?_
                  refine at_then ?_
                  refine at_ret ?_
                  have hq := oinj hr
                  clear hr
                  subst hq
                  refine at_in_ret ?_
                  refine at_then_ret ?_
                  refine at_int .i64 0 (by simp only [lo, hi]; omega) ?_
                  refine at_int .i64 3 (by simp only [lo, hi]; omega) ?_
                  exact at_return (.tuple #[.int .i64 0, .int .i64 3]) [1, 0] hS Tryz.results188 (.cons (.tmp rfl) (.cons (.tmp rfl) .nil)) rfl rfl ⟨rfl, rfl⟩
                · replace hr := ineg h216 hr
                  refine at_on rfl rfl (decide_eq_false (by first | exact h216 | omega)) ?_
                  refine at_lt (lt_move rfl) rfl ?_
                  refine at_on rfl rfl (decide_eq_false (by first | exact h216 | omega)) ?_
                  refine at_lt (lt_eql rfl rfl) rfl ?_
                  refine at_lt (lt_pick false rfl (decide_eq_false (by first | exact h216 | omega)) rfl) rfl ?_
                  refine at_lt (lt_move rfl) rfl ?_
                  by_cases h217 : x201 = 179
                  · replace hr := ipos h217 hr
                    refine at_off rfl rfl (decide_eq_true (by first | exact h217 | omega)) rfl ?_
                    refine at_off rfl rfl (decide_eq_true (by first | exact h217 | omega)) rfl ?_
                    refine at_lt (lt_pick true rfl (decide_eq_true (by first | exact h217 | omega)) rfl) rfl ?_
                    refine at_lt (lt_assign rfl) rfl ?_
                    refine at_nil ?_
                    refine at_then ?_
                    refine at_true rfl rfl ?_
                    refine at_seq ?_
                    refine at_region ?_
                    refine at_lt (lt_assign rfl) rfl ?_
                    refine at_lt (lt_assign rfl) rfl ?_
                    refine at_nil ?_
                    refine at_then ?_
                    refine at_ret ?_
                    have hq := oinj hr
                    clear hr
                    subst hq
                    refine at_in_ret ?_
                    refine at_then_ret ?_
                    refine at_int .i64 0 (by simp only [lo, hi]; omega) ?_
                    refine at_int .i64 3 (by simp only [lo, hi]; omega) ?_
                    exact at_return (.tuple #[.int .i64 0, .int .i64 3]) [1, 0] hS Tryz.results188 (.cons (.tmp rfl) (.cons (.tmp rfl) .nil)) rfl rfl ⟨rfl, rfl⟩
                  · replace hr := ineg h217 hr
                    refine at_on rfl rfl (decide_eq_false (by first | exact h217 | omega)) ?_
                    refine at_lt (lt_move rfl) rfl ?_
                    refine at_on rfl rfl (decide_eq_false (by first | exact h217 | omega)) ?_
                    refine at_lt (lt_eql rfl rfl) rfl ?_
                    refine at_lt (lt_pick false rfl (decide_eq_false (by first | exact h217 | omega)) rfl) rfl ?_
                    refine at_lt (lt_assign rfl) rfl ?_
                    refine at_nil ?_
                    refine at_then ?_
                    by_cases h218 : x201 = 185
                    · replace hr := ipos h218 hr
                      refine at_true rfl (decide_eq_true (by first | exact h218 | omega)) ?_
                      refine at_seq ?_
                      refine at_region ?_
                      refine at_lt (lt_assign rfl) rfl ?_
                      refine at_lt (lt_assign rfl) rfl ?_
                      refine at_nil ?_
                      refine at_then ?_
                      refine at_ret ?_
                      have hq := oinj hr
                      clear hr
                      subst hq
                      refine at_in_ret ?_
                      refine at_then_ret ?_
                      refine at_int .i64 0 (by simp only [lo, hi]; omega) ?_
                      refine at_int .i64 3 (by simp only [lo, hi]; omega) ?_
                      exact at_return (.tuple #[.int .i64 0, .int .i64 3]) [1, 0] hS Tryz.results188 (.cons (.tmp rfl) (.cons (.tmp rfl) .nil)) rfl rfl ⟨rfl, rfl⟩
                    · replace hr := ineg h218 hr
                      refine at_false rfl (decide_eq_false (by first | exact h218 | omega)) ?_
                      refine at_seq ?_
                      refine at_region ?_
                      refine at_lt (lt_move rfl) rfl ?_
                      replace hr := obind hr
                      obtain ⟨x219, h220, hr⟩ := hr
                      refine at_hv rfl ?_
                      refine hv_call0 [3] (f194_spec h220) rfl rfl rfl rfl ?_
                      rintro _ _ ⟨rfl, rfl⟩
                      refine at_lt (lt_assign rfl) rfl ?_
                      refine at_nil ?_
                      refine at_then ?_
                      by_cases h221 : x219 = true
                      · replace hr := ipos h221 hr
                        refine at_true rfl h221 ?_
                        refine at_seq ?_
                        refine at_region ?_
                        refine at_lt (lt_assign rfl) rfl ?_
                        refine at_lt (lt_assign rfl) rfl ?_
                        refine at_nil ?_
                        refine at_then ?_
                        refine at_ret ?_
                        have hq := oinj hr
                        clear hr
                        subst hq
                        refine at_in_ret ?_
                        refine at_then_ret ?_
                        refine at_int .i64 0 (by simp only [lo, hi]; omega) ?_
                        refine at_int .i64 2 (by simp only [lo, hi]; omega) ?_
                        exact at_return (.tuple #[.int .i64 0, .int .i64 2]) [1, 0] hS Tryz.results188 (.cons (.tmp rfl) (.cons (.tmp rfl) .nil)) rfl rfl ⟨rfl, rfl⟩
                      · replace hr := ineg h221 hr
                        refine at_false rfl (bf h221) ?_
                        refine at_seq ?_
                        refine at_region ?_
                        refine at_lt (lt_move rfl) rfl ?_
                        refine at_lt (lt_leq rfl rfl) rfl ?_
                        refine at_lt (lt_assign rfl) rfl ?_
                        refine at_nil ?_
                        refine at_then ?_
                        by_cases h222 : x201 ≤ 126
                        · replace hr := ipos h222 hr
                          refine at_true rfl (decide_eq_true (by first | exact h222 | omega)) ?_
                          refine at_seq ?_
                          refine at_region ?_
                          refine at_lt (lt_assign rfl) rfl ?_
                          refine at_lt (lt_assign rfl) rfl ?_
                          refine at_nil ?_
                          refine at_then ?_
                          refine at_ret ?_
                          have hq := oinj hr
                          clear hr
                          subst hq
                          refine at_in_ret ?_
                          refine at_then_ret ?_
                          refine at_int .i64 0 (by simp only [lo, hi]; omega) ?_
                          refine at_int .i64 5 (by simp only [lo, hi]; omega) ?_
                          exact at_return (.tuple #[.int .i64 0, .int .i64 5]) [1, 0] hS Tryz.results188 (.cons (.tmp rfl) (.cons (.tmp rfl) .nil)) rfl rfl ⟨rfl, rfl⟩
                        · replace hr := ineg h222 hr
                          refine at_false rfl (decide_eq_false (by first | exact h222 | omega)) ?_
                          refine at_skip ?_
                          refine at_in ?_
                          refine at_then ?_
                          refine at_seq ?_
                          refine at_region ?_
                          refine at_lt (lt_assign rfl) rfl ?_
                          refine at_lt (lt_assign rfl) rfl ?_
                          refine at_nil ?_
                          refine at_then ?_
                          refine at_ret ?_
                          have hq := oinj hr
                          clear hr
                          subst hq
                          refine at_int .i64 0 (by simp only [lo, hi]; omega) ?_
                          exact at_return (.tuple #[.int .i64 0, .int .i64 0]) [0, 0] hS Tryz.results188 (.cons (.tmp rfl) (.cons (.tmp rfl) .nil)) rfl rfl ⟨rfl, rfl⟩
        · replace hr := ineg h210 hr
          refine at_true rfl (nf (decide_eq_false (by first | exact h210 | omega))) ?_
          refine at_seq ?_
          refine at_region ?_
          refine at_lt (lt_move rfl) rfl ?_
          refine at_lt (lt_assign rfl) rfl ?_
          refine at_lt (lt_assign rfl) rfl ?_
          refine at_nil ?_
          refine at_then ?_
          refine at_ret ?_
          have hq := oinj hr
          clear hr
          subst hq
          refine at_in_ret ?_
          refine at_then_ret ?_
          refine at_int .i64 1 (by simp only [lo, hi]; omega) ?_
          exact at_return (.tuple #[.int .i64 x207, .int .i64 1]) [1, 0] hS Tryz.results188 (.cons (.tmp rfl) (.cons (.tmp rfl) .nil)) rfl rfl ⟨rfl, rfl⟩
/-! 174 bookplate/repertoire.Has -/
def m174 (a0 : Int) : Option Bool :=
  (m188 a0).bind fun x224 =>
  some (!decide (x224.2 = 0))
def post174 (r : Bool) (v : Value) (fs : List Fact) : Prop := v = .bool r ∧ fs = []
theorem en174 : Enters Tryz.prog 174 := ⟨_, Tryz.func174, by kernel_rfl, rfl⟩
theorem f174_spec {a0 : Int} {r : Bool} (hr : m174 a0 = some r) : Spec Tryz.prog 174 [.int .i64 a0] [((Ty.int .i64).fact a0 [.int .i64 a0])] (post174 r) := by
  refine spec_start (N := 12) Tryz.func174 (by kernel_rfl) rfl rfl rfl ?_
  intro g hS
  unfold m174 at hr
  refine at_inv 0 rfl (fun l223 => ?_)
  replace l223 : (-9223372036854775808) ≤ a0 ∧ a0 ≤ 9223372036854775807 := l223
  refine at_seq ?_
  refine at_region ?_
  refine at_lt (lt_assign rfl) rfl ?_
  refine at_nil ?_
  refine at_then ?_
  refine at_seq ?_
  refine at_region ?_
  refine at_lt (lt_move rfl) rfl ?_
  replace hr := obind hr
  obtain ⟨x224, h225, hr⟩ := hr
  refine at_hv rfl ?_
  refine hv_call0 [0] (f188_spec h225) rfl rfl rfl rfl ?_
  rintro _ _ ⟨rfl, rfl⟩
  refine at_inv 0 rfl (fun l226 => ?_)
  replace l226 : (-9223372036854775808) ≤ x224.1 ∧ x224.1 ≤ 9223372036854775807 := l226
  refine at_inv 1 rfl (fun l227 => ?_)
  replace l227 : (-9223372036854775808) ≤ x224.2 ∧ x224.2 ≤ 9223372036854775807 := l227
  refine at_lt (lt_move rfl) rfl ?_
  refine at_lt (lt_extract rfl rfl) rfl ?_
  refine at_lt (lt_extract rfl rfl) rfl ?_
  refine at_lt (lt_assign rfl) rfl ?_
  refine at_lt (lt_assign rfl) rfl ?_
  refine at_nil ?_
  refine at_then ?_
  refine at_seq ?_
  refine at_region ?_
  refine at_lt (lt_move rfl) rfl ?_
  refine at_lt (lt_neq rfl rfl) rfl ?_
  refine at_lt (lt_assign rfl) rfl ?_
  refine at_nil ?_
  refine at_then ?_
  refine at_ret ?_
  have hq := oinj hr
  clear hr
  subst hq
  exact at_return (.bool (!decide (x224.2 = 0))) [] hS Tryz.results174 (.cons (.tmp rfl) .nil) rfl rfl ⟨rfl, rfl⟩
/-! 155 bookplate/repertoire.Decode -/
def m155_l1 : Nat → Str → (List Int) → Option (Fl ((List Int) × Bool) (List Int))
  | 0, _, _ => none
  | k + 1, x231, x232 =>
    if 0 < x231.length then
      (m171 x231).bind fun x245 =>
      if x245.1 = 65533 then
        some (Fl.ret (([] : (List Int)), false))
      else
        (m174 x245.1).bind fun x250 =>
        if x250 = true then
          if x232.length + 1 ≤ 17592186044416 then
            if 0 ≤ x245.2 ∧ x245.2.toNat ≤ x231.length then
              m155_l1 k (x231.drop x245.2.toNat) (x232 ++ [x245.1])
            else none
          else none
        else
          some (Fl.ret (([] : (List Int)), false))
    else
      some (Fl.go x232)
def m155 (a0 : Str) : Option ((List Int) × Bool) :=
  if a0.length ≤ 17592186044416 then
    (m155_l1 (a0.length + 1) a0 ([] : (List Int))).bind fun r => match r with
    | .ret x => some x
    | .go x236 =>
      some (x236, true)
  else none
def post155 (r : ((List Int) × Bool)) (v : Value) (fs : List Fact) : Prop := ∃ s262 : Value, v = .tuple #[s262, .bool r.2] ∧ fs = [((Ty.slice (Ty.int .i64)).fact r.1 [s262])]
theorem en155 : Enters Tryz.prog 155 := ⟨_, Tryz.func155, by kernel_rfl, rfl⟩
theorem f155_spec {a0 : Str} {r : ((List Int) × Bool)} (hr : m155 a0 = some r) : Spec Tryz.prog 155 [str a0] [(Ty.str.fact a0 [str a0])] (post155 r) := by
  refine spec_start (N := 35) Tryz.func155 (by kernel_rfl) rfl rfl rfl ?_
  intro g hS
  unfold m155 at hr
  refine at_seq ?_
  refine at_region ?_
  refine at_lt (lt_assign rfl) rfl ?_
  refine at_lt (lt_assign rfl) rfl ?_
  refine at_nil ?_
  refine at_then ?_
  refine at_seq ?_
  refine at_region ?_
  refine at_lt (lt_move rfl) rfl ?_
  refine at_inv 0 rfl (fun l228 => ?_)
  replace l228 : a0.length ≤ 9223372036854775807 := l228
  refine at_lt (lt_slen rfl und9) rfl ?_
  replace hr := imust hr
  obtain ⟨h229, hr⟩ := hr
  refine at_hv rfl ?_
  refine hv_make0 a0.length rfl rfl rfl (by omega) und140 ti3 (by omega) (by omega) rfl (fun s230 => ?_)
  refine at_lt (lt_assign rfl) rfl ?_
  refine at_nil ?_
  refine at_then ?_
  refine at_seq ?_
  refine at_rownil (Ty.int .i64) ?_
  refine at_mkpure (q := (([] : (List Int)).length * (Ty.int .i64).bytes ≤ 140737488355328)) (by simp only [List.nil_append, List.cons_append, List.length_cons, List.length_nil, Ty.int_bytes, Ty.u8_bytes, Ty.str_bytes, Ty.slice_bytes, Ty.bool_bytes, nb] <;> omega) ?_
  replace hr := obind hr
  obtain ⟨r240, hl241, hk242⟩ := hr
  refine at_cutP (V := ((List Int)) × (Value × Nat × (List Value))) (fun v => r240 = Fl.go v.1) (fun v => (⟨[(4, v.2.1)], [], [⟨v.2.1, 3, 1, v.2.2.1, v.2.2.2⟩], [((Ty.int .i64).row v.1 v.2.2.2), (pureF (v.1.length * (Ty.int .i64).bytes ≤ 140737488355328))]⟩ : St)) ?_ ?_
  · refine at_block ?_
    refine at_loopW (σ := (Str × (List Int))) (V := Value × Nat × (List Value)) (r := r240) (fun n s => m155_l1 n s.1 s.2) (fun s e => (⟨[(0, str s.1), (4, e.1)], [], [⟨e.1, 3, 1, e.2.1, e.2.2⟩], [(Ty.str.fact s.1 [str s.1]), ((Ty.int .i64).row s.2 e.2.2), (pureF (s.2.length * (Ty.int .i64).bytes ≤ 140737488355328))]⟩ : St)) (fun _ => rfl) _ (a0, ([] : (List Int))) (s230, 0, []) hl241 ⟨⟨rfl, ⟨rfl, trivial⟩⟩, ⟨[], rfl⟩, ⟨[true], rfl⟩, ⟨[2, 1, 0], rfl⟩⟩ ?_
    clear hl241
    intro n s hr e
    obtain ⟨x231, x232⟩ := s
    obtain ⟨v233, n234, i235⟩ := e
    change m155_l1 (n + 1) x231 x232 = some r240 at hr
    change At _ _ (⟨[(0, str x231), (4, v233)], [], [⟨v233, 3, 1, n234, i235⟩], [(Ty.str.fact x231 [str x231]), ((Ty.int .i64).row x232 i235), (pureF (x232.length * (Ty.int .i64).bytes ≤ 140737488355328))]⟩ : St) _
    rw [m155_l1] at hr
    refine at_seq ?_
    refine at_seq ?_
    refine at_region ?_
    refine at_lt (lt_move rfl) rfl ?_
    refine at_inv 0 rfl (fun l243 => ?_)
    replace l243 : x231.length ≤ 9223372036854775807 := l243
    refine at_lt (lt_slen rfl und9) rfl ?_
    refine at_lt (lt_gtr rfl rfl) rfl ?_
    refine at_nil ?_
    refine at_then ?_
    by_cases h244 : 0 < x231.length
    · replace hr := ipos h244 hr
      refine at_true rfl (decide_eq_true (by omega)) ?_
      refine at_skip ?_
      refine at_then ?_
      refine at_block ?_
      refine at_seq ?_
      refine at_region ?_
      refine at_lt (lt_move rfl) rfl ?_
      replace hr := obind hr
      obtain ⟨x245, h246, hr⟩ := hr
      refine at_hv rfl ?_
      refine hv_call0 [0] (f171_spec h246) rfl rfl rfl rfl ?_
      rintro _ _ ⟨rfl, rfl⟩
      refine at_inv 0 rfl (fun l247 => ?_)
      replace l247 : (-2147483648) ≤ x245.1 ∧ x245.1 ≤ 2147483647 := l247
      refine at_inv 1 rfl (fun l248 => ?_)
      replace l248 : (-9223372036854775808) ≤ x245.2 ∧ x245.2 ≤ 9223372036854775807 := l248
      refine at_lt (lt_move rfl) rfl ?_
      refine at_lt (lt_extract rfl rfl) rfl ?_
      refine at_lt (lt_extract rfl rfl) rfl ?_
      refine at_lt (lt_assign rfl) rfl ?_
      refine at_lt (lt_assign rfl) rfl ?_
      refine at_nil ?_
      refine at_then ?_
      refine at_seq ?_
      refine at_seq ?_
      refine at_region ?_
      refine at_lt (lt_move rfl) rfl ?_
      refine at_lt (lt_eql rfl rfl) rfl ?_
      refine at_lt (lt_move rfl) rfl ?_
      by_cases h249 : x245.1 = 65533
      · replace hr := ipos h249 hr
        refine at_off rfl rfl (decide_eq_true (by first | exact h249 | omega)) rfl ?_
        refine at_off rfl rfl (decide_eq_true (by first | exact h249 | omega)) rfl ?_
        refine at_off rfl rfl (decide_eq_true (by first | exact h249 | omega)) rfl ?_
        refine at_off rfl rfl (decide_eq_true (by first | exact h249 | omega)) rfl ?_
        refine at_lt (lt_pick true rfl (decide_eq_true (by first | exact h249 | omega)) rfl) rfl ?_
        refine at_nil ?_
        refine at_then ?_
        refine at_true rfl rfl ?_
        refine at_seq ?_
        refine at_region ?_
        refine at_lt (lt_assign rfl) rfl ?_
        refine at_lt (lt_assign rfl) rfl ?_
        refine at_nil ?_
        refine at_then ?_
        refine at_ret ?_
        have hq := oinj hr
        clear hr
        subst hq
        have hq := oinj hk242
        clear hk242
        subst hq
        refine at_then_ret ?_
        refine at_in_ret ?_
        refine at_then_ret ?_
        refine at_in_ret ?_
        refine at_then_ret ?_
        refine at_then_ret ?_
        refine at_fnil (Ty.int .i64) none ?_
        exact at_return (.tuple #[(.slice none 0 0), .bool false]) [0] hS Tryz.results155 (.cons (.tmp rfl) (.cons (.tmp rfl) .nil)) rfl rfl ⟨((.slice none 0 0)), rfl, rfl⟩
      · replace hr := ineg h249 hr
        refine at_on rfl rfl (decide_eq_false (by first | exact h249 | omega)) ?_
        refine at_lt (lt_move rfl) rfl ?_
        refine at_on rfl rfl (decide_eq_false (by first | exact h249 | omega)) ?_
        refine at_lt (lt_convint rfl (iso und21) und3 (by simp only [lo, hi]; omega)) rfl ?_
        replace hr := obind hr
        obtain ⟨x250, h251, hr⟩ := hr
        refine at_int .i64 x245.1 (by simp only [lo, hi]; omega) ?_
        refine at_on rfl rfl (decide_eq_false (by first | exact h249 | omega)) ?_
        refine at_hv rfl ?_
        refine hv_call0 [0] (f174_spec h251) rfl rfl rfl rfl ?_
        rintro _ _ ⟨rfl, rfl⟩
        refine at_on rfl rfl (decide_eq_false (by first | exact h249 | omega)) ?_
        refine at_lt (lt_not rfl) rfl ?_
        refine at_lt (lt_pick false rfl (decide_eq_false (by first | exact h249 | omega)) rfl) rfl ?_
        refine at_nil ?_
        refine at_then ?_
        by_cases h252 : x250 = true
        · replace hr := ipos h252 hr
          refine at_false rfl (nt h252) ?_
          refine at_skip ?_
          refine at_then ?_
          replace hr := imust hr
          obtain ⟨h254, hr⟩ := hr
          replace hr := imust hr
          obtain ⟨h257, hr⟩ := hr
          refine aa_start 10 (by kernel_rfl) ?_
          refine aa_pure (bs' := [true, false, false, false, false, false, false, false, false, false]) 0 rfl (by kernel_rfl) rfl rfl (lt_move rfl) rfl (ts_in 0 0 rfl rfl) ?_
          refine aa_pure (bs' := [true, true, false, false, false, false, false, false, false, false]) 1 rfl (by kernel_rfl) rfl rfl (lt_move rfl) rfl (ts_in 0 0 rfl rfl) ?_
          refine aa_pure (bs' := [true, true, true, false, false, false, false, false, false, false]) 2 rfl (by kernel_rfl) rfl rfl (lt_convint rfl (iso und21) und3 (by simp only [lo, hi]; omega)) rfl (ts_in 0 0 rfl rfl) ?_
          refine aa_pure (bs' := [true, true, true, false, false, true, false, false, false, false]) 5 rfl (by kernel_rfl) rfl rfl (lt_move rfl) rfl (ts_in 0 0 rfl rfl) ?_
          refine aa_pure (bs' := [true, true, true, false, false, true, true, false, false, false]) 6 rfl (by kernel_rfl) rfl rfl (lt_move rfl) rfl (ts_in 0 0 rfl rfl) ?_
          refine aa_pure (bs' := [true, true, true, false, false, true, true, true, false, false]) 7 rfl (by kernel_rfl) rfl rfl (lt_scut_l x245.2.toNat rfl rfl (by omega) und9 (by omega)) rfl (ts_in 0 0 rfl rfl) ?_
          refine aa_all (rs := [3]) (by kernel_rfl) rfl (ts_in 0 0 rfl rfl) (List.forall_mem_singleton.2 ?_)
          refine aa_op rfl rfl ?_
          refine hv_bslice (cs := [.int .i64 x245.1]) rfl und140 ti3 rfl rfl rfl rfl rfl (fun s258 => ?_)
          refine aa_all (rs := [4]) (by kernel_rfl) rfl (ts_in 0 0 rfl rfl) (List.forall_mem_singleton.2 ?_)
          refine at_rown 1 4 rfl rfl rfl (fun hn260 => ?_)
          refine aa_op rfl rfl ?_
          refine hv_append 1 0 rfl rfl rfl rfl und140 ti3 rfl rfl rfl (by omega) (by omega) rfl (fun s259 => ?_)
          refine at_rowsnoc 4 0 rfl rfl ?_
          refine aa_pure (bs' := [true, true, true, true, true, true, true, true, true, false]) 8 rfl (by kernel_rfl) rfl rfl (lt_assign rfl) rfl (ts_in 0 1 rfl rfl) ?_
          refine aa_pure (bs' := [true, true, true, true, true, true, true, true, true, true]) 9 rfl (by kernel_rfl) rfl rfl (lt_assign rfl) rfl (ts_in 0 1 rfl rfl) ?_
          refine aa_done (by kernel_rfl) (ts_in 0 1 rfl rfl) ?_
          refine at_in ?_
          refine at_str (x231.drop x245.2.toNat) (by simp only [List.length_take, List.length_drop]; omega) ?_
          refine at_mkpure (q := ((x232 ++ [x245.1]).length * (Ty.int .i64).bytes ≤ 140737488355328)) (by simp only [List.length_append, List.length_cons, List.length_nil, Ty.int_bytes, Ty.u8_bytes, Ty.str_bytes, Ty.slice_bytes, Ty.bool_bytes, nb] <;> omega) ?_
          exact at_again (σ := (Str × (List Int))) (V := Value × Nat × (List Value)) (lp := fun n s => m155_l1 n s.1 s.2) (S := fun s e => (⟨[(0, str s.1), (4, e.1)], [], [⟨e.1, 3, 1, e.2.1, e.2.2⟩], [(Ty.str.fact s.1 [str s.1]), ((Ty.int .i64).row s.2 e.2.2), (pureF (s.2.length * (Ty.int .i64).bytes ≤ 140737488355328))]⟩ : St)) (x231.drop x245.2.toNat, x232 ++ [x245.1]) (s259, n234 + 1, i235 ++ [.int .i64 x245.1]) hr ⟨⟨rfl, ⟨rfl, trivial⟩⟩, ⟨[], rfl⟩, ⟨[false, true], rfl⟩, ⟨[1, 2, 0], rfl⟩⟩
        · replace hr := ineg h252 hr
          refine at_true rfl (nf (bf h252)) ?_
          refine at_seq ?_
          refine at_region ?_
          refine at_lt (lt_assign rfl) rfl ?_
          refine at_lt (lt_assign rfl) rfl ?_
          refine at_nil ?_
          refine at_then ?_
          refine at_ret ?_
          have hq := oinj hr
          clear hr
          subst hq
          have hq := oinj hk242
          clear hk242
          subst hq
          refine at_then_ret ?_
          refine at_in_ret ?_
          refine at_then_ret ?_
          refine at_in_ret ?_
          refine at_then_ret ?_
          refine at_then_ret ?_
          refine at_fnil (Ty.int .i64) none ?_
          exact at_return (.tuple #[(.slice none 0 0), .bool false]) [0] hS Tryz.results155 (.cons (.tmp rfl) (.cons (.tmp rfl) .nil)) rfl rfl ⟨((.slice none 0 0)), rfl, rfl⟩
    · replace hr := ineg h244 hr
      refine at_false rfl (decide_eq_false (by omega)) ?_
      refine at_exit ?_
      refine at_then_exit ?_
      refine at_then_exit ?_
      refine at_in_exit ?_
      have hq := oinj hr
      clear hr
      subst hq
      exact at_leafP (x232, (v233, n234, i235)) rfl ⟨⟨rfl, trivial⟩, ⟨[], rfl⟩, ⟨[true], rfl⟩, ⟨[1, 2], rfl⟩⟩
  · rintro ⟨x236, ⟨v237, n238, i239⟩⟩ hp
    replace hr := hk242
    subst hp
    clear hl241
    change At _ _ (⟨[(4, v237)], [], [⟨v237, 3, 1, n238, i239⟩], [((Ty.int .i64).row x236 i239), (pureF (x236.length * (Ty.int .i64).bytes ≤ 140737488355328))]⟩ : St) _
    refine at_then ?_
    refine at_seq ?_
    refine at_region ?_
    refine at_lt (lt_move rfl) rfl ?_
    refine at_lt (lt_assign rfl) rfl ?_
    refine at_lt (lt_assign rfl) rfl ?_
    refine at_nil ?_
    refine at_then ?_
    refine at_ret ?_
    have hq := oinj hr
    clear hr
    subst hq
    refine at_pure 1 rfl (fun hb261 => ?_)
    refine at_release 0 0 rfl rfl rfl hb261 ?_
    exact at_return (.tuple #[v237, .bool true]) [0] hS Tryz.results155 (.cons (.tmp rfl) (.cons (.tmp rfl) .nil)) rfl rfl ⟨v237, rfl, rfl⟩
/-! 175 strings.trimLeftByte -/
def m175_l1 (a1 : UInt8) : Nat → Str → Option Str
  | 0, _ => none
  | k + 1, x263 =>
    if 0 < x263.length then
      (x263[0]?).bind fun c269 =>
      if c269.toNat = a1.toNat then
        if 1 ≤ x263.length then
          m175_l1 a1 k (x263.drop 1)
        else none
      else
        some x263
    else
      some x263
def m175 (a0 : Str) (a1 : UInt8) : Option Str :=
  (m175_l1 a1 (a0.length + 1) a0).bind fun x264 =>
  some x264
def post175 (r : Str) (v : Value) (fs : List Fact) : Prop := v = str r ∧ fs = [(Ty.str.fact r [str r])]
theorem en175 : Enters Tryz.prog 175 := ⟨_, Tryz.func175, by kernel_rfl, rfl⟩
theorem f175_spec {a0 : Str} {a1 : UInt8} {r : Str} (hr : m175 a0 a1 = some r) : Spec Tryz.prog 175 [str a0, .int .u8 (a1.toNat : Int)] [(Ty.str.fact a0 [str a0])] (post175 r) := by
  refine spec_start (N := 17) Tryz.func175 (by kernel_rfl) rfl rfl rfl ?_
  intro g hS
  unfold m175 at hr
  refine at_seq ?_
  refine at_region ?_
  refine at_lt (lt_assign rfl) rfl ?_
  refine at_nil ?_
  refine at_then ?_
  refine at_seq ?_
  replace hr := obind hr
  obtain ⟨x264, hl265, hr⟩ := hr
  refine at_cut (V := Unit) (fun e => (⟨[(0, str x264)], [], [], [(Ty.str.fact x264 [str x264])]⟩ : St)) ?_ ?_
  · refine at_block ?_
    refine at_loopW (σ := Str) (V := Unit) (r := x264) (fun n s => m175_l1 a1 n s) (fun s e => (⟨[(0, str s), (1, .int .u8 (a1.toNat : Int))], [], [], [(Ty.str.fact s [str s])]⟩ : St)) (fun _ => rfl) _ a0 () hl265 ⟨⟨rfl, ⟨rfl, trivial⟩⟩, ⟨[], rfl⟩, ⟨[], rfl⟩, ⟨[0], rfl⟩⟩ ?_
    clear hr hl265
    intro n x263 hr e
    skip
    skip
    change m175_l1 a1 (n + 1) x263 = some x264 at hr
    change At _ _ (⟨[(0, str x263), (1, .int .u8 (a1.toNat : Int))], [], [], [(Ty.str.fact x263 [str x263])]⟩ : St) _
    rw [m175_l1] at hr
    refine at_seq ?_
    refine at_seq ?_
    refine at_region ?_
    refine at_lt (lt_move rfl) rfl ?_
    refine at_inv 0 rfl (fun l267 => ?_)
    replace l267 : x263.length ≤ 9223372036854775807 := l267
    refine at_lt (lt_slen rfl und9) rfl ?_
    refine at_lt (lt_gtr rfl rfl) rfl ?_
    refine at_lt (lt_move rfl) rfl ?_
    by_cases h268 : 0 < x263.length
    · replace hr := ipos h268 hr
      refine at_on rfl rfl (decide_eq_true (by omega)) ?_
      refine at_lt (lt_move rfl) rfl ?_
      replace hr := obind hr
      obtain ⟨c269, h270, hr⟩ := hr
      have := (List.getElem?_eq_some_iff.1 h270).1
      have := c269.toNat_lt
      refine at_on rfl rfl (decide_eq_true (by omega)) ?_
      refine at_lt (lt_sidx rfl rfl und9 (by omega) h270) rfl ?_
      refine at_on rfl rfl (decide_eq_true (by omega)) ?_
      refine at_lt (lt_move rfl) rfl ?_
      refine at_on rfl rfl (decide_eq_true (by omega)) ?_
      refine at_lt (lt_eql rfl rfl) rfl ?_
      refine at_lt (lt_pick true rfl (decide_eq_true (by omega)) rfl) rfl ?_
      refine at_nil ?_
      refine at_then ?_
      by_cases h271 : c269.toNat = a1.toNat
      · replace hr := ipos h271 hr
        refine at_true rfl (decide_eq_true (by omega)) ?_
        refine at_skip ?_
        refine at_then ?_
        refine at_block ?_
        refine at_region ?_
        refine at_lt (lt_move rfl) rfl ?_
        replace hr := imust hr
        obtain ⟨h272, hr⟩ := hr
        refine at_lt (lt_scut_l 1 rfl rfl (by omega) und9 (by omega)) rfl ?_
        refine at_lt (lt_assign rfl) rfl ?_
        refine at_nil ?_
        refine at_in ?_
        refine at_str (x263.drop 1) (by simp only [List.length_take, List.length_drop]; omega) ?_
        exact at_again (σ := Str) (V := Unit) (lp := fun n s => m175_l1 a1 n s) (S := fun s e => (⟨[(0, str s), (1, .int .u8 (a1.toNat : Int))], [], [], [(Ty.str.fact s [str s])]⟩ : St)) (x263.drop 1) () hr ⟨⟨rfl, ⟨rfl, trivial⟩⟩, ⟨[], rfl⟩, ⟨[], rfl⟩, ⟨[0], rfl⟩⟩
      · replace hr := ineg h271 hr
        refine at_false rfl (decide_eq_false (by omega)) ?_
        refine at_exit ?_
        refine at_then_exit ?_
        refine at_then_exit ?_
        refine at_in_exit ?_
        have hq := oinj hr
        clear hr
        subst hq
        exact at_leaf () ⟨⟨rfl, trivial⟩, ⟨[], rfl⟩, ⟨[], rfl⟩, ⟨[0], rfl⟩⟩
    · replace hr := ineg h268 hr
      refine at_off rfl rfl (decide_eq_false (by omega)) rfl ?_
      refine at_off rfl rfl (decide_eq_false (by omega)) rfl ?_
      refine at_off rfl rfl (decide_eq_false (by omega)) rfl ?_
      refine at_off rfl rfl (decide_eq_false (by omega)) rfl ?_
      refine at_lt (lt_pick false rfl (decide_eq_false (by omega)) rfl) rfl ?_
      refine at_nil ?_
      refine at_then ?_
      refine at_false rfl rfl ?_
      refine at_exit ?_
      refine at_then_exit ?_
      refine at_then_exit ?_
      refine at_in_exit ?_
      have hq := oinj hr
      clear hr
      subst hq
      exact at_leaf () ⟨⟨rfl, trivial⟩, ⟨[], rfl⟩, ⟨[], rfl⟩, ⟨[0], rfl⟩⟩
  · clear hl265
    intro e
    change At _ _ (⟨[(0, str x264)], [], [], [(Ty.str.fact x264 [str x264])]⟩ : St) _
    refine at_then ?_
    refine at_seq ?_
    refine at_region ?_
    refine at_lt (lt_move rfl) rfl ?_
    refine at_lt (lt_assign rfl) rfl ?_
    refine at_nil ?_
    refine at_then ?_
    refine at_ret ?_
    have hq := oinj hr
    clear hr
    subst hq
    exact at_return (str x264) [0] hS Tryz.results175 (.cons (.tmp rfl) .nil) rfl rfl ⟨rfl, rfl⟩
/-! 176 strings.trimRightByte -/
def m176_l1 (a1 : UInt8) : Nat → Str → Option Str
  | 0, _ => none
  | k + 1, x273 =>
    if 0 < x273.length then
      (at? x273 ((x273.length : Int) - 1)).bind fun c279 =>
      if c279.toNat = a1.toNat then
        if 0 ≤ (x273.length : Int) - 1 ∧ ((x273.length : Int) - 1).toNat ≤ x273.length then
          m176_l1 a1 k (x273.take (((x273.length : Int) - 1).toNat))
        else none
      else
        some x273
    else
      some x273
def m176 (a0 : Str) (a1 : UInt8) : Option Str :=
  (m176_l1 a1 (a0.length + 1) a0).bind fun x274 =>
  some x274
def post176 (r : Str) (v : Value) (fs : List Fact) : Prop := v = str r ∧ fs = [(Ty.str.fact r [str r])]
theorem en176 : Enters Tryz.prog 176 := ⟨_, Tryz.func176, by kernel_rfl, rfl⟩
theorem f176_spec {a0 : Str} {a1 : UInt8} {r : Str} (hr : m176 a0 a1 = some r) : Spec Tryz.prog 176 [str a0, .int .u8 (a1.toNat : Int)] [(Ty.str.fact a0 [str a0])] (post176 r) := by
  refine spec_start (N := 23) Tryz.func176 (by kernel_rfl) rfl rfl rfl ?_
  intro g hS
  unfold m176 at hr
  refine at_seq ?_
  refine at_region ?_
  refine at_lt (lt_assign rfl) rfl ?_
  refine at_nil ?_
  refine at_then ?_
  refine at_seq ?_
  replace hr := obind hr
  obtain ⟨x274, hl275, hr⟩ := hr
  refine at_cut (V := Unit) (fun e => (⟨[(0, str x274)], [], [], [(Ty.str.fact x274 [str x274])]⟩ : St)) ?_ ?_
  · refine at_block ?_
    refine at_loopW (σ := Str) (V := Unit) (r := x274) (fun n s => m176_l1 a1 n s) (fun s e => (⟨[(0, str s), (1, .int .u8 (a1.toNat : Int))], [], [], [(Ty.str.fact s [str s])]⟩ : St)) (fun _ => rfl) _ a0 () hl275 ⟨⟨rfl, ⟨rfl, trivial⟩⟩, ⟨[], rfl⟩, ⟨[], rfl⟩, ⟨[0], rfl⟩⟩ ?_
    clear hr hl275
    intro n x273 hr e
    skip
    skip
    change m176_l1 a1 (n + 1) x273 = some x274 at hr
    change At _ _ (⟨[(0, str x273), (1, .int .u8 (a1.toNat : Int))], [], [], [(Ty.str.fact x273 [str x273])]⟩ : St) _
    rw [m176_l1] at hr
    refine at_seq ?_
    refine at_seq ?_
    refine at_region ?_
    refine at_lt (lt_move rfl) rfl ?_
    refine at_inv 0 rfl (fun l277 => ?_)
    replace l277 : x273.length ≤ 9223372036854775807 := l277
    refine at_lt (lt_slen rfl und9) rfl ?_
    refine at_lt (lt_gtr rfl rfl) rfl ?_
    refine at_lt (lt_move rfl) rfl ?_
    by_cases h278 : 0 < x273.length
    · replace hr := ipos h278 hr
      refine at_on rfl rfl (decide_eq_true (by omega)) ?_
      refine at_lt (lt_move rfl) rfl ?_
      refine at_on rfl rfl (decide_eq_true (by omega)) ?_
      refine at_lt (lt_move rfl) rfl ?_
      refine at_on rfl rfl (decide_eq_true (by omega)) ?_
      refine at_lt (lt_slen rfl und9) rfl ?_
      refine at_on rfl rfl (decide_eq_true (by omega)) ?_
      refine at_lt (lt_sub rfl rfl (by simp only [lo, hi]; omega)) rfl ?_
      replace hr := obind hr
      obtain ⟨c279, h280, hr⟩ := hr
      have := at?_lt h280
      have := c279.toNat_lt
      refine at_on rfl rfl (decide_eq_true (by omega)) ?_
      refine at_lt (lt_sidx rfl rfl und9 (at?_lt h280).1 (at?_get h280)) rfl ?_
      refine at_on rfl rfl (decide_eq_true (by omega)) ?_
      refine at_lt (lt_move rfl) rfl ?_
      refine at_on rfl rfl (decide_eq_true (by omega)) ?_
      refine at_lt (lt_eql rfl rfl) rfl ?_
      refine at_lt (lt_pick true rfl (decide_eq_true (by omega)) rfl) rfl ?_
      refine at_nil ?_
      refine at_then ?_
      by_cases h281 : c279.toNat = a1.toNat
      · replace hr := ipos h281 hr
        refine at_true rfl (decide_eq_true (by omega)) ?_
        refine at_skip ?_
        refine at_then ?_
        refine at_block ?_
        refine at_region ?_
        refine at_lt (lt_move rfl) rfl ?_
        refine at_lt (lt_move rfl) rfl ?_
        refine at_lt (lt_slen rfl und9) rfl ?_
        refine at_lt (lt_sub rfl rfl (by simp only [lo, hi]; omega)) rfl ?_
        replace hr := imust hr
        obtain ⟨h282, hr⟩ := hr
        refine at_lt (lt_scut_h (((x273.length : Int) - 1).toNat) rfl rfl (by omega) und9 (by omega)) rfl ?_
        refine at_lt (lt_assign rfl) rfl ?_
        refine at_nil ?_
        refine at_in ?_
        refine at_str (x273.take (((x273.length : Int) - 1).toNat)) (by simp only [List.length_take, List.length_drop]; omega) ?_
        exact at_again (σ := Str) (V := Unit) (lp := fun n s => m176_l1 a1 n s) (S := fun s e => (⟨[(0, str s), (1, .int .u8 (a1.toNat : Int))], [], [], [(Ty.str.fact s [str s])]⟩ : St)) (x273.take (((x273.length : Int) - 1).toNat)) () hr ⟨⟨rfl, ⟨rfl, trivial⟩⟩, ⟨[], rfl⟩, ⟨[], rfl⟩, ⟨[0], rfl⟩⟩
      · replace hr := ineg h281 hr
        refine at_false rfl (decide_eq_false (by omega)) ?_
        refine at_exit ?_
        refine at_then_exit ?_
        refine at_then_exit ?_
        refine at_in_exit ?_
        have hq := oinj hr
        clear hr
        subst hq
        exact at_leaf () ⟨⟨rfl, trivial⟩, ⟨[], rfl⟩, ⟨[], rfl⟩, ⟨[0], rfl⟩⟩
    · replace hr := ineg h278 hr
      refine at_off rfl rfl (decide_eq_false (by omega)) rfl ?_
      refine at_off rfl rfl (decide_eq_false (by omega)) rfl ?_
      refine at_off rfl rfl (decide_eq_false (by omega)) rfl ?_
      refine at_off rfl rfl (decide_eq_false (by omega)) rfl ?_
      refine at_off rfl rfl (decide_eq_false (by omega)) rfl ?_
      refine at_off rfl rfl (decide_eq_false (by omega)) rfl ?_
      refine at_off rfl rfl (decide_eq_false (by omega)) rfl ?_
      refine at_lt (lt_pick false rfl (decide_eq_false (by omega)) rfl) rfl ?_
      refine at_nil ?_
      refine at_then ?_
      refine at_false rfl rfl ?_
      refine at_exit ?_
      refine at_then_exit ?_
      refine at_then_exit ?_
      refine at_in_exit ?_
      have hq := oinj hr
      clear hr
      subst hq
      exact at_leaf () ⟨⟨rfl, trivial⟩, ⟨[], rfl⟩, ⟨[], rfl⟩, ⟨[0], rfl⟩⟩
  · clear hl275
    intro e
    change At _ _ (⟨[(0, str x274)], [], [], [(Ty.str.fact x274 [str x274])]⟩ : St) _
    refine at_then ?_
    refine at_seq ?_
    refine at_region ?_
    refine at_lt (lt_move rfl) rfl ?_
    refine at_lt (lt_assign rfl) rfl ?_
    refine at_nil ?_
    refine at_then ?_
    refine at_ret ?_
    have hq := oinj hr
    clear hr
    subst hq
    exact at_return (str x274) [0] hS Tryz.results176 (.cons (.tmp rfl) .nil) rfl rfl ⟨rfl, rfl⟩
/-! 180 strings.trimLeftUnicode -/
def m180_l1 : Nat → Str → Option Str
  | 0, _ => none
  | k + 1, x283 =>
    if 0 < x283.length then
      none
    else
      some x283
def m180 (a0 : Str) (a1 : Str) : Option Str :=
  (m180_l1 (a0.length + 1) a0).bind fun x284 =>
  some x284
def post180 (r : Str) (v : Value) (fs : List Fact) : Prop := v = str r ∧ fs = [(Ty.str.fact r [str r])]
theorem en180 : Enters Tryz.prog 180 := ⟨_, Tryz.func180, by kernel_rfl, rfl⟩
theorem f180_spec {a0 : Str} {a1 : Str} {r : Str} (hr : m180 a0 a1 = some r) : Spec Tryz.prog 180 [str a0, str a1] [(Ty.str.fact a0 [str a0]), (Ty.str.fact a1 [str a1])] (post180 r) := by
  refine spec_start (N := 23) Tryz.func180 (by kernel_rfl) rfl rfl rfl ?_
  intro g hS
  unfold m180 at hr
  refine at_seq ?_
  refine at_region ?_
  refine at_lt (lt_assign rfl) rfl ?_
  refine at_nil ?_
  refine at_then ?_
  refine at_seq ?_
  replace hr := obind hr
  obtain ⟨x284, hl285, hr⟩ := hr
  refine at_cut (V := Unit) (fun e => (⟨[(0, str x284)], [], [], [(Ty.str.fact x284 [str x284])]⟩ : St)) ?_ ?_
  · refine at_block ?_
    refine at_loopW (σ := Str) (V := Unit) (r := x284) (fun n s => m180_l1 n s) (fun s e => (⟨[(0, str s), (1, str a1)], [], [], [(Ty.str.fact s [str s]), (Ty.str.fact a1 [str a1])]⟩ : St)) (fun _ => rfl) _ a0 () hl285 ⟨⟨rfl, ⟨rfl, trivial⟩⟩, ⟨[], rfl⟩, ⟨[], rfl⟩, ⟨[0, 1], rfl⟩⟩ ?_
    clear hr hl285
    intro n x283 hr e
    skip
    skip
    change m180_l1 (n + 1) x283 = some x284 at hr
    change At _ _ (⟨[(0, str x283), (1, str a1)], [], [], [(Ty.str.fact x283 [str x283]), (Ty.str.fact a1 [str a1])]⟩ : St) _
    rw [m180_l1] at hr
    refine at_seq ?_
    refine at_seq ?_
    refine at_region ?_
    refine at_lt (lt_move rfl) rfl ?_
    refine at_inv 0 rfl (fun l287 => ?_)
    replace l287 : x283.length ≤ 9223372036854775807 := l287
    refine at_lt (lt_slen rfl und9) rfl ?_
    refine at_lt (lt_gtr rfl rfl) rfl ?_
    refine at_nil ?_
    refine at_then ?_
    by_cases h288 : 0 < x283.length
    · replace hr := ipos h288 hr
      cases hr
    · replace hr := ineg h288 hr
      refine at_false rfl (decide_eq_false (by omega)) ?_
      refine at_exit ?_
      refine at_then_exit ?_
      refine at_then_exit ?_
      refine at_in_exit ?_
      have hq := oinj hr
      clear hr
      subst hq
      exact at_leaf () ⟨⟨rfl, trivial⟩, ⟨[], rfl⟩, ⟨[], rfl⟩, ⟨[0], rfl⟩⟩
  · clear hl285
    intro e
    change At _ _ (⟨[(0, str x284)], [], [], [(Ty.str.fact x284 [str x284])]⟩ : St) _
    refine at_then ?_
    refine at_seq ?_
    refine at_region ?_
    refine at_lt (lt_move rfl) rfl ?_
    refine at_lt (lt_assign rfl) rfl ?_
    refine at_nil ?_
    refine at_then ?_
    refine at_ret ?_
    have hq := oinj hr
    clear hr
    subst hq
    exact at_return (str x284) [0] hS Tryz.results180 (.cons (.tmp rfl) .nil) rfl rfl ⟨rfl, rfl⟩
/-! 196 unicode/utf8.RuneStart -/
def m196 (a0 : UInt8) : Option Bool :=
  some (!decide (bits .and .u8 (a0.toNat : Int) 192 = 128))
def post196 (r : Bool) (v : Value) (fs : List Fact) : Prop := v = .bool r ∧ fs = []
theorem en196 : Enters Tryz.prog 196 := ⟨_, Tryz.func196, by kernel_rfl, rfl⟩
theorem f196_spec {a0 : UInt8} {r : Bool} (hr : m196 a0 = some r) : Spec Tryz.prog 196 [.int .u8 (a0.toNat : Int)] [] (post196 r) := by
  refine spec_start (N := 6) Tryz.func196 (by kernel_rfl) rfl rfl rfl ?_
  intro g hS
  unfold m196 at hr
  refine at_seq ?_
  refine at_region ?_
  refine at_lt (lt_assign rfl) rfl ?_
  refine at_nil ?_
  refine at_then ?_
  refine at_seq ?_
  refine at_region ?_
  refine at_lt (lt_move rfl) rfl ?_
  refine at_lt (lt_and rfl rfl) rfl ?_
  refine at_lt (lt_neq rfl rfl) rfl ?_
  refine at_lt (lt_assign rfl) rfl ?_
  refine at_nil ?_
  refine at_then ?_
  refine at_ret ?_
  have hq := oinj hr
  clear hr
  subst hq
  exact at_return (.bool (!decide (bits .and .u8 (a0.toNat : Int) 192 = 128))) [] hS Tryz.results196 (.cons (.tmp rfl) .nil) rfl rfl ⟨rfl, rfl⟩
/-! 191 unicode/utf8.DecodeLastRuneInString -/
def m191 (a0 : Str) : Option (Int × Int) :=
  if a0.length = 0 then
    some (65533, 0)
  else
    (at? a0 ((a0.length : Int) - 1)).bind fun c297 =>
    if (c297.toNat : Int) < 128 then
      some ((c297.toNat : Int), 1)
    else
      none
def post191 (r : (Int × Int)) (v : Value) (fs : List Fact) : Prop := v = .tuple #[.int .i32 r.1, .int .i64 r.2] ∧ fs = [((Ty.int .i32).fact r.1 [.int .i32 r.1]), ((Ty.int .i64).fact r.2 [.int .i64 r.2])]
theorem en191 : Enters Tryz.prog 191 := ⟨_, Tryz.func191, by kernel_rfl, rfl⟩
theorem f191_spec {a0 : Str} {r : (Int × Int)} (hr : m191 a0 = some r) : Spec Tryz.prog 191 [str a0] [(Ty.str.fact a0 [str a0])] (post191 r) := by
  refine spec_start (N := 51) Tryz.func191 (by kernel_rfl) rfl rfl rfl ?_
  intro g hS
  unfold m191 at hr
  refine at_seq ?_
  refine at_region ?_
  refine at_lt (lt_assign rfl) rfl ?_
  refine at_lt (lt_assign rfl) rfl ?_
  refine at_nil ?_
  refine at_then ?_
  refine at_seq ?_
  refine at_region ?_
  refine at_lt (lt_move rfl) rfl ?_
  refine at_inv 0 rfl (fun l295 => ?_)
  replace l295 : a0.length ≤ 9223372036854775807 := l295
  refine at_lt (lt_slen rfl und9) rfl ?_
  refine at_lt (lt_assign rfl) rfl ?_
  refine at_nil ?_
  refine at_then ?_
  refine at_seq ?_
  refine at_seq ?_
  refine at_region ?_
  refine at_lt (lt_move rfl) rfl ?_
  refine at_lt (lt_eql rfl rfl) rfl ?_
  refine at_nil ?_
  refine at_then ?_
  by_cases h296 : a0.length = 0
  · replace hr := ipos h296 hr
    refine at_true rfl (decide_eq_true (by omega)) ?_
    refine at_seq ?_
    refine at_region ?_
    refine at_lt (lt_assign rfl) rfl ?_
    refine at_lt (lt_assign rfl) rfl ?_
    refine at_nil ?_
    refine at_then ?_
    refine at_ret ?_
    have hq := oinj hr
    clear hr
    subst hq
    refine at_then_ret ?_
    refine at_int .i32 65533 (by simp only [lo, hi]; omega) ?_
    refine at_int .i64 0 (by simp only [lo, hi]; omega) ?_
    exact at_return (.tuple #[.int .i32 65533, .int .i64 0]) [1, 0] hS Tryz.results191 (.cons (.tmp rfl) (.cons (.tmp rfl) .nil)) rfl rfl ⟨rfl, rfl⟩
  · replace hr := ineg h296 hr
    refine at_false rfl (decide_eq_false (by omega)) ?_
    refine at_skip ?_
    refine at_then ?_
    refine at_seq ?_
    refine at_region ?_
    refine at_lt (lt_move rfl) rfl ?_
    refine at_lt (lt_sub rfl rfl (by simp only [lo, hi]; omega)) rfl ?_
    refine at_lt (lt_assign rfl) rfl ?_
    refine at_nil ?_
    refine at_then ?_
    refine at_seq ?_
    refine at_region ?_
    refine at_lt (lt_move rfl) rfl ?_
    refine at_lt (lt_move rfl) rfl ?_
    replace hr := obind hr
    obtain ⟨c297, h298, hr⟩ := hr
    have := at?_lt h298
    have := c297.toNat_lt
    refine at_lt (lt_sidx rfl rfl und9 (at?_lt h298).1 (at?_get h298)) rfl ?_
    refine at_lt (lt_convint rfl (iso und5) und21 (u8_in_i32 c297)) rfl ?_
    refine at_lt (lt_assign rfl) rfl ?_
    refine at_nil ?_
    refine at_then ?_
    refine at_seq ?_
    refine at_seq ?_
    refine at_region ?_
    refine at_lt (lt_move rfl) rfl ?_
    refine at_lt (lt_lss rfl rfl) rfl ?_
    refine at_nil ?_
    refine at_then ?_
    by_cases h299 : (c297.toNat : Int) < 128
    · replace hr := ipos h299 hr
      refine at_true rfl (decide_eq_true (by first | exact h299 | omega)) ?_
      refine at_seq ?_
      refine at_region ?_
      refine at_lt (lt_move rfl) rfl ?_
      refine at_lt (lt_assign rfl) rfl ?_
      refine at_lt (lt_assign rfl) rfl ?_
      refine at_nil ?_
      refine at_then ?_
      refine at_ret ?_
      have hq := oinj hr
      clear hr
      subst hq
      refine at_then_ret ?_
      refine at_int .i32 (c297.toNat : Int) (u8_in_i32 c297) ?_
      refine at_int .i64 1 (by simp only [lo, hi]; omega) ?_
      exact at_return (.tuple #[.int .i32 (c297.toNat : Int), .int .i64 1]) [1, 0] hS Tryz.results191 (.cons (.tmp rfl) (.cons (.tmp rfl) .nil)) rfl rfl ⟨rfl, rfl⟩
    · replace hr := ineg h299 hr
      cases hr
/-! 181 strings.trimRightUnicode -/
def m181_l1 : Nat → Str → Option Str
  | 0, _ => none
  | k + 1, x300 =>
    if 0 < x300.length then
      none
    else
      some x300
def m181 (a0 : Str) (a1 : Str) : Option Str :=
  (m181_l1 (a0.length + 1) a0).bind fun x301 =>
  some x301
def post181 (r : Str) (v : Value) (fs : List Fact) : Prop := v = str r ∧ fs = [(Ty.str.fact r [str r])]
theorem en181 : Enters Tryz.prog 181 := ⟨_, Tryz.func181, by kernel_rfl, rfl⟩
theorem f181_spec {a0 : Str} {a1 : Str} {r : Str} (hr : m181 a0 a1 = some r) : Spec Tryz.prog 181 [str a0, str a1] [(Ty.str.fact a0 [str a0]), (Ty.str.fact a1 [str a1])] (post181 r) := by
  refine spec_start (N := 34) Tryz.func181 (by kernel_rfl) rfl rfl rfl ?_
  intro g hS
  unfold m181 at hr
  refine at_seq ?_
  refine at_region ?_
  refine at_lt (lt_assign rfl) rfl ?_
  refine at_nil ?_
  refine at_then ?_
  refine at_seq ?_
  replace hr := obind hr
  obtain ⟨x301, hl302, hr⟩ := hr
  refine at_cut (V := Unit) (fun e => (⟨[(0, str x301)], [], [], [(Ty.str.fact x301 [str x301])]⟩ : St)) ?_ ?_
  · refine at_block ?_
    refine at_loopW (σ := Str) (V := Unit) (r := x301) (fun n s => m181_l1 n s) (fun s e => (⟨[(0, str s), (1, str a1)], [], [], [(Ty.str.fact s [str s]), (Ty.str.fact a1 [str a1])]⟩ : St)) (fun _ => rfl) _ a0 () hl302 ⟨⟨rfl, ⟨rfl, trivial⟩⟩, ⟨[], rfl⟩, ⟨[], rfl⟩, ⟨[0, 1], rfl⟩⟩ ?_
    clear hr hl302
    intro n x300 hr e
    skip
    skip
    change m181_l1 (n + 1) x300 = some x301 at hr
    change At _ _ (⟨[(0, str x300), (1, str a1)], [], [], [(Ty.str.fact x300 [str x300]), (Ty.str.fact a1 [str a1])]⟩ : St) _
    rw [m181_l1] at hr
    refine at_seq ?_
    refine at_seq ?_
    refine at_region ?_
    refine at_lt (lt_move rfl) rfl ?_
    refine at_inv 0 rfl (fun l304 => ?_)
    replace l304 : x300.length ≤ 9223372036854775807 := l304
    refine at_lt (lt_slen rfl und9) rfl ?_
    refine at_lt (lt_gtr rfl rfl) rfl ?_
    refine at_nil ?_
    refine at_then ?_
    by_cases h305 : 0 < x300.length
    · replace hr := ipos h305 hr
      cases hr
    · replace hr := ineg h305 hr
      refine at_false rfl (decide_eq_false (by omega)) ?_
      refine at_exit ?_
      refine at_then_exit ?_
      refine at_then_exit ?_
      refine at_in_exit ?_
      have hq := oinj hr
      clear hr
      subst hq
      exact at_leaf () ⟨⟨rfl, trivial⟩, ⟨[], rfl⟩, ⟨[], rfl⟩, ⟨[0], rfl⟩⟩
  · clear hl302
    intro e
    change At _ _ (⟨[(0, str x301)], [], [], [(Ty.str.fact x301 [str x301])]⟩ : St) _
    refine at_then ?_
    refine at_seq ?_
    refine at_region ?_
    refine at_lt (lt_move rfl) rfl ?_
    refine at_lt (lt_assign rfl) rfl ?_
    refine at_nil ?_
    refine at_then ?_
    refine at_ret ?_
    have hq := oinj hr
    clear hr
    subst hq
    exact at_return (str x301) [0] hS Tryz.results181 (.cons (.tmp rfl) .nil) rfl rfl ⟨rfl, rfl⟩
/-! 156 strings.Trim -/
def m156 (a0 : Str) (a1 : Str) : Option Str :=
  if a0 = ([] : Str) then
    some a0
  else
    if a1 = ([] : Str) then
      some a0
    else
      Option.bind (α := Bool) (
        if a1.length = 1 then
          (a1[0]?).bind fun c327 =>
          some (decide ((c327.toNat : Int) < 128))
        else
          some false
      ) fun x323 =>
      if x323 = true then
        (a1[0]?).bind fun c330 =>
        (m176 a0 c330).bind fun x332 =>
        (a1[0]?).bind fun c334 =>
        (m175 x332 c334).bind fun x336 =>
        some x336
      else
        none
def post156 (r : Str) (v : Value) (fs : List Fact) : Prop := v = str r ∧ fs = [(Ty.str.fact r [str r])]
theorem en156 : Enters Tryz.prog 156 := ⟨_, Tryz.func156, by kernel_rfl, rfl⟩
theorem f156_spec {a0 : Str} {a1 : Str} {r : Str} (hr : m156 a0 a1 = some r) : Spec Tryz.prog 156 [str a0, str a1] [(Ty.str.fact a0 [str a0]), (Ty.str.fact a1 [str a1])] (post156 r) := by
  refine spec_start (N := 43) Tryz.func156 (by kernel_rfl) rfl rfl rfl ?_
  intro g hS
  unfold m156 at hr
  refine at_seq ?_
  refine at_region ?_
  refine at_lt (lt_assign rfl) rfl ?_
  refine at_nil ?_
  refine at_then ?_
  refine at_seq ?_
  refine at_seq ?_
  refine at_region ?_
  refine at_lt (lt_move rfl) rfl ?_
  refine at_lt (lt_seql rfl rfl) rfl ?_
  refine at_lt (lt_move rfl) rfl ?_
  by_cases h321 : a0 = ([] : Str)
  · replace hr := ipos h321 hr
    refine at_off rfl rfl (decide_eq_true h321) rfl ?_
    refine at_off rfl rfl (decide_eq_true h321) rfl ?_
    refine at_lt (lt_pick true rfl (decide_eq_true h321) rfl) rfl ?_
    refine at_nil ?_
    refine at_then ?_
    refine at_true rfl rfl ?_
    refine at_seq ?_
    refine at_region ?_
    refine at_lt (lt_move rfl) rfl ?_
    refine at_lt (lt_assign rfl) rfl ?_
    refine at_nil ?_
    refine at_then ?_
    refine at_ret ?_
    have hq := oinj hr
    clear hr
    subst hq
    refine at_then_ret ?_
    exact at_return (str a0) [0] hS Tryz.results156 (.cons (.tmp rfl) .nil) rfl rfl ⟨rfl, rfl⟩
  · replace hr := ineg h321 hr
    refine at_on rfl rfl (decide_eq_false h321) ?_
    refine at_lt (lt_move rfl) rfl ?_
    refine at_on rfl rfl (decide_eq_false h321) ?_
    refine at_lt (lt_seql rfl rfl) rfl ?_
    refine at_lt (lt_pick false rfl (decide_eq_false h321) rfl) rfl ?_
    refine at_nil ?_
    refine at_then ?_
    by_cases h322 : a1 = ([] : Str)
    · replace hr := ipos h322 hr
      refine at_true rfl (decide_eq_true h322) ?_
      refine at_seq ?_
      refine at_region ?_
      refine at_lt (lt_move rfl) rfl ?_
      refine at_lt (lt_assign rfl) rfl ?_
      refine at_nil ?_
      refine at_then ?_
      refine at_ret ?_
      have hq := oinj hr
      clear hr
      subst hq
      refine at_then_ret ?_
      exact at_return (str a0) [0] hS Tryz.results156 (.cons (.tmp rfl) .nil) rfl rfl ⟨rfl, rfl⟩
    · replace hr := ineg h322 hr
      refine at_false rfl (decide_eq_false h322) ?_
      refine at_skip ?_
      refine at_then ?_
      refine at_seq ?_
      refine at_seq ?_
      replace hr := obind hr
      obtain ⟨x323, hc324, hr⟩ := hr
      refine at_cut (V := Unit) (fun e => (⟨[(0, str a0), (1, str a1), (21, .bool x323)], [], [], [(Ty.str.fact a0 [str a0]), (Ty.str.fact a1 [str a1])]⟩ : St)) ?_ ?_
      · clear hr
        have hr := hc324
        clear hc324
        refine at_region ?_
        refine at_lt (lt_move rfl) rfl ?_
        refine at_inv 1 rfl (fun l325 => ?_)
        replace l325 : a1.length ≤ 9223372036854775807 := l325
        refine at_lt (lt_slen rfl und9) rfl ?_
        refine at_lt (lt_eql rfl rfl) rfl ?_
        refine at_lt (lt_move rfl) rfl ?_
        by_cases h326 : a1.length = 1
        · replace hr := ipos h326 hr
          refine at_on rfl rfl (decide_eq_true (by omega)) ?_
          refine at_lt (lt_move rfl) rfl ?_
          replace hr := obind hr
          obtain ⟨c327, h328, hr⟩ := hr
          have := (List.getElem?_eq_some_iff.1 h328).1
          have := c327.toNat_lt
          refine at_on rfl rfl (decide_eq_true (by omega)) ?_
          refine at_lt (lt_sidx rfl rfl und9 (by omega) h328) rfl ?_
          refine at_on rfl rfl (decide_eq_true (by omega)) ?_
          refine at_lt (lt_lss rfl rfl) rfl ?_
          refine at_lt (lt_pick true rfl (decide_eq_true (by omega)) rfl) rfl ?_
          refine at_nil ?_
          have hq := oinj hr
          clear hr
          subst hq
          exact at_leaf () ⟨⟨rfl, ⟨rfl, ⟨rfl, trivial⟩⟩⟩, ⟨[], rfl⟩, ⟨[], rfl⟩, ⟨[0, 1], rfl⟩⟩
        · replace hr := ineg h326 hr
          refine at_off rfl rfl (decide_eq_false (by omega)) rfl ?_
          refine at_off rfl rfl (decide_eq_false (by omega)) rfl ?_
          refine at_off rfl rfl (decide_eq_false (by omega)) rfl ?_
          refine at_lt (lt_pick false rfl (decide_eq_false (by omega)) rfl) rfl ?_
          refine at_nil ?_
          have hq := oinj hr
          clear hr
          subst hq
          exact at_leaf () ⟨⟨rfl, ⟨rfl, ⟨rfl, trivial⟩⟩⟩, ⟨[], rfl⟩, ⟨[], rfl⟩, ⟨[0, 1], rfl⟩⟩
      · clear hc324
        intro _
        change At _ _ (⟨[(0, str a0), (1, str a1), (21, .bool x323)], [], [], [(Ty.str.fact a0 [str a0]), (Ty.str.fact a1 [str a1])]⟩ : St) _
        refine at_then ?_
        by_cases h329 : x323 = true
        · replace hr := ipos h329 hr
          refine at_true rfl h329 ?_
          refine at_seq ?_
          replace hr := obind hr
          obtain ⟨c330, h331, hr⟩ := hr
          have := (List.getElem?_eq_some_iff.1 h331).1
          have := c330.toNat_lt
          replace hr := obind hr
          obtain ⟨x332, h333, hr⟩ := hr
          replace hr := obind hr
          obtain ⟨c334, h335, hr⟩ := hr
          have := (List.getElem?_eq_some_iff.1 h335).1
          have := c334.toNat_lt
          replace hr := obind hr
          obtain ⟨x336, h337, hr⟩ := hr
          refine aa_start 8 (by kernel_rfl) ?_
          refine aa_pure (bs' := [true, false, false, false, false, false, false, false]) 0 rfl (by kernel_rfl) rfl rfl (lt_move rfl) rfl (ts_in 0 0 rfl rfl) ?_
          refine aa_pure (bs' := [true, true, false, false, false, false, false, false]) 1 rfl (by kernel_rfl) rfl rfl (lt_move rfl) rfl (ts_in 0 0 rfl rfl) ?_
          refine aa_pure (bs' := [true, true, true, false, false, false, false, false]) 2 rfl (by kernel_rfl) rfl rfl (lt_sidx rfl rfl und9 (by omega) h331) rfl (ts_in 0 0 rfl rfl) ?_
          refine aa_pure (bs' := [true, true, true, false, true, false, false, false]) 4 rfl (by kernel_rfl) rfl rfl (lt_move rfl) rfl (ts_in 0 0 rfl rfl) ?_
          refine aa_pure (bs' := [true, true, true, false, true, true, false, false]) 5 rfl (by kernel_rfl) rfl rfl (lt_sidx rfl rfl und9 (by omega) h335) rfl (ts_in 0 0 rfl rfl) ?_
          refine aa_all (rs := [3]) (by kernel_rfl) rfl (ts_in 0 0 rfl rfl) (List.forall_mem_singleton.2 ?_)
          refine aa_op rfl rfl ?_
          refine hv_call0 [0] (f176_spec h333) rfl rfl rfl rfl ?_
          rintro _ _ ⟨rfl, rfl⟩
          refine aa_all (rs := [6]) (by kernel_rfl) rfl (ts_in 0 1 rfl rfl) (List.forall_mem_singleton.2 ?_)
          refine aa_op rfl rfl ?_
          refine hv_call0 [0] (f175_spec h337) rfl rfl rfl rfl ?_
          rintro _ _ ⟨rfl, rfl⟩
          refine aa_pure (bs' := [true, true, true, true, true, true, true, true]) 7 rfl (by kernel_rfl) rfl rfl (lt_assign rfl) rfl (ts_in 0 2 rfl rfl) ?_
          refine aa_done (by kernel_rfl) (ts_in 0 2 rfl rfl) ?_
          refine at_then ?_
          refine at_ret ?_
          have hq := oinj hr
          clear hr
          subst hq
          refine at_then_ret ?_
          exact at_return (str x336) [0] hS Tryz.results156 (.cons (.tmp rfl) .nil) rfl rfl ⟨rfl, rfl⟩
        · replace hr := ineg h329 hr
          cases hr
/-! 122 bookplate/repertoire.Valid -/
def m122 (a0 : Str) : Option Bool :=
  (m155 a0).bind fun x340 =>
  if x340.2 = true then
    if a0 = ([] : Str) then
      some false
    else
      if a0.length ≤ 400 then
        (m156 a0 ([32] : Str)).bind fun x347 =>
        some (decide (x347 = a0))
      else
        some false
  else
    some false
def post122 (r : Bool) (v : Value) (fs : List Fact) : Prop := v = .bool r ∧ fs = []
theorem en122 : Enters Tryz.prog 122 := ⟨_, Tryz.func122, by kernel_rfl, rfl⟩
theorem f122_spec {a0 : Str} {r : Bool} (hr : m122 a0 = some r) : Spec Tryz.prog 122 [str a0] [(Ty.str.fact a0 [str a0])] (post122 r) := by
  refine spec_start (N := 26) Tryz.func122 (by kernel_rfl) rfl rfl rfl ?_
  intro g hS
  unfold m122 at hr
  refine at_seq ?_
  refine at_region ?_
  refine at_lt (lt_assign rfl) rfl ?_
  refine at_nil ?_
  refine at_then ?_
  refine at_seq ?_
  refine at_region ?_
  refine at_lt (lt_move rfl) rfl ?_
  replace hr := obind hr
  obtain ⟨x340, h341, hr⟩ := hr
  refine at_hv rfl ?_
  refine hv_call0 [0] (f155_spec h341) rfl rfl rfl rfl ?_
  rintro _ _ ⟨s342, rfl, rfl⟩
  refine at_lt (lt_move rfl) rfl ?_
  refine at_lt (lt_extract rfl rfl) rfl ?_
  refine at_lt (lt_extract rfl rfl) rfl ?_
  refine at_lt (lt_assign rfl) rfl ?_
  refine at_lt (lt_assign rfl) rfl ?_
  refine at_nil ?_
  refine at_then ?_
  refine at_seq ?_
  refine at_region ?_
  refine at_lt (lt_move rfl) rfl ?_
  refine at_lt (lt_move rfl) rfl ?_
  by_cases h343 : x340.2 = true
  · replace hr := ipos h343 hr
    refine at_on rfl rfl h343 ?_
    refine at_lt (lt_move rfl) rfl ?_
    refine at_on rfl rfl h343 ?_
    refine at_lt (lt_sneq rfl rfl) rfl ?_
    refine at_lt (lt_pick true rfl h343 rfl) rfl ?_
    refine at_lt (lt_move rfl) rfl ?_
    by_cases h344 : a0 = ([] : Str)
    · replace hr := ipos h344 hr
      refine at_off rfl rfl (nt (decide_eq_true h344)) rfl ?_
      refine at_off rfl rfl (nt (decide_eq_true h344)) rfl ?_
      refine at_off rfl rfl (nt (decide_eq_true h344)) rfl ?_
      refine at_lt (lt_pick false rfl (nt (decide_eq_true h344)) rfl) rfl ?_
      refine at_lt (lt_move rfl) rfl ?_
      refine at_off rfl rfl rfl rfl ?_
      refine at_off rfl rfl rfl rfl ?_
      refine at_off rfl rfl rfl rfl ?_
      refine at_off rfl rfl rfl rfl ?_
      refine at_lt (lt_pick false rfl rfl rfl) rfl ?_
      refine at_lt (lt_assign rfl) rfl ?_
      refine at_nil ?_
      refine at_then ?_
      refine at_ret ?_
      have hq := oinj hr
      clear hr
      subst hq
      exact at_return (.bool false) [] hS Tryz.results122 (.cons (.tmp rfl) .nil) rfl rfl ⟨rfl, rfl⟩
    · replace hr := ineg h344 hr
      refine at_on rfl rfl (nf (decide_eq_false h344)) ?_
      refine at_lt (lt_move rfl) rfl ?_
      refine at_inv 1 rfl (fun l345 => ?_)
      replace l345 : a0.length ≤ 9223372036854775807 := l345
      refine at_on rfl rfl (nf (decide_eq_false h344)) ?_
      refine at_lt (lt_slen rfl und9) rfl ?_
      refine at_on rfl rfl (nf (decide_eq_false h344)) ?_
      refine at_lt (lt_leq rfl rfl) rfl ?_
      refine at_lt (lt_pick true rfl (nf (decide_eq_false h344)) rfl) rfl ?_
      refine at_lt (lt_move rfl) rfl ?_
      by_cases h346 : a0.length ≤ 400
      · replace hr := ipos h346 hr
        refine at_on rfl rfl (decide_eq_true (by omega)) ?_
        refine at_lt (lt_move rfl) rfl ?_
        replace hr := obind hr
        obtain ⟨x347, h348, hr⟩ := hr
        refine at_str ([32] : Str) (by decide) ?_
        refine at_on rfl rfl (decide_eq_true (by omega)) ?_
        refine at_hv rfl ?_
        refine hv_call0 [2, 0] (f156_spec h348) rfl rfl rfl rfl ?_
        rintro _ _ ⟨rfl, rfl⟩
        refine at_on rfl rfl (decide_eq_true (by omega)) ?_
        refine at_lt (lt_move rfl) rfl ?_
        refine at_on rfl rfl (decide_eq_true (by omega)) ?_
        refine at_lt (lt_seql rfl rfl) rfl ?_
        refine at_lt (lt_pick true rfl (decide_eq_true (by omega)) rfl) rfl ?_
        refine at_lt (lt_assign rfl) rfl ?_
        refine at_nil ?_
        refine at_then ?_
        refine at_ret ?_
        have hq := oinj hr
        clear hr
        subst hq
        exact at_return (.bool (decide (x347 = a0))) [] hS Tryz.results122 (.cons (.tmp rfl) .nil) rfl rfl ⟨rfl, rfl⟩
      · replace hr := ineg h346 hr
        refine at_off rfl rfl (decide_eq_false (by omega)) rfl ?_
        refine at_off rfl rfl (decide_eq_false (by omega)) rfl ?_
        refine at_off rfl rfl (decide_eq_false (by omega)) rfl ?_
        refine at_off rfl rfl (decide_eq_false (by omega)) rfl ?_
        refine at_lt (lt_pick false rfl (decide_eq_false (by omega)) rfl) rfl ?_
        refine at_lt (lt_assign rfl) rfl ?_
        refine at_nil ?_
        refine at_then ?_
        refine at_ret ?_
        have hq := oinj hr
        clear hr
        subst hq
        exact at_return (.bool false) [] hS Tryz.results122 (.cons (.tmp rfl) .nil) rfl rfl ⟨rfl, rfl⟩
  · replace hr := ineg h343 hr
    refine at_off rfl rfl (bf h343) rfl ?_
    refine at_off rfl rfl (bf h343) rfl ?_
    refine at_lt (lt_pick false rfl (bf h343) rfl) rfl ?_
    refine at_lt (lt_move rfl) rfl ?_
    refine at_off rfl rfl rfl rfl ?_
    refine at_off rfl rfl rfl rfl ?_
    refine at_off rfl rfl rfl rfl ?_
    refine at_lt (lt_pick false rfl rfl rfl) rfl ?_
    refine at_lt (lt_move rfl) rfl ?_
    refine at_off rfl rfl rfl rfl ?_
    refine at_off rfl rfl rfl rfl ?_
    refine at_off rfl rfl rfl rfl ?_
    refine at_off rfl rfl rfl rfl ?_
    refine at_lt (lt_pick false rfl rfl rfl) rfl ?_
    refine at_lt (lt_assign rfl) rfl ?_
    refine at_nil ?_
    refine at_then ?_
    refine at_ret ?_
    have hq := oinj hr
    clear hr
    subst hq
    exact at_return (.bool false) [] hS Tryz.results122 (.cons (.tmp rfl) .nil) rfl rfl ⟨rfl, rfl⟩
/-! 120 bookplate/record.ValidField$1 -/
def m120 (a0 : D_api_Sub) : Option Bool :=
  (m121 a0.Code).bind fun x350 =>
  if x350 = true then
    (m122 a0.Value).bind fun x353 =>
    some (!x353)
  else
    some true
def post120 (r : Bool) (v : Value) (fs : List Fact) : Prop := v = .bool r ∧ fs = []
theorem en120 : Enters Tryz.prog 120 := ⟨_, Tryz.func120, by kernel_rfl, rfl⟩
theorem f120_spec {a0 : D_api_Sub} {r : Bool} (hr : m120 a0 = some r) : Spec Tryz.prog 120 [.agg #[.int .u8 (a0.Code.toNat : Int), str a0.Value]] [(ty66.fact a0 [.int .u8 (a0.Code.toNat : Int), str a0.Value])] (post120 r) := by
  refine spec_start (N := 13) Tryz.func120 (by kernel_rfl) rfl rfl rfl ?_
  intro g hS
  unfold m120 at hr
  refine at_open (A := Unit) 0 rfl (fun _ => True) (fun _ => [(Ty.str.fact a0.Value [str a0.Value])]) (fun F w h => ⟨(), trivial, ex66 h⟩) (fun _ _ => ?_)
  refine at_seq ?_
  refine at_region ?_
  refine at_hv rfl ?_
  refine hv_box (cs := [.int .u8 (a0.Code.toNat : Int), str a0.Value]) rfl rfl rfl (fun b349 => ?_)
  refine at_lt (lt_assign rfl) rfl ?_
  refine at_nil ?_
  refine at_then ?_
  refine at_seq ?_
  refine at_region ?_
  refine at_lt (lt_fieldAddr 0 rfl fld66_0 rfl) rfl ?_
  refine at_lt (lt_load_box 0 rfl ti5 rfl rfl rfl rfl rfl) rfl ?_
  replace hr := obind hr
  obtain ⟨x350, h351, hr⟩ := hr
  refine at_hv rfl ?_
  refine hv_call0 [] (f121_spec h351) rfl rfl rfl rfl ?_
  rintro _ _ ⟨rfl, rfl⟩
  refine at_lt (lt_not rfl) rfl ?_
  refine at_lt (lt_move rfl) rfl ?_
  by_cases h352 : x350 = true
  · replace hr := ipos h352 hr
    refine at_on rfl rfl (nt h352) ?_
    refine at_lt (lt_fieldAddr 1 rfl fld66_1 rfl) rfl ?_
    refine at_on rfl rfl (nt h352) ?_
    refine at_lt (lt_load_box 0 rfl ti9 rfl rfl rfl rfl rfl) rfl ?_
    replace hr := obind hr
    obtain ⟨x353, h354, hr⟩ := hr
    refine at_on rfl rfl (nt h352) ?_
    refine at_hv rfl ?_
    refine hv_call0 [0] (f122_spec h354) rfl rfl rfl rfl ?_
    rintro _ _ ⟨rfl, rfl⟩
    refine at_on rfl rfl (nt h352) ?_
    refine at_lt (lt_not rfl) rfl ?_
    refine at_lt (lt_pick false rfl (nt h352) rfl) rfl ?_
    refine at_lt (lt_assign rfl) rfl ?_
    refine at_nil ?_
    refine at_then ?_
    refine at_ret ?_
    have hq := oinj hr
    clear hr
    subst hq
    exact at_return (.bool (!x353)) [] hS Tryz.results120 (.cons (.tmp rfl) .nil) rfl rfl ⟨rfl, rfl⟩
  · replace hr := ineg h352 hr
    refine at_off rfl rfl (nf (bf h352)) rfl ?_
    refine at_off rfl rfl (nf (bf h352)) rfl ?_
    refine at_off rfl rfl (nf (bf h352)) rfl ?_
    refine at_off rfl rfl (nf (bf h352)) rfl ?_
    refine at_lt (lt_pick true rfl (nf (bf h352)) rfl) rfl ?_
    refine at_lt (lt_assign rfl) rfl ?_
    refine at_nil ?_
    refine at_then ?_
    refine at_ret ?_
    have hq := oinj hr
    clear hr
    subst hq
    exact at_return (.bool true) [] hS Tryz.results120 (.cons (.tmp rfl) .nil) rfl rfl ⟨rfl, rfl⟩
/-! 95 bookplate/record.ValidField -/
def m95 (a0 : D_api_Field) : Option Bool :=
  (m92 a0.Tag).bind fun x357 =>
  if x357 = true then
    (m119 a0.Ind_0).bind fun x360 =>
    if x360 = true then
      (m119 a0.Ind_1).bind fun x363 =>
      if x363 = true then
        if a0.Subs.length < 1 then
          some false
        else
          if 20 < a0.Subs.length then
            some false
          else
            (m62 a0.Subs m120).bind fun x370 =>
            some (!x370)
      else
        some false
    else
      some false
  else
    some false
def post95 (r : Bool) (v : Value) (fs : List Fact) : Prop := v = .bool r ∧ fs = []
theorem en95 : Enters Tryz.prog 95 := ⟨_, Tryz.func95, by kernel_rfl, rfl⟩
theorem f95_spec {a0 : D_api_Field} {s355 : Value} {r : Bool} (hr : m95 a0 = some r) : Spec Tryz.prog 95 [.agg #[str a0.Tag, .int .u8 (a0.Ind_0.toNat : Int), .int .u8 (a0.Ind_1.toNat : Int), s355]] [(ty69.fact a0 [str a0.Tag, .int .u8 (a0.Ind_0.toNat : Int), .int .u8 (a0.Ind_1.toNat : Int), s355])] (post95 r) := by
  refine spec_start (N := 37) Tryz.func95 (by kernel_rfl) rfl rfl rfl ?_
  intro g hS
  unfold m95 at hr
  refine at_open (A := Unit) 0 rfl (fun _ => True) (fun _ => [(Ty.str.fact a0.Tag [str a0.Tag]), ((Ty.slice ty66).fact a0.Subs [s355])]) (fun F w h => ⟨(), trivial, ex69 h⟩) (fun _ _ => ?_)
  refine at_seq ?_
  refine at_region ?_
  refine at_hv rfl ?_
  refine hv_box (cs := [str a0.Tag, .int .u8 (a0.Ind_0.toNat : Int), .int .u8 (a0.Ind_1.toNat : Int), s355]) rfl rfl rfl (fun b356 => ?_)
  refine at_lt (lt_assign rfl) rfl ?_
  refine at_nil ?_
  refine at_then ?_
  refine at_seq ?_
  refine at_seq ?_
  refine at_region ?_
  refine at_lt (lt_fieldAddr 0 rfl fld69_0 rfl) rfl ?_
  refine at_lt (lt_load_box 0 rfl ti9 rfl rfl rfl rfl rfl) rfl ?_
  replace hr := obind hr
  obtain ⟨x357, h358, hr⟩ := hr
  refine at_hv rfl ?_
  refine hv_call0 [0] (f92_spec h358) rfl rfl rfl rfl ?_
  rintro _ _ ⟨rfl, rfl⟩
  refine at_lt (lt_not rfl) rfl ?_
  refine at_lt (lt_move rfl) rfl ?_
  by_cases h359 : x357 = true
  · replace hr := ipos h359 hr
    refine at_on rfl rfl (nt h359) ?_
    refine at_lt (lt_fieldAddr 1 rfl fld69_1 rfl) rfl ?_
    refine at_on rfl rfl (nt h359) ?_
    refine at_lt (lt_aidx 0 rfl rfl rfl rfl und64 ti5 rfl) rfl ?_
    refine at_on rfl rfl (nt h359) ?_
    refine at_lt (lt_load_box 0 rfl ti5 rfl rfl rfl rfl rfl) rfl ?_
    replace hr := obind hr
    obtain ⟨x360, h361, hr⟩ := hr
    refine at_on rfl rfl (nt h359) ?_
    refine at_hv rfl ?_
    refine hv_call0 [] (f119_spec h361) rfl rfl rfl rfl ?_
    rintro _ _ ⟨rfl, rfl⟩
    refine at_on rfl rfl (nt h359) ?_
    refine at_lt (lt_not rfl) rfl ?_
    refine at_lt (lt_pick false rfl (nt h359) rfl) rfl ?_
    refine at_lt (lt_move rfl) rfl ?_
    by_cases h362 : x360 = true
    · replace hr := ipos h362 hr
      refine at_on rfl rfl (nt h362) ?_
      refine at_lt (lt_fieldAddr 1 rfl fld69_1 rfl) rfl ?_
      refine at_on rfl rfl (nt h362) ?_
      refine at_lt (lt_aidx 1 rfl rfl rfl rfl und64 ti5 rfl) rfl ?_
      refine at_on rfl rfl (nt h362) ?_
      refine at_lt (lt_load_box 0 rfl ti5 rfl rfl rfl rfl rfl) rfl ?_
      replace hr := obind hr
      obtain ⟨x363, h364, hr⟩ := hr
      refine at_on rfl rfl (nt h362) ?_
      refine at_hv rfl ?_
      refine hv_call0 [] (f119_spec h364) rfl rfl rfl rfl ?_
      rintro _ _ ⟨rfl, rfl⟩
      refine at_on rfl rfl (nt h362) ?_
      refine at_lt (lt_not rfl) rfl ?_
      refine at_lt (lt_pick false rfl (nt h362) rfl) rfl ?_
      refine at_lt (lt_move rfl) rfl ?_
      by_cases h365 : x363 = true
      · replace hr := ipos h365 hr
        refine at_on rfl rfl (nt h365) ?_
        refine at_lt (lt_fieldAddr 3 rfl fld69_2 rfl) rfl ?_
        refine at_on rfl rfl (nt h365) ?_
        refine at_lt (lt_load_box 0 rfl ti67 rfl rfl rfl rfl rfl) rfl ?_
        refine at_inv 1 rfl (fun i366 => ?_)
        have l367 := slice_len i366
        refine at_on rfl rfl (nt h365) ?_
        refine at_lt (lt_flen 1 rfl rfl und67) rfl ?_
        refine at_on rfl rfl (nt h365) ?_
        refine at_lt (lt_lss rfl rfl) rfl ?_
        refine at_lt (lt_pick false rfl (nt h365) rfl) rfl ?_
        refine at_lt (lt_move rfl) rfl ?_
        by_cases h368 : a0.Subs.length < 1
        · replace hr := ipos h368 hr
          refine at_off rfl rfl (decide_eq_true (by omega)) rfl ?_
          refine at_off rfl rfl (decide_eq_true (by omega)) rfl ?_
          refine at_off rfl rfl (decide_eq_true (by omega)) rfl ?_
          refine at_off rfl rfl (decide_eq_true (by omega)) rfl ?_
          refine at_lt (lt_pick true rfl (decide_eq_true (by omega)) rfl) rfl ?_
          refine at_nil ?_
          refine at_then ?_
          refine at_true rfl rfl ?_
          refine at_seq ?_
          refine at_region ?_
          refine at_lt (lt_assign rfl) rfl ?_
          refine at_nil ?_
          refine at_then ?_
          refine at_ret ?_
          have hq := oinj hr
          clear hr
          subst hq
          refine at_then_ret ?_
          exact at_return (.bool false) [] hS Tryz.results95 (.cons (.tmp rfl) .nil) rfl rfl ⟨rfl, rfl⟩
        · replace hr := ineg h368 hr
          refine at_on rfl rfl (decide_eq_false (by omega)) ?_
          refine at_lt (lt_fieldAddr 3 rfl fld69_2 rfl) rfl ?_
          refine at_on rfl rfl (decide_eq_false (by omega)) ?_
          refine at_lt (lt_load_box 0 rfl ti67 rfl rfl rfl rfl rfl) rfl ?_
          refine at_on rfl rfl (decide_eq_false (by omega)) ?_
          refine at_lt (lt_flen 1 rfl rfl und67) rfl ?_
          refine at_on rfl rfl (decide_eq_false (by omega)) ?_
          refine at_lt (lt_gtr rfl rfl) rfl ?_
          refine at_lt (lt_pick false rfl (decide_eq_false (by omega)) rfl) rfl ?_
          refine at_nil ?_
          refine at_then ?_
          by_cases h369 : 20 < a0.Subs.length
          · replace hr := ipos h369 hr
            refine at_true rfl (decide_eq_true (by omega)) ?_
            refine at_seq ?_
            refine at_region ?_
            refine at_lt (lt_assign rfl) rfl ?_
            refine at_nil ?_
            refine at_then ?_
            refine at_ret ?_
            have hq := oinj hr
            clear hr
            subst hq
            refine at_then_ret ?_
            exact at_return (.bool false) [] hS Tryz.results95 (.cons (.tmp rfl) .nil) rfl rfl ⟨rfl, rfl⟩
          · replace hr := ineg h369 hr
            refine at_false rfl (decide_eq_false (by omega)) ?_
            refine at_skip ?_
            refine at_then ?_
            refine at_seq ?_
            refine at_region ?_
            refine at_lt (lt_fieldAddr 3 rfl fld69_2 rfl) rfl ?_
            refine at_lt (lt_load_box 0 rfl ti67 rfl rfl rfl rfl rfl) rfl ?_
            replace hr := obind hr
            obtain ⟨x370, h371, hr⟩ := hr
            refine at_fn 120 [] [] (sp101 m120) en120 rfl (by rintro _ _ _ ⟨a0, r, h, rfl, rfl, rfl⟩; exact f120_spec h) ?_
            refine at_hv rfl ?_
            refine hv_call0 [2, 0] (f62_spec h371) rfl rfl rfl rfl ?_
            rintro _ _ ⟨rfl, rfl⟩
            refine at_lt (lt_not rfl) rfl ?_
            refine at_lt (lt_assign rfl) rfl ?_
            refine at_nil ?_
            refine at_then ?_
            refine at_ret ?_
            have hq := oinj hr
            clear hr
            subst hq
            exact at_return (.bool (!x370)) [] hS Tryz.results95 (.cons (.tmp rfl) .nil) rfl rfl ⟨rfl, rfl⟩
      · replace hr := ineg h365 hr
        refine at_off rfl rfl (nf (bf h365)) rfl ?_
        refine at_off rfl rfl (nf (bf h365)) rfl ?_
        refine at_off rfl rfl (nf (bf h365)) rfl ?_
        refine at_off rfl rfl (nf (bf h365)) rfl ?_
        refine at_lt (lt_pick true rfl (nf (bf h365)) rfl) rfl ?_
        refine at_lt (lt_move rfl) rfl ?_
        refine at_off rfl rfl rfl rfl ?_
        refine at_off rfl rfl rfl rfl ?_
        refine at_off rfl rfl rfl rfl ?_
        refine at_off rfl rfl rfl rfl ?_
        refine at_lt (lt_pick true rfl rfl rfl) rfl ?_
        refine at_nil ?_
        refine at_then ?_
        refine at_true rfl rfl ?_
        refine at_seq ?_
        refine at_region ?_
        refine at_lt (lt_assign rfl) rfl ?_
        refine at_nil ?_
        refine at_then ?_
        refine at_ret ?_
        have hq := oinj hr
        clear hr
        subst hq
        refine at_then_ret ?_
        exact at_return (.bool false) [] hS Tryz.results95 (.cons (.tmp rfl) .nil) rfl rfl ⟨rfl, rfl⟩
    · replace hr := ineg h362 hr
      refine at_off rfl rfl (nf (bf h362)) rfl ?_
      refine at_off rfl rfl (nf (bf h362)) rfl ?_
      refine at_off rfl rfl (nf (bf h362)) rfl ?_
      refine at_off rfl rfl (nf (bf h362)) rfl ?_
      refine at_off rfl rfl (nf (bf h362)) rfl ?_
      refine at_lt (lt_pick true rfl (nf (bf h362)) rfl) rfl ?_
      refine at_lt (lt_move rfl) rfl ?_
      refine at_off rfl rfl rfl rfl ?_
      refine at_off rfl rfl rfl rfl ?_
      refine at_off rfl rfl rfl rfl ?_
      refine at_off rfl rfl rfl rfl ?_
      refine at_lt (lt_pick true rfl rfl rfl) rfl ?_
      refine at_lt (lt_move rfl) rfl ?_
      refine at_off rfl rfl rfl rfl ?_
      refine at_off rfl rfl rfl rfl ?_
      refine at_off rfl rfl rfl rfl ?_
      refine at_off rfl rfl rfl rfl ?_
      refine at_lt (lt_pick true rfl rfl rfl) rfl ?_
      refine at_nil ?_
      refine at_then ?_
      refine at_true rfl rfl ?_
      refine at_seq ?_
      refine at_region ?_
      refine at_lt (lt_assign rfl) rfl ?_
      refine at_nil ?_
      refine at_then ?_
      refine at_ret ?_
      have hq := oinj hr
      clear hr
      subst hq
      refine at_then_ret ?_
      exact at_return (.bool false) [] hS Tryz.results95 (.cons (.tmp rfl) .nil) rfl rfl ⟨rfl, rfl⟩
  · replace hr := ineg h359 hr
    refine at_off rfl rfl (nf (bf h359)) rfl ?_
    refine at_off rfl rfl (nf (bf h359)) rfl ?_
    refine at_off rfl rfl (nf (bf h359)) rfl ?_
    refine at_off rfl rfl (nf (bf h359)) rfl ?_
    refine at_off rfl rfl (nf (bf h359)) rfl ?_
    refine at_lt (lt_pick true rfl (nf (bf h359)) rfl) rfl ?_
    refine at_lt (lt_move rfl) rfl ?_
    refine at_off rfl rfl rfl rfl ?_
    refine at_off rfl rfl rfl rfl ?_
    refine at_off rfl rfl rfl rfl ?_
    refine at_off rfl rfl rfl rfl ?_
    refine at_off rfl rfl rfl rfl ?_
    refine at_lt (lt_pick true rfl rfl rfl) rfl ?_
    refine at_lt (lt_move rfl) rfl ?_
    refine at_off rfl rfl rfl rfl ?_
    refine at_off rfl rfl rfl rfl ?_
    refine at_off rfl rfl rfl rfl ?_
    refine at_off rfl rfl rfl rfl ?_
    refine at_lt (lt_pick true rfl rfl rfl) rfl ?_
    refine at_lt (lt_move rfl) rfl ?_
    refine at_off rfl rfl rfl rfl ?_
    refine at_off rfl rfl rfl rfl ?_
    refine at_off rfl rfl rfl rfl ?_
    refine at_off rfl rfl rfl rfl ?_
    refine at_lt (lt_pick true rfl rfl rfl) rfl ?_
    refine at_nil ?_
    refine at_then ?_
    refine at_true rfl rfl ?_
    refine at_seq ?_
    refine at_region ?_
    refine at_lt (lt_assign rfl) rfl ?_
    refine at_nil ?_
    refine at_then ?_
    refine at_ret ?_
    have hq := oinj hr
    clear hr
    subst hq
    refine at_then_ret ?_
    exact at_return (.bool false) [] hS Tryz.results95 (.cons (.tmp rfl) .nil) rfl rfl ⟨rfl, rfl⟩
/-! 94 bookplate/record.Valid$1 -/
def m94 (a0 : D_api_Field) : Option Bool :=
  (m95 (⟨a0.Tag, a0.Ind_0, a0.Ind_1, a0.Subs⟩ : D_api_Field)).bind fun x374 =>
  some (!x374)
def post94 (r : Bool) (v : Value) (fs : List Fact) : Prop := v = .bool r ∧ fs = []
theorem en94 : Enters Tryz.prog 94 := ⟨_, Tryz.func94, by kernel_rfl, rfl⟩
theorem f94_spec {a0 : D_api_Field} {s372 : Value} {r : Bool} (hr : m94 a0 = some r) : Spec Tryz.prog 94 [.agg #[str a0.Tag, .int .u8 (a0.Ind_0.toNat : Int), .int .u8 (a0.Ind_1.toNat : Int), s372]] [(ty69.fact a0 [str a0.Tag, .int .u8 (a0.Ind_0.toNat : Int), .int .u8 (a0.Ind_1.toNat : Int), s372])] (post94 r) := by
  refine spec_start (N := 6) Tryz.func94 (by kernel_rfl) rfl rfl rfl ?_
  intro g hS
  unfold m94 at hr
  refine at_open (A := Unit) 0 rfl (fun _ => True) (fun _ => [(Ty.str.fact a0.Tag [str a0.Tag]), ((Ty.slice ty66).fact a0.Subs [s372])]) (fun F w h => ⟨(), trivial, ex69 h⟩) (fun _ _ => ?_)
  refine at_seq ?_
  refine at_region ?_
  refine at_hv rfl ?_
  refine hv_box (cs := [str a0.Tag, .int .u8 (a0.Ind_0.toNat : Int), .int .u8 (a0.Ind_1.toNat : Int), s372]) rfl rfl rfl (fun b373 => ?_)
  refine at_lt (lt_assign rfl) rfl ?_
  refine at_nil ?_
  refine at_then ?_
  refine at_seq ?_
  refine at_region ?_
  refine at_lt (lt_load_box 0 rfl ti69 rfl rfl rfl rfl rfl) rfl ?_
  replace hr := obind hr
  obtain ⟨x374, h375, hr⟩ := hr
  refine at_derive [0, 1] (ty69.fact (⟨a0.Tag, a0.Ind_0, a0.Ind_1, a0.Subs⟩ : D_api_Field) [str a0.Tag, .int .u8 (a0.Ind_0.toNat : Int), .int .u8 (a0.Ind_1.toNat : Int), s372]) rfl (fun F w h => mk69 (x := (⟨a0.Tag, a0.Ind_0, a0.Ind_1, a0.Subs⟩ : D_api_Field)) h) ?_
  refine at_hv rfl ?_
  refine hv_call0 [0] (f95_spec h375) rfl rfl rfl rfl ?_
  rintro _ _ ⟨rfl, rfl⟩
  refine at_lt (lt_not rfl) rfl ?_
  refine at_lt (lt_assign rfl) rfl ?_
  refine at_nil ?_
  refine at_then ?_
  refine at_ret ?_
  have hq := oinj hr
  clear hr
  subst hq
  exact at_return (.bool (!x374)) [] hS Tryz.results94 (.cons (.tmp rfl) .nil) rfl rfl ⟨rfl, rfl⟩
end Go.WK.S
