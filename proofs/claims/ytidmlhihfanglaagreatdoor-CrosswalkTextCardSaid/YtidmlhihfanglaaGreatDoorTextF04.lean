/- What functions of this program compute: a model of each, and the proof that it is kept. -/
import Derived.Test.YtidmlhihfanglaaGreatDoorTextF03
import Derived.KernelRfl
namespace Go.WK.S
open Go Go.Proofs Go.WK Go.RowKit
set_option linter.unusedVariables false
set_option maxRecDepth 100000
set_option maxHeartbeats 4000000
/-! 24 bookplate/bookplateref16.Valid -/
def m24_l1 (a0 : (List D_ref16_Entry)) : Nat → Nat → Option (Fl Bool Unit)
  | 0, _ => none
  | k + 1, x1368 =>
    if x1368 < a0.length then
      (a0[x1368]?).bind fun x1375 =>
      (m55 x1375).bind fun x1380 =>
      if x1380 = true then
        if 0 < x1368 then
          (a0[x1368]?).bind fun x1384 =>
          (at? a0 ((x1368 : Int) - 1)).bind fun x1389 =>
          if (Op.bytesLess x1389.From x1384.From) = true then
            m24_l1 a0 k (x1368 + 1)
          else
            some (Fl.ret false)
        else
          m24_l1 a0 k (x1368 + 1)
      else
        some (Fl.ret false)
    else
      some (Fl.go ())
def m24 (a0 : (List D_ref16_Entry)) : Option Bool :=
  (m24_l1 a0 (a0.length + 1) 0).bind fun r => match r with
  | .ret x => some x
  | .go _ =>
    some (decide ((a0.length : Int) ≤ 60))
def post24 (r : Bool) (v : Value) (fs : List Fact) : Prop := v = .bool r ∧ fs = []
theorem en24 : Enters Tryz.prog 24 := ⟨_, Tryz.func24, by kernel_rfl, rfl⟩
theorem f24_spec {a0 : (List D_ref16_Entry)} {w1367 : Value} {r : Bool} (hr : m24 a0 = some r) : Spec Tryz.prog 24 [w1367] [((Ty.slice ty50).fact a0 [w1367])] (post24 r) := by
  refine spec_start (N := 37) Tryz.func24 (by kernel_rfl) rfl rfl rfl ?_
  intro g hS
  unfold m24 at hr
  refine at_seq ?_
  refine at_region ?_
  refine at_lt (lt_assign rfl) rfl ?_
  refine at_nil ?_
  refine at_then ?_
  refine at_seq ?_
  refine at_seq ?_
  refine at_region ?_
  refine at_lt (lt_assign rfl) rfl ?_
  refine at_nil ?_
  refine at_then ?_
  refine at_int .i64 0 (by simp only [lo, hi]; omega) ?_
  replace hr := obind hr
  obtain ⟨r1369, hl1370, hk1371⟩ := hr
  refine at_cutP (V := (Unit) × (Unit)) (fun v => r1369 = Fl.go v.1) (fun v => (⟨[(0, w1367)], [], [], [((Ty.slice ty50).fact a0 [w1367])]⟩ : St)) ?_ ?_
  · refine at_block ?_
    refine at_loopW (σ := Nat) (V := Unit) (r := r1369) (fun n s => m24_l1 a0 n s) (fun s e => (⟨[(0, w1367), (3, .int .i64 (s : Int))], [], [], [((Ty.int .i64).fact (s : Int) [.int .i64 (s : Int)]), ((Ty.slice ty50).fact a0 [w1367])]⟩ : St)) (fun _ => rfl) _ 0 () hl1370 ⟨⟨rfl, ⟨rfl, trivial⟩⟩, ⟨[], rfl⟩, ⟨[], rfl⟩, ⟨[0, 1], rfl⟩⟩ ?_
    clear hl1370
    intro n x1368 hr e
    skip
    skip
    change m24_l1 a0 (n + 1) x1368 = some r1369 at hr
    change At _ _ (⟨[(0, w1367), (3, .int .i64 (x1368 : Int))], [], [], [((Ty.int .i64).fact (x1368 : Int) [.int .i64 (x1368 : Int)]), ((Ty.slice ty50).fact a0 [w1367])]⟩ : St) _
    rw [m24_l1] at hr
    refine at_seq ?_
    refine at_seq ?_
    refine at_region ?_
    refine at_lt (lt_move rfl) rfl ?_
    refine at_lt (lt_move rfl) rfl ?_
    refine at_inv 1 rfl (fun i1372 => ?_)
    have l1373 := slice_len i1372
    refine at_lt (lt_flen 1 rfl rfl und22) rfl ?_
    refine at_lt (lt_lss rfl rfl) rfl ?_
    refine at_nil ?_
    refine at_then ?_
    by_cases h1374 : x1368 < a0.length
    · replace hr := ipos h1374 hr
      refine at_true rfl (decide_eq_true (by omega)) ?_
      refine at_skip ?_
      refine at_then ?_
      refine at_seq ?_
      refine at_block ?_
      refine at_seq ?_
      replace hr := obind hr
      obtain ⟨x1375, h1376, hr⟩ := hr
      have := (List.getElem?_eq_some_iff.1 h1376).1
      refine at_elem 1 rfl (nat_at' h1376) (fun p1378 ec pa1379 => ?_)
      refine at_open (A := Value) 0 rfl _ _ (fun F w h => op50 h) ?_
      rintro s1377 rfl
      replace hr := obind hr
      obtain ⟨x1380, h1381, hr⟩ := hr
      by_cases h1382 : x1380 = true
      · replace hr := ipos h1382 hr
        by_cases h1383 : 0 < x1368
        · replace hr := ipos h1383 hr
          replace hr := obind hr
          obtain ⟨x1384, h1385, hr⟩ := hr
          have := (List.getElem?_eq_some_iff.1 h1385).1
          refine at_elem 6 rfl (nat_at' h1385) (fun p1387 ec pa1388 => ?_)
          refine at_open (A := Value) 0 rfl _ _ (fun F w h => op50 h) ?_
          rintro s1386 rfl
          replace hr := obind hr
          obtain ⟨x1389, h1390, hr⟩ := hr
          have := at?_lt h1390
          refine at_elem 11 rfl h1390 (fun p1392 ec pa1393 => ?_)
          refine at_open (A := Value) 0 rfl _ _ (fun F w h => op50 h) ?_
          rintro s1391 rfl
          refine aa_start 24 (by kernel_rfl) ?_
          refine aa_pure (bs' := [true, false, false, false, false, false, false, false, false, false, false, false, false, false, false, false, false, false, false, false, false, false, false, false]) 0 rfl (by kernel_rfl) rfl rfl (lt_move rfl) rfl (ts_in 0 0 rfl rfl) ?_
          refine aa_pure (bs' := [true, true, false, false, false, false, false, false, false, false, false, false, false, false, false, false, false, false, false, false, false, false, false, false]) 1 rfl (by kernel_rfl) rfl rfl (lt_move rfl) rfl (ts_in 0 0 rfl rfl) ?_
          refine aa_pure (bs' := [true, true, true, false, false, false, false, false, false, false, false, false, false, false, false, false, false, false, false, false, false, false, false, false]) 2 rfl (by kernel_rfl) rfl rfl (lt_idx rfl rfl pa1379 und22 ti50) rfl (ts_in 0 0 rfl rfl) ?_
          refine aa_load (bs' := [true, true, true, true, false, false, false, false, false, false, false, false, false, false, false, false, false, false, false, false, false, false, false, false]) 3 rfl (by kernel_rfl) rfl rfl (lt_load_peek 14 rfl ti50 rfl rfl rfl rfl rfl) rfl (ts_in 0 0 rfl rfl) ?_
          refine aa_all (rs := [4]) (by kernel_rfl) rfl (ts_in 0 0 rfl rfl) (List.forall_mem_singleton.2 ?_)
          refine aa_op rfl rfl ?_
          refine hv_call0 [13] (f55_spec h1381) rfl rfl rfl rfl ?_
          rintro _ _ ⟨rfl, rfl⟩
          refine aa_pure (bs' := [true, true, true, true, true, true, false, false, false, false, false, false, false, false, false, false, false, false, false, false, false, false, false, false]) 5 rfl (by kernel_rfl) rfl rfl (lt_not rfl) rfl (ts_in 0 0 rfl rfl) ?_
          refine aa_pure (bs' := [true, true, true, true, true, true, true, false, false, false, false, false, false, false, false, false, false, false, false, false, false, false, false, false]) 6 rfl (by kernel_rfl) rfl rfl (lt_move rfl) rfl (ts_in 0 0 rfl rfl) ?_
          refine aa_pure (bs' := [true, true, true, true, true, true, true, true, false, false, false, false, false, false, false, false, false, false, false, false, false, false, false, false]) 7 rfl (by kernel_rfl) rfl ⟨16, rfl, .inl ⟨_, rfl, gdq (v := false) (nt h1382) rfl⟩⟩ (lt_move rfl) rfl (ts_in 0 0 rfl rfl) ?_
          refine aa_pure (bs' := [true, true, true, true, true, true, true, true, true, false, false, false, false, false, false, false, false, false, false, false, false, false, false, false]) 8 rfl (by kernel_rfl) rfl ⟨16, rfl, .inl ⟨_, rfl, gdq (v := false) (nt h1382) rfl⟩⟩ (lt_gtr rfl rfl) rfl (ts_in 0 0 rfl rfl) ?_
          refine aa_pure (bs' := [true, true, true, true, true, true, true, true, true, true, false, false, false, false, false, false, false, false, false, false, false, false, false, false]) 9 rfl (by kernel_rfl) rfl ⟨16, rfl, .inl ⟨_, rfl, gdq (v := false) (nt h1382) rfl⟩⟩ (lt_move rfl) rfl (ts_in 0 0 rfl rfl) ?_
          refine aa_pure (bs' := [true, true, true, true, true, true, true, true, true, true, true, false, false, false, false, false, false, false, false, false, false, false, false, false]) 10 rfl (by kernel_rfl) rfl ⟨19, rfl, .inl ⟨_, rfl, gdq (v := true) (decide_eq_true (by omega)) rfl⟩⟩ (lt_move rfl) rfl (ts_in 0 0 rfl rfl) ?_
          refine aa_pure (bs' := [true, true, true, true, true, true, true, true, true, true, true, true, false, false, false, false, false, false, false, false, false, false, false, false]) 11 rfl (by kernel_rfl) rfl ⟨19, rfl, .inl ⟨_, rfl, gdq (v := true) (decide_eq_true (by omega)) rfl⟩⟩ (lt_move rfl) rfl (ts_in 0 0 rfl rfl) ?_
          refine aa_pure (bs' := [true, true, true, true, true, true, true, true, true, true, true, true, true, false, false, false, false, false, false, false, false, false, false, false]) 12 rfl (by kernel_rfl) rfl ⟨19, rfl, .inl ⟨_, rfl, gdq (v := true) (decide_eq_true (by omega)) rfl⟩⟩ (lt_idx rfl rfl pa1388 und22 ti50) rfl (ts_in 0 0 rfl rfl) ?_
          refine aa_pure (bs' := [true, true, true, true, true, true, true, true, true, true, true, true, true, true, false, false, false, false, false, false, false, false, false, false]) 13 rfl (by kernel_rfl) rfl ⟨19, rfl, .inl ⟨_, rfl, gdq (v := true) (decide_eq_true (by omega)) rfl⟩⟩ (lt_fieldAddr 0 rfl fld50_0 rfl) rfl (ts_in 0 0 rfl rfl) ?_
          refine aa_load (bs' := [true, true, true, true, true, true, true, true, true, true, true, true, true, true, true, false, false, false, false, false, false, false, false, false]) 14 rfl (by kernel_rfl) rfl ⟨19, rfl, .inl ⟨_, rfl, gdq (v := true) (decide_eq_true (by omega)) rfl⟩⟩ (lt_load_peek 9 rfl ti9 rfl rfl rfl rfl rfl) rfl (ts_in 0 0 rfl rfl) ?_
          refine aa_pure (bs' := [true, true, true, true, true, true, true, true, true, true, true, true, true, true, true, true, false, false, false, false, false, false, false, false]) 15 rfl (by kernel_rfl) rfl ⟨19, rfl, .inl ⟨_, rfl, gdq (v := true) (decide_eq_true (by omega)) rfl⟩⟩ (lt_move rfl) rfl (ts_in 0 0 rfl rfl) ?_
          refine aa_pure (bs' := [true, true, true, true, true, true, true, true, true, true, true, true, true, true, true, true, true, false, false, false, false, false, false, false]) 16 rfl (by kernel_rfl) rfl ⟨19, rfl, .inl ⟨_, rfl, gdq (v := true) (decide_eq_true (by omega)) rfl⟩⟩ (lt_move rfl) rfl (ts_in 0 0 rfl rfl) ?_
          refine aa_pure (bs' := [true, true, true, true, true, true, true, true, true, true, true, true, true, true, true, true, true, true, false, false, false, false, false, false]) 17 rfl (by kernel_rfl) rfl ⟨19, rfl, .inl ⟨_, rfl, gdq (v := true) (decide_eq_true (by omega)) rfl⟩⟩ (lt_sub rfl rfl (by simp only [lo, hi]; omega)) rfl (ts_in 0 0 rfl rfl) ?_
          refine aa_pure (bs' := [true, true, true, true, true, true, true, true, true, true, true, true, true, true, true, true, true, true, true, false, false, false, false, false]) 18 rfl (by kernel_rfl) rfl ⟨19, rfl, .inl ⟨_, rfl, gdq (v := true) (decide_eq_true (by omega)) rfl⟩⟩ (lt_idx rfl rfl pa1393 und22 ti50) rfl (ts_in 0 0 rfl rfl) ?_
          refine aa_pure (bs' := [true, true, true, true, true, true, true, true, true, true, true, true, true, true, true, true, true, true, true, true, false, false, false, false]) 19 rfl (by kernel_rfl) rfl ⟨19, rfl, .inl ⟨_, rfl, gdq (v := true) (decide_eq_true (by omega)) rfl⟩⟩ (lt_fieldAddr 0 rfl fld50_0 rfl) rfl (ts_in 0 0 rfl rfl) ?_
          refine aa_load (bs' := [true, true, true, true, true, true, true, true, true, true, true, true, true, true, true, true, true, true, true, true, true, false, false, false]) 20 rfl (by kernel_rfl) rfl ⟨19, rfl, .inl ⟨_, rfl, gdq (v := true) (decide_eq_true (by omega)) rfl⟩⟩ (lt_load_peek 4 rfl ti9 rfl rfl rfl rfl rfl) rfl (ts_in 0 0 rfl rfl) ?_
          refine aa_pure (bs' := [true, true, true, true, true, true, true, true, true, true, true, true, true, true, true, true, true, true, true, true, true, true, false, false]) 21 rfl (by kernel_rfl) rfl ⟨19, rfl, .inl ⟨_, rfl, gdq (v := true) (decide_eq_true (by omega)) rfl⟩⟩ (lt_sleq rfl rfl) rfl (ts_in 0 0 rfl rfl) ?_
          refine aa_pure (bs' := [true, true, true, true, true, true, true, true, true, true, true, true, true, true, true, true, true, true, true, true, true, true, true, false]) 22 rfl (by kernel_rfl) rfl ⟨16, rfl, .inl ⟨_, rfl, gdq (v := false) (nt h1382) rfl⟩⟩ (lt_pick true rfl (decide_eq_true (by omega)) rfl) rfl (ts_in 0 0 rfl rfl) ?_
          refine aa_pure (bs' := [true, true, true, true, true, true, true, true, true, true, true, true, true, true, true, true, true, true, true, true, true, true, true, true]) 23 rfl (by kernel_rfl) rfl rfl (lt_pick false rfl (nt h1382) rfl) rfl (ts_in 0 0 rfl rfl) ?_
          refine aa_done (by kernel_rfl) (ts_in 0 0 rfl rfl) ?_
          refine at_then ?_
          by_cases h1394 : (Op.bytesLess x1389.From x1384.From) = true
          · replace hr := ipos h1394 hr
            refine at_false rfl (nt h1394) ?_
            refine at_skip ?_
            refine at_in ?_
            refine at_then ?_
            refine at_region ?_
            refine at_lt (lt_move rfl) rfl ?_
            refine at_lt (lt_add rfl rfl (by simp only [lo, hi]; omega)) rfl ?_
            refine at_lt (lt_assign rfl) rfl ?_
            refine at_nil ?_
            refine at_int .i64 (x1368 + 1 : Int) (by simp only [lo, hi]; omega) ?_
            exact at_again (σ := Nat) (V := Unit) (lp := fun n s => m24_l1 a0 n s) (S := fun s e => (⟨[(0, w1367), (3, .int .i64 (s : Int))], [], [], [((Ty.int .i64).fact (s : Int) [.int .i64 (s : Int)]), ((Ty.slice ty50).fact a0 [w1367])]⟩ : St)) (x1368 + 1) () hr ⟨⟨rfl, ⟨rfl, trivial⟩⟩, ⟨[], rfl⟩, ⟨[], rfl⟩, ⟨[0, 17], rfl⟩⟩
          · replace hr := ineg h1394 hr
            refine at_true rfl (nf (bf h1394)) ?_
            refine at_seq ?_
            refine at_region ?_
            refine at_lt (lt_assign rfl) rfl ?_
            refine at_nil ?_
            refine at_then ?_
            refine at_ret ?_
            have hq := oinj hr
            clear hr
            subst hq
            have hq := oinj hk1371
            clear hk1371
            subst hq
            refine at_in_ret ?_
            refine at_then_ret ?_
            refine at_then_ret ?_
            refine at_in_ret ?_
            refine at_then_ret ?_
            refine at_then_ret ?_
            exact at_return (.bool false) [] hS Tryz.results24 (.cons (.tmp rfl) .nil) rfl rfl ⟨rfl, rfl⟩
        · replace hr := ineg h1383 hr
          refine aa_start 24 (by kernel_rfl) ?_
          refine aa_pure (bs' := [true, false, false, false, false, false, false, false, false, false, false, false, false, false, false, false, false, false, false, false, false, false, false, false]) 0 rfl (by kernel_rfl) rfl rfl (lt_move rfl) rfl (ts_in 0 0 rfl rfl) ?_
          refine aa_pure (bs' := [true, true, false, false, false, false, false, false, false, false, false, false, false, false, false, false, false, false, false, false, false, false, false, false]) 1 rfl (by kernel_rfl) rfl rfl (lt_move rfl) rfl (ts_in 0 0 rfl rfl) ?_
          refine aa_pure (bs' := [true, true, true, false, false, false, false, false, false, false, false, false, false, false, false, false, false, false, false, false, false, false, false, false]) 2 rfl (by kernel_rfl) rfl rfl (lt_idx rfl rfl pa1379 und22 ti50) rfl (ts_in 0 0 rfl rfl) ?_
          refine aa_load (bs' := [true, true, true, true, false, false, false, false, false, false, false, false, false, false, false, false, false, false, false, false, false, false, false, false]) 3 rfl (by kernel_rfl) rfl rfl (lt_load_peek 4 rfl ti50 rfl rfl rfl rfl rfl) rfl (ts_in 0 0 rfl rfl) ?_
          refine aa_all (rs := [4]) (by kernel_rfl) rfl (ts_in 0 0 rfl rfl) (List.forall_mem_singleton.2 ?_)
          refine aa_op rfl rfl ?_
          refine hv_call0 [3] (f55_spec h1381) rfl rfl rfl rfl ?_
          rintro _ _ ⟨rfl, rfl⟩
          refine aa_pure (bs' := [true, true, true, true, true, true, false, false, false, false, false, false, false, false, false, false, false, false, false, false, false, false, false, false]) 5 rfl (by kernel_rfl) rfl rfl (lt_not rfl) rfl (ts_in 0 0 rfl rfl) ?_
          refine aa_pure (bs' := [true, true, true, true, true, true, true, false, false, false, false, false, false, false, false, false, false, false, false, false, false, false, false, false]) 6 rfl (by kernel_rfl) rfl rfl (lt_move rfl) rfl (ts_in 0 0 rfl rfl) ?_
          refine aa_pure (bs' := [true, true, true, true, true, true, true, true, false, false, false, false, false, false, false, false, false, false, false, false, false, false, false, false]) 7 rfl (by kernel_rfl) rfl ⟨16, rfl, .inl ⟨_, rfl, gdq (v := false) (nt h1382) rfl⟩⟩ (lt_move rfl) rfl (ts_in 0 0 rfl rfl) ?_
          refine aa_pure (bs' := [true, true, true, true, true, true, true, true, true, false, false, false, false, false, false, false, false, false, false, false, false, false, false, false]) 8 rfl (by kernel_rfl) rfl ⟨16, rfl, .inl ⟨_, rfl, gdq (v := false) (nt h1382) rfl⟩⟩ (lt_gtr rfl rfl) rfl (ts_in 0 0 rfl rfl) ?_
          refine aa_pure (bs' := [true, true, true, true, true, true, true, true, true, true, false, false, false, false, false, false, false, false, false, false, false, false, false, false]) 9 rfl (by kernel_rfl) rfl ⟨16, rfl, .inl ⟨_, rfl, gdq (v := false) (nt h1382) rfl⟩⟩ (lt_move rfl) rfl (ts_in 0 0 rfl rfl) ?_
          refine aa_off (bs' := [true, true, true, true, true, true, true, true, true, true, true, false, false, false, false, false, false, false, false, false, false, false, false, false]) 10 rfl (by kernel_rfl) rfl ⟨19, rfl, .inl ⟨_, rfl, gdq (v := false) (decide_eq_false (by omega)) rfl⟩⟩ rfl (ts_in 0 0 rfl rfl) ?_
          refine aa_off (bs' := [true, true, true, true, true, true, true, true, true, true, true, true, false, false, false, false, false, false, false, false, false, false, false, false]) 11 rfl (by kernel_rfl) rfl ⟨19, rfl, .inl ⟨_, rfl, gdq (v := false) (decide_eq_false (by omega)) rfl⟩⟩ rfl (ts_in 0 0 rfl rfl) ?_
          refine aa_off (bs' := [true, true, true, true, true, true, true, true, true, true, true, true, true, false, false, false, false, false, false, false, false, false, false, false]) 12 rfl (by kernel_rfl) rfl ⟨19, rfl, .inl ⟨_, rfl, gdq (v := false) (decide_eq_false (by omega)) rfl⟩⟩ rfl (ts_in 0 0 rfl rfl) ?_
          refine aa_off (bs' := [true, true, true, true, true, true, true, true, true, true, true, true, true, true, false, false, false, false, false, false, false, false, false, false]) 13 rfl (by kernel_rfl) rfl ⟨19, rfl, .inl ⟨_, rfl, gdq (v := false) (decide_eq_false (by omega)) rfl⟩⟩ rfl (ts_in 0 0 rfl rfl) ?_
          refine aa_off (bs' := [true, true, true, true, true, true, true, true, true, true, true, true, true, true, true, false, false, false, false, false, false, false, false, false]) 14 rfl (by kernel_rfl) rfl ⟨19, rfl, .inl ⟨_, rfl, gdq (v := false) (decide_eq_false (by omega)) rfl⟩⟩ rfl (ts_in 0 0 rfl rfl) ?_
          refine aa_off (bs' := [true, true, true, true, true, true, true, true, true, true, true, true, true, true, true, true, false, false, false, false, false, false, false, false]) 15 rfl (by kernel_rfl) rfl ⟨19, rfl, .inl ⟨_, rfl, gdq (v := false) (decide_eq_false (by omega)) rfl⟩⟩ rfl (ts_in 0 0 rfl rfl) ?_
          refine aa_off (bs' := [true, true, true, true, true, true, true, true, true, true, true, true, true, true, true, true, true, false, false, false, false, false, false, false]) 16 rfl (by kernel_rfl) rfl ⟨19, rfl, .inl ⟨_, rfl, gdq (v := false) (decide_eq_false (by omega)) rfl⟩⟩ rfl (ts_in 0 0 rfl rfl) ?_
          refine aa_off (bs' := [true, true, true, true, true, true, true, true, true, true, true, true, true, true, true, true, true, true, false, false, false, false, false, false]) 17 rfl (by kernel_rfl) rfl ⟨19, rfl, .inl ⟨_, rfl, gdq (v := false) (decide_eq_false (by omega)) rfl⟩⟩ rfl (ts_in 0 0 rfl rfl) ?_
          refine aa_off (bs' := [true, true, true, true, true, true, true, true, true, true, true, true, true, true, true, true, true, true, true, false, false, false, false, false]) 18 rfl (by kernel_rfl) rfl ⟨19, rfl, .inl ⟨_, rfl, gdq (v := false) (decide_eq_false (by omega)) rfl⟩⟩ rfl (ts_in 0 0 rfl rfl) ?_
          refine aa_off (bs' := [true, true, true, true, true, true, true, true, true, true, true, true, true, true, true, true, true, true, true, true, false, false, false, false]) 19 rfl (by kernel_rfl) rfl ⟨19, rfl, .inl ⟨_, rfl, gdq (v := false) (decide_eq_false (by omega)) rfl⟩⟩ rfl (ts_in 0 0 rfl rfl) ?_
          refine aa_off (bs' := [true, true, true, true, true, true, true, true, true, true, true, true, true, true, true, true, true, true, true, true, true, false, false, false]) 20 rfl (by kernel_rfl) rfl ⟨19, rfl, .inl ⟨_, rfl, gdq (v := false) (decide_eq_false (by omega)) rfl⟩⟩ rfl (ts_in 0 0 rfl rfl) ?_
          refine aa_off (bs' := [true, true, true, true, true, true, true, true, true, true, true, true, true, true, true, true, true, true, true, true, true, true, false, false]) 21 rfl (by kernel_rfl) rfl ⟨19, rfl, .inl ⟨_, rfl, gdq (v := false) (decide_eq_false (by omega)) rfl⟩⟩ rfl (ts_in 0 0 rfl rfl) ?_
          refine aa_pure (bs' := [true, true, true, true, true, true, true, true, true, true, true, true, true, true, true, true, true, true, true, true, true, true, true, false]) 22 rfl (by kernel_rfl) rfl ⟨16, rfl, .inl ⟨_, rfl, gdq (v := false) (nt h1382) rfl⟩⟩ (lt_pick false rfl (decide_eq_false (by omega)) rfl) rfl (ts_in 0 0 rfl rfl) ?_
          refine aa_pure (bs' := [true, true, true, true, true, true, true, true, true, true, true, true, true, true, true, true, true, true, true, true, true, true, true, true]) 23 rfl (by kernel_rfl) rfl rfl (lt_pick false rfl (nt h1382) rfl) rfl (ts_in 0 0 rfl rfl) ?_
          refine aa_done (by kernel_rfl) (ts_in 0 0 rfl rfl) ?_
          refine at_then ?_
          refine at_false rfl rfl ?_
          refine at_skip ?_
          refine at_in ?_
          refine at_then ?_
          refine at_region ?_
          refine at_lt (lt_move rfl) rfl ?_
          refine at_lt (lt_add rfl rfl (by simp only [lo, hi]; omega)) rfl ?_
          refine at_lt (lt_assign rfl) rfl ?_
          refine at_nil ?_
          refine at_int .i64 (x1368 + 1 : Int) (by simp only [lo, hi]; omega) ?_
          exact at_again (σ := Nat) (V := Unit) (lp := fun n s => m24_l1 a0 n s) (S := fun s e => (⟨[(0, w1367), (3, .int .i64 (s : Int))], [], [], [((Ty.int .i64).fact (s : Int) [.int .i64 (s : Int)]), ((Ty.slice ty50).fact a0 [w1367])]⟩ : St)) (x1368 + 1) () hr ⟨⟨rfl, ⟨rfl, trivial⟩⟩, ⟨[], rfl⟩, ⟨[], rfl⟩, ⟨[0, 7], rfl⟩⟩
      · replace hr := ineg h1382 hr
        refine aa_start 24 (by kernel_rfl) ?_
        refine aa_pure (bs' := [true, false, false, false, false, false, false, false, false, false, false, false, false, false, false, false, false, false, false, false, false, false, false, false]) 0 rfl (by kernel_rfl) rfl rfl (lt_move rfl) rfl (ts_in 0 0 rfl rfl) ?_
        refine aa_pure (bs' := [true, true, false, false, false, false, false, false, false, false, false, false, false, false, false, false, false, false, false, false, false, false, false, false]) 1 rfl (by kernel_rfl) rfl rfl (lt_move rfl) rfl (ts_in 0 0 rfl rfl) ?_
        refine aa_pure (bs' := [true, true, true, false, false, false, false, false, false, false, false, false, false, false, false, false, false, false, false, false, false, false, false, false]) 2 rfl (by kernel_rfl) rfl rfl (lt_idx rfl rfl pa1379 und22 ti50) rfl (ts_in 0 0 rfl rfl) ?_
        refine aa_load (bs' := [true, true, true, true, false, false, false, false, false, false, false, false, false, false, false, false, false, false, false, false, false, false, false, false]) 3 rfl (by kernel_rfl) rfl rfl (lt_load_peek 4 rfl ti50 rfl rfl rfl rfl rfl) rfl (ts_in 0 0 rfl rfl) ?_
        refine aa_all (rs := [4]) (by kernel_rfl) rfl (ts_in 0 0 rfl rfl) (List.forall_mem_singleton.2 ?_)
        refine aa_op rfl rfl ?_
        refine hv_call0 [3] (f55_spec h1381) rfl rfl rfl rfl ?_
        rintro _ _ ⟨rfl, rfl⟩
        refine aa_pure (bs' := [true, true, true, true, true, true, false, false, false, false, false, false, false, false, false, false, false, false, false, false, false, false, false, false]) 5 rfl (by kernel_rfl) rfl rfl (lt_not rfl) rfl (ts_in 0 0 rfl rfl) ?_
        refine aa_pure (bs' := [true, true, true, true, true, true, true, false, false, false, false, false, false, false, false, false, false, false, false, false, false, false, false, false]) 6 rfl (by kernel_rfl) rfl rfl (lt_move rfl) rfl (ts_in 0 0 rfl rfl) ?_
        refine aa_off (bs' := [true, true, true, true, true, true, true, true, false, false, false, false, false, false, false, false, false, false, false, false, false, false, false, false]) 7 rfl (by kernel_rfl) rfl ⟨16, rfl, .inl ⟨_, rfl, gdq (v := true) (nf (bf h1382)) rfl⟩⟩ rfl (ts_in 0 0 rfl rfl) ?_
        refine aa_off (bs' := [true, true, true, true, true, true, true, true, true, false, false, false, false, false, false, false, false, false, false, false, false, false, false, false]) 8 rfl (by kernel_rfl) rfl ⟨16, rfl, .inl ⟨_, rfl, gdq (v := true) (nf (bf h1382)) rfl⟩⟩ rfl (ts_in 0 0 rfl rfl) ?_
        refine aa_off (bs' := [true, true, true, true, true, true, true, true, true, true, false, false, false, false, false, false, false, false, false, false, false, false, false, false]) 9 rfl (by kernel_rfl) rfl ⟨16, rfl, .inl ⟨_, rfl, gdq (v := true) (nf (bf h1382)) rfl⟩⟩ rfl (ts_in 0 0 rfl rfl) ?_
        refine aa_off (bs' := [true, true, true, true, true, true, true, true, true, true, true, false, false, false, false, false, false, false, false, false, false, false, false, false]) 10 rfl (by kernel_rfl) rfl ⟨19, rfl, .inr ⟨rfl, rfl⟩⟩ rfl (ts_in 0 0 rfl rfl) ?_
        refine aa_off (bs' := [true, true, true, true, true, true, true, true, true, true, true, true, false, false, false, false, false, false, false, false, false, false, false, false]) 11 rfl (by kernel_rfl) rfl ⟨19, rfl, .inr ⟨rfl, rfl⟩⟩ rfl (ts_in 0 0 rfl rfl) ?_
        refine aa_off (bs' := [true, true, true, true, true, true, true, true, true, true, true, true, true, false, false, false, false, false, false, false, false, false, false, false]) 12 rfl (by kernel_rfl) rfl ⟨19, rfl, .inr ⟨rfl, rfl⟩⟩ rfl (ts_in 0 0 rfl rfl) ?_
        refine aa_off (bs' := [true, true, true, true, true, true, true, true, true, true, true, true, true, true, false, false, false, false, false, false, false, false, false, false]) 13 rfl (by kernel_rfl) rfl ⟨19, rfl, .inr ⟨rfl, rfl⟩⟩ rfl (ts_in 0 0 rfl rfl) ?_
        refine aa_off (bs' := [true, true, true, true, true, true, true, true, true, true, true, true, true, true, true, false, false, false, false, false, false, false, false, false]) 14 rfl (by kernel_rfl) rfl ⟨19, rfl, .inr ⟨rfl, rfl⟩⟩ rfl (ts_in 0 0 rfl rfl) ?_
        refine aa_off (bs' := [true, true, true, true, true, true, true, true, true, true, true, true, true, true, true, true, false, false, false, false, false, false, false, false]) 15 rfl (by kernel_rfl) rfl ⟨19, rfl, .inr ⟨rfl, rfl⟩⟩ rfl (ts_in 0 0 rfl rfl) ?_
        refine aa_off (bs' := [true, true, true, true, true, true, true, true, true, true, true, true, true, true, true, true, true, false, false, false, false, false, false, false]) 16 rfl (by kernel_rfl) rfl ⟨19, rfl, .inr ⟨rfl, rfl⟩⟩ rfl (ts_in 0 0 rfl rfl) ?_
        refine aa_off (bs' := [true, true, true, true, true, true, true, true, true, true, true, true, true, true, true, true, true, true, false, false, false, false, false, false]) 17 rfl (by kernel_rfl) rfl ⟨19, rfl, .inr ⟨rfl, rfl⟩⟩ rfl (ts_in 0 0 rfl rfl) ?_
        refine aa_off (bs' := [true, true, true, true, true, true, true, true, true, true, true, true, true, true, true, true, true, true, true, false, false, false, false, false]) 18 rfl (by kernel_rfl) rfl ⟨19, rfl, .inr ⟨rfl, rfl⟩⟩ rfl (ts_in 0 0 rfl rfl) ?_
        refine aa_off (bs' := [true, true, true, true, true, true, true, true, true, true, true, true, true, true, true, true, true, true, true, true, false, false, false, false]) 19 rfl (by kernel_rfl) rfl ⟨19, rfl, .inr ⟨rfl, rfl⟩⟩ rfl (ts_in 0 0 rfl rfl) ?_
        refine aa_off (bs' := [true, true, true, true, true, true, true, true, true, true, true, true, true, true, true, true, true, true, true, true, true, false, false, false]) 20 rfl (by kernel_rfl) rfl ⟨19, rfl, .inr ⟨rfl, rfl⟩⟩ rfl (ts_in 0 0 rfl rfl) ?_
        refine aa_off (bs' := [true, true, true, true, true, true, true, true, true, true, true, true, true, true, true, true, true, true, true, true, true, true, false, false]) 21 rfl (by kernel_rfl) rfl ⟨19, rfl, .inr ⟨rfl, rfl⟩⟩ rfl (ts_in 0 0 rfl rfl) ?_
        refine aa_off (bs' := [true, true, true, true, true, true, true, true, true, true, true, true, true, true, true, true, true, true, true, true, true, true, true, false]) 22 rfl (by kernel_rfl) rfl ⟨16, rfl, .inl ⟨_, rfl, gdq (v := true) (nf (bf h1382)) rfl⟩⟩ rfl (ts_in 0 0 rfl rfl) ?_
        refine aa_pure (bs' := [true, true, true, true, true, true, true, true, true, true, true, true, true, true, true, true, true, true, true, true, true, true, true, true]) 23 rfl (by kernel_rfl) rfl rfl (lt_pick true rfl (nf (bf h1382)) rfl) rfl (ts_in 0 0 rfl rfl) ?_
        refine aa_done (by kernel_rfl) (ts_in 0 0 rfl rfl) ?_
        refine at_then ?_
        refine at_true rfl rfl ?_
        refine at_seq ?_
        refine at_region ?_
        refine at_lt (lt_assign rfl) rfl ?_
        refine at_nil ?_
        refine at_then ?_
        refine at_ret ?_
        have hq := oinj hr
        clear hr
        subst hq
        have hq := oinj hk1371
        clear hk1371
        subst hq
        refine at_in_ret ?_
        refine at_then_ret ?_
        refine at_then_ret ?_
        refine at_in_ret ?_
        refine at_then_ret ?_
        refine at_then_ret ?_
        exact at_return (.bool false) [] hS Tryz.results24 (.cons (.tmp rfl) .nil) rfl rfl ⟨rfl, rfl⟩
    · replace hr := ineg h1374 hr
      refine at_false rfl (decide_eq_false (by omega)) ?_
      refine at_exit ?_
      refine at_then_exit ?_
      refine at_then_exit ?_
      refine at_in_exit ?_
      have hq := oinj hr
      clear hr
      subst hq
      exact at_leafP ((), ()) rfl ⟨⟨rfl, trivial⟩, ⟨[], rfl⟩, ⟨[], rfl⟩, ⟨[1], rfl⟩⟩
  · rintro ⟨_, _⟩ hp
    replace hr := hk1371
    subst hp
    clear hl1370
    change At _ _ (⟨[(0, w1367)], [], [], [((Ty.slice ty50).fact a0 [w1367])]⟩ : St) _
    refine at_then ?_
    refine at_seq ?_
    refine at_region ?_
    refine at_lt (lt_move rfl) rfl ?_
    refine at_inv 0 rfl (fun i1395 => ?_)
    have l1396 := slice_len i1395
    refine at_lt (lt_flen 0 rfl rfl und22) rfl ?_
    refine at_lt (lt_leq rfl rfl) rfl ?_
    refine at_lt (lt_assign rfl) rfl ?_
    refine at_nil ?_
    refine at_then ?_
    refine at_ret ?_
    have hq := oinj hr
    clear hr
    subst hq
    exact at_return (.bool (decide ((a0.length : Int) ≤ 60))) [] hS Tryz.results24 (.cons (.tmp rfl) .nil) rfl rfl ⟨rfl, rfl⟩
/-! 52 bookplate/bookplateref12.Lines -/
def m52_l1 (a0 : Str) : Nat → (List Str) → Str → Nat → Option ((List Str) × Str)
  | 0, _, _, _ => none
  | k + 1, x1397, x1398, x1399 =>
    if x1399 < a0.length then
      (a0[x1399]?).bind fun c1413 =>
      if c1413.toNat = 10 then
        if x1397.length + 1 ≤ 8796093022208 then
          m52_l1 a0 k (x1397 ++ [x1398]) ([] : Str) (x1399 + 1)
        else none
      else
        if x1399 ≤ x1399 + 1 ∧ x1399 + 1 ≤ a0.length then
          if x1398.length + ((a0.take (x1399 + 1)).drop x1399).length ≤ 9223372036854775807 then
            m52_l1 a0 k x1397 (x1398 ++ ((a0.take (x1399 + 1)).drop x1399)) (x1399 + 1)
          else none
        else none
    else
      some (x1397, x1398)
def m52 (a0 : Str) : Option ((List Str) × Str) :=
  (m52_l1 a0 (a0.length + 1) ([] : (List Str)) ([] : Str) 0).bind fun (x1403, x1404) =>
  some (x1403, x1404)
def post52 (r : ((List Str) × Str)) (v : Value) (fs : List Fact) : Prop := ∃ s1424 : Value, v = .tuple #[s1424, str r.2] ∧ fs = [((Ty.slice Ty.str).fact r.1 [s1424]), (Ty.str.fact r.2 [str r.2])]
theorem en52 : Enters Tryz.prog 52 := ⟨_, Tryz.func52, by kernel_rfl, rfl⟩
theorem f52_spec {a0 : Str} {r : ((List Str) × Str)} (hr : m52 a0 = some r) : Spec Tryz.prog 52 [str a0] [(Ty.str.fact a0 [str a0])] (post52 r) := by
  refine spec_start (N := 28) Tryz.func52 (by kernel_rfl) rfl rfl rfl ?_
  intro g hS
  unfold m52 at hr
  refine at_seq ?_
  refine at_region ?_
  refine at_lt (lt_assign rfl) rfl ?_
  refine at_lt (lt_assign rfl) rfl ?_
  refine at_nil ?_
  refine at_then ?_
  refine at_seq ?_
  refine at_seq ?_
  refine at_region ?_
  refine at_lt (lt_assign rfl) rfl ?_
  refine at_nil ?_
  refine at_then ?_
  refine at_rownew none 9 1 ?_
  refine at_rownil Ty.str ?_
  refine at_mkpure (q := (([] : (List Str)).length * Ty.str.bytes ≤ 140737488355328)) (by simp only [List.nil_append, List.cons_append, List.length_cons, List.length_nil, Ty.int_bytes, Ty.u8_bytes, Ty.str_bytes, Ty.slice_bytes, Ty.bool_bytes, nb] <;> omega) ?_
  refine at_str ([] : Str) (by decide) ?_
  refine at_int .i64 0 (by simp only [lo, hi]; omega) ?_
  replace hr := obind hr
  obtain ⟨r1408, hl1409, hr⟩ := hr
  refine at_cut (V := Value × Nat × (List Value)) (fun e => (⟨[(2, e.1), (3, str r1408.2)], [], [⟨e.1, 9, 1, e.2.1, e.2.2⟩], [(Ty.str.row r1408.1 e.2.2), (pureF (r1408.1.length * Ty.str.bytes ≤ 140737488355328)), (Ty.str.fact r1408.2 [str r1408.2])]⟩ : St)) ?_ ?_
  · refine at_block ?_
    refine at_loopW (σ := ((List Str) × Str × Nat)) (V := Value × Nat × (List Value)) (r := r1408) (fun n s => m52_l1 a0 n s.1 s.2.1 s.2.2) (fun s e => (⟨[(0, str a0), (2, e.1), (3, str s.2.1), (4, .int .i64 (s.2.2 : Int))], [], [⟨e.1, 9, 1, e.2.1, e.2.2⟩], [(Ty.str.row s.1 e.2.2), (pureF (s.1.length * Ty.str.bytes ≤ 140737488355328)), (Ty.str.fact s.2.1 [str s.2.1]), ((Ty.int .i64).fact (s.2.2 : Int) [.int .i64 (s.2.2 : Int)]), (Ty.str.fact a0 [str a0])]⟩ : St)) (fun _ => rfl) _ (([] : (List Str)), ([] : Str), 0) ((.slice none 0 0), 0, []) hl1409 ⟨⟨rfl, ⟨rfl, ⟨rfl, ⟨rfl, trivial⟩⟩⟩⟩, ⟨[], rfl⟩, ⟨[true], rfl⟩, ⟨[3, 2, 1, 0, 4], rfl⟩⟩ ?_
    clear hr hl1409
    intro n s hr e
    obtain ⟨x1397, x1398, x1399⟩ := s
    obtain ⟨v1400, n1401, i1402⟩ := e
    change m52_l1 a0 (n + 1) x1397 x1398 x1399 = some r1408 at hr
    change At _ _ (⟨[(0, str a0), (2, v1400), (3, str x1398), (4, .int .i64 (x1399 : Int))], [], [⟨v1400, 9, 1, n1401, i1402⟩], [(Ty.str.row x1397 i1402), (pureF (x1397.length * Ty.str.bytes ≤ 140737488355328)), (Ty.str.fact x1398 [str x1398]), ((Ty.int .i64).fact (x1399 : Int) [.int .i64 (x1399 : Int)]), (Ty.str.fact a0 [str a0])]⟩ : St) _
    rw [m52_l1] at hr
    refine at_seq ?_
    refine at_seq ?_
    refine at_region ?_
    refine at_lt (lt_move rfl) rfl ?_
    refine at_lt (lt_move rfl) rfl ?_
    refine at_inv 4 rfl (fun l1411 => ?_)
    replace l1411 : a0.length ≤ 9223372036854775807 := l1411
    refine at_lt (lt_slen rfl und9) rfl ?_
    refine at_lt (lt_lss rfl rfl) rfl ?_
    refine at_nil ?_
    refine at_then ?_
    by_cases h1412 : x1399 < a0.length
    · replace hr := ipos h1412 hr
      refine at_true rfl (decide_eq_true (by omega)) ?_
      refine at_skip ?_
      refine at_then ?_
      refine at_seq ?_
      refine at_block ?_
      refine at_seq ?_
      refine at_seq ?_
      refine at_region ?_
      refine at_lt (lt_move rfl) rfl ?_
      refine at_lt (lt_move rfl) rfl ?_
      replace hr := obind hr
      obtain ⟨c1413, h1414, hr⟩ := hr
      have := (List.getElem?_eq_some_iff.1 h1414).1
      have := c1413.toNat_lt
      refine at_lt (lt_sidx rfl rfl und9 (by omega) (nat_at h1414)) rfl ?_
      refine at_lt (lt_eql rfl rfl) rfl ?_
      refine at_nil ?_
      refine at_then ?_
      by_cases h1415 : c1413.toNat = 10
      · replace hr := ipos h1415 hr
        refine at_true rfl (decide_eq_true (by omega)) ?_
        refine at_seq ?_
        refine at_region ?_
        refine at_lt (lt_move rfl) rfl ?_
        refine at_lt (lt_move rfl) rfl ?_
        refine at_hv rfl ?_
        refine hv_bslice (cs := [str x1398]) rfl und89 ti9 rfl rfl rfl rfl rfl (fun s1416 => ?_)
        replace hr := imust hr
        obtain ⟨h1417, hr⟩ := hr
        refine at_rown 1 0 rfl rfl rfl (fun hn1419 => ?_)
        refine at_hv rfl ?_
        refine hv_append 1 0 rfl rfl rfl rfl und89 ti9 rfl rfl rfl (by omega) (by omega) rfl (fun s1418 => ?_)
        refine at_rowsnoc 0 2 rfl rfl ?_
        refine at_lt (lt_assign rfl) rfl ?_
        refine at_nil ?_
        refine at_then ?_
        refine at_seq ?_
        refine at_region ?_
        refine at_lt (lt_assign rfl) rfl ?_
        refine at_nil ?_
        refine at_then ?_
        refine at_exit ?_
        refine at_then_exit ?_
        refine at_in_exit ?_
        refine at_then ?_
        refine at_region ?_
        refine at_lt (lt_move rfl) rfl ?_
        refine at_lt (lt_add rfl rfl (by simp only [lo, hi]; omega)) rfl ?_
        refine at_lt (lt_assign rfl) rfl ?_
        refine at_nil ?_
        refine at_mkpure (q := ((x1397 ++ [x1398]).length * Ty.str.bytes ≤ 140737488355328)) (by simp only [List.length_append, List.length_cons, List.length_nil, Ty.int_bytes, Ty.u8_bytes, Ty.str_bytes, Ty.slice_bytes, Ty.bool_bytes, nb] <;> omega) ?_
        refine at_str ([] : Str) (by decide) ?_
        refine at_int .i64 (x1399 + 1 : Int) (by simp only [lo, hi]; omega) ?_
        exact at_again (σ := ((List Str) × Str × Nat)) (V := Value × Nat × (List Value)) (lp := fun n s => m52_l1 a0 n s.1 s.2.1 s.2.2) (S := fun s e => (⟨[(0, str a0), (2, e.1), (3, str s.2.1), (4, .int .i64 (s.2.2 : Int))], [], [⟨e.1, 9, 1, e.2.1, e.2.2⟩], [(Ty.str.row s.1 e.2.2), (pureF (s.1.length * Ty.str.bytes ≤ 140737488355328)), (Ty.str.fact s.2.1 [str s.2.1]), ((Ty.int .i64).fact (s.2.2 : Int) [.int .i64 (s.2.2 : Int)]), (Ty.str.fact a0 [str a0])]⟩ : St)) (x1397 ++ [x1398], ([] : Str), x1399 + 1) (s1418, n1401 + 1, i1402 ++ [str x1398]) hr ⟨⟨rfl, ⟨rfl, ⟨rfl, ⟨rfl, trivial⟩⟩⟩⟩, ⟨[], rfl⟩, ⟨[false, true], rfl⟩, ⟨[3, 2, 1, 0, 8], rfl⟩⟩
      · replace hr := ineg h1415 hr
        refine at_false rfl (decide_eq_false (by omega)) ?_
        refine at_skip ?_
        refine at_then ?_
        refine at_region ?_
        refine at_lt (lt_move rfl) rfl ?_
        refine at_lt (lt_move rfl) rfl ?_
        refine at_lt (lt_move rfl) rfl ?_
        refine at_lt (lt_move rfl) rfl ?_
        refine at_lt (lt_add rfl rfl (by simp only [lo, hi]; omega)) rfl ?_
        replace hr := imust hr
        obtain ⟨h1420, hr⟩ := hr
        refine at_lt (lt_scut_lh x1399 (x1399 + 1) rfl rfl rfl (by omega) (by omega) und9 (by omega) (by omega)) rfl ?_
        replace hr := imust hr
        obtain ⟨h1421, hr⟩ := hr
        refine at_lt (lt_sadd rfl rfl h1421) rfl ?_
        refine at_lt (lt_assign rfl) rfl ?_
        refine at_nil ?_
        refine at_in ?_
        refine at_then ?_
        refine at_region ?_
        refine at_lt (lt_move rfl) rfl ?_
        refine at_inv 2 rfl (fun l1422 => ?_)
        replace l1422 : x1398.length ≤ 9223372036854775807 := l1422
        refine at_lt (lt_add rfl rfl (by simp only [lo, hi]; omega)) rfl ?_
        refine at_lt (lt_assign rfl) rfl ?_
        refine at_nil ?_
        refine at_str (x1398 ++ ((a0.take (x1399 + 1)).drop x1399)) (by rw [List.length_append]; exact h1421) ?_
        refine at_int .i64 (x1399 + 1 : Int) (by simp only [lo, hi]; omega) ?_
        exact at_again (σ := ((List Str) × Str × Nat)) (V := Value × Nat × (List Value)) (lp := fun n s => m52_l1 a0 n s.1 s.2.1 s.2.2) (S := fun s e => (⟨[(0, str a0), (2, e.1), (3, str s.2.1), (4, .int .i64 (s.2.2 : Int))], [], [⟨e.1, 9, 1, e.2.1, e.2.2⟩], [(Ty.str.row s.1 e.2.2), (pureF (s.1.length * Ty.str.bytes ≤ 140737488355328)), (Ty.str.fact s.2.1 [str s.2.1]), ((Ty.int .i64).fact (s.2.2 : Int) [.int .i64 (s.2.2 : Int)]), (Ty.str.fact a0 [str a0])]⟩ : St)) (x1397, x1398 ++ ((a0.take (x1399 + 1)).drop x1399), x1399 + 1) (v1400, n1401, i1402) hr ⟨⟨rfl, ⟨rfl, ⟨rfl, ⟨rfl, trivial⟩⟩⟩⟩, ⟨[], rfl⟩, ⟨[true], rfl⟩, ⟨[2, 3, 1, 0, 6], rfl⟩⟩
    · replace hr := ineg h1412 hr
      refine at_false rfl (decide_eq_false (by omega)) ?_
      refine at_exit ?_
      refine at_then_exit ?_
      refine at_then_exit ?_
      refine at_in_exit ?_
      have hq := oinj hr
      clear hr
      subst hq
      exact at_leaf (v1400, n1401, i1402) ⟨⟨rfl, ⟨rfl, trivial⟩⟩, ⟨[], rfl⟩, ⟨[true], rfl⟩, ⟨[0, 1, 2], rfl⟩⟩
  · clear hl1409
    obtain ⟨x1403, x1404⟩ := r1408
    intro e
    obtain ⟨v1405, n1406, i1407⟩ := e
    change At _ _ (⟨[(2, v1405), (3, str x1404)], [], [⟨v1405, 9, 1, n1406, i1407⟩], [(Ty.str.row x1403 i1407), (pureF (x1403.length * Ty.str.bytes ≤ 140737488355328)), (Ty.str.fact x1404 [str x1404])]⟩ : St) _
    refine at_then ?_
    refine at_seq ?_
    refine at_region ?_
    refine at_lt (lt_move rfl) rfl ?_
    refine at_lt (lt_move rfl) rfl ?_
    refine at_lt (lt_assign rfl) rfl ?_
    refine at_lt (lt_assign rfl) rfl ?_
    refine at_nil ?_
    refine at_then ?_
    refine at_ret ?_
    have hq := oinj hr
    clear hr
    subst hq
    refine at_pure 1 rfl (fun hb1423 => ?_)
    refine at_release 0 0 rfl rfl rfl hb1423 ?_
    exact at_return (.tuple #[v1405, str x1404]) [0, 3] hS Tryz.results52 (.cons (.tmp rfl) (.cons (.tmp rfl) .nil)) rfl rfl ⟨v1405, rfl, rfl⟩
/-! 73 bookplate/bookplateref16.line -/
def m73_l1 (a0 : D_ref16_Entry) : Nat → Str → Nat → Option Str
  | 0, _, _ => none
  | k + 1, x1429, x1430 =>
    if x1430 < a0.Codes.length then
      (a0.Codes[x1430]?).bind fun x1437 =>
      (a0.Codes[x1430]?).bind fun x1441 =>
      if ([32] : Str).length + ([x1437.From, 62, x1441.To] : Str).length ≤ 9223372036854775807 then
        if x1429.length + (([32] : Str) ++ ([x1437.From, 62, x1441.To] : Str)).length ≤ 9223372036854775807 then
          m73_l1 a0 k (x1429 ++ (([32] : Str) ++ ([x1437.From, 62, x1441.To] : Str))) (x1430 + 1)
        else none
      else none
    else
      some x1429
def m73 (a0 : D_ref16_Entry) : Option Str :=
  if a0.From.length + ([32, 62, 32] : Str).length ≤ 9223372036854775807 then
    if (a0.From ++ ([32, 62, 32] : Str)).length + a0.To.length ≤ 9223372036854775807 then
      (m73_l1 a0 (a0.Codes.length + 1) (a0.From ++ ([32, 62, 32] : Str) ++ a0.To) 0).bind fun x1431 =>
      some x1431
    else none
  else none
def post73 (r : Str) (v : Value) (fs : List Fact) : Prop := v = str r ∧ fs = [(Ty.str.fact r [str r])]
theorem en73 : Enters Tryz.prog 73 := ⟨_, Tryz.func73, by kernel_rfl, rfl⟩
theorem f73_spec {a0 : D_ref16_Entry} {s1425 : Value} {r : Str} (hr : m73 a0 = some r) : Spec Tryz.prog 73 [.agg #[str a0.From, str a0.To, s1425]] [(ty50.fact a0 [str a0.From, str a0.To, s1425])] (post73 r) := by
  refine spec_start (N := 36) Tryz.func73 (by kernel_rfl) rfl rfl rfl ?_
  intro g hS
  unfold m73 at hr
  refine at_open (A := Unit) 0 rfl (fun _ => True) (fun _ => [(Ty.str.fact a0.From [str a0.From]), (Ty.str.fact a0.To [str a0.To]), ((Ty.slice ty83).fact a0.Codes [s1425])]) (fun F w h => ⟨(), trivial, ex50 h⟩) (fun _ _ => ?_)
  refine at_seq ?_
  refine at_region ?_
  refine at_hv rfl ?_
  refine hv_box (cs := [str a0.From, str a0.To, s1425]) rfl rfl rfl (fun b1426 => ?_)
  refine at_lt (lt_assign rfl) rfl ?_
  refine at_nil ?_
  refine at_then ?_
  refine at_seq ?_
  refine at_region ?_
  refine at_lt (lt_fieldAddr 0 rfl fld50_0 rfl) rfl ?_
  refine at_lt (lt_load_box 0 rfl ti9 rfl rfl rfl rfl rfl) rfl ?_
  replace hr := imust hr
  obtain ⟨h1427, hr⟩ := hr
  refine at_lt (lt_sadd rfl rfl h1427) rfl ?_
  refine at_lt (lt_fieldAddr 1 rfl fld50_1 rfl) rfl ?_
  refine at_lt (lt_load_box 0 rfl ti9 rfl rfl rfl rfl rfl) rfl ?_
  replace hr := imust hr
  obtain ⟨h1428, hr⟩ := hr
  refine at_lt (lt_sadd rfl rfl h1428) rfl ?_
  refine at_lt (lt_assign rfl) rfl ?_
  refine at_nil ?_
  refine at_then ?_
  refine at_seq ?_
  refine at_seq ?_
  refine at_region ?_
  refine at_lt (lt_assign rfl) rfl ?_
  refine at_nil ?_
  refine at_then ?_
  refine at_str (a0.From ++ ([32, 62, 32] : Str) ++ a0.To) (by rw [List.length_append]; exact h1428) ?_
  refine at_int .i64 0 (by simp only [lo, hi]; omega) ?_
  replace hr := obind hr
  obtain ⟨x1431, hl1432, hr⟩ := hr
  refine at_cut (V := Unit) (fun e => (⟨[(3, str x1431)], [], [], [(Ty.str.fact x1431 [str x1431])]⟩ : St)) ?_ ?_
  · refine at_block ?_
    refine at_loopW (σ := (Str × Nat)) (V := Unit) (r := x1431) (fun n s => m73_l1 a0 n s.1 s.2) (fun s e => (⟨[(1, .pointer (some (Addr.add ⟨b1426, 0, none⟩ 0))), (3, str s.1), (4, .int .i64 (s.2 : Int))], [⟨b1426, [str a0.From, str a0.To, s1425], 50⟩], [], [(Ty.str.fact s.1 [str s.1]), ((Ty.int .i64).fact (s.2 : Int) [.int .i64 (s.2 : Int)]), (Ty.str.fact a0.From [str a0.From]), (Ty.str.fact a0.To [str a0.To]), ((Ty.slice ty83).fact a0.Codes [s1425])]⟩ : St)) (fun _ => rfl) _ (a0.From ++ ([32, 62, 32] : Str) ++ a0.To, 0) () hl1432 ⟨⟨rfl, ⟨rfl, ⟨rfl, trivial⟩⟩⟩, ⟨[true], rfl⟩, ⟨[], rfl⟩, ⟨[1, 0, 2, 3, 4], rfl⟩⟩ ?_
    clear hr hl1432
    intro n s hr e
    obtain ⟨x1429, x1430⟩ := s
    skip
    change m73_l1 a0 (n + 1) x1429 x1430 = some x1431 at hr
    change At _ _ (⟨[(1, .pointer (some (Addr.add ⟨b1426, 0, none⟩ 0))), (3, str x1429), (4, .int .i64 (x1430 : Int))], [⟨b1426, [str a0.From, str a0.To, s1425], 50⟩], [], [(Ty.str.fact x1429 [str x1429]), ((Ty.int .i64).fact (x1430 : Int) [.int .i64 (x1430 : Int)]), (Ty.str.fact a0.From [str a0.From]), (Ty.str.fact a0.To [str a0.To]), ((Ty.slice ty83).fact a0.Codes [s1425])]⟩ : St) _
    rw [m73_l1] at hr
    refine at_seq ?_
    refine at_seq ?_
    refine at_region ?_
    refine at_lt (lt_move rfl) rfl ?_
    refine at_lt (lt_fieldAddr 2 rfl fld50_2 rfl) rfl ?_
    refine at_lt (lt_load_box 0 rfl ti48 rfl rfl rfl rfl rfl) rfl ?_
    refine at_inv 4 rfl (fun i1434 => ?_)
    have l1435 := slice_len i1434
    refine at_lt (lt_flen 4 rfl rfl und48) rfl ?_
    refine at_lt (lt_lss rfl rfl) rfl ?_
    refine at_nil ?_
    refine at_then ?_
    by_cases h1436 : x1430 < a0.Codes.length
    · replace hr := ipos h1436 hr
      refine at_true rfl (decide_eq_true (by omega)) ?_
      refine at_skip ?_
      refine at_then ?_
      refine at_seq ?_
      refine at_block ?_
      replace hr := obind hr
      obtain ⟨x1437, h1438, hr⟩ := hr
      have := (List.getElem?_eq_some_iff.1 h1438).1
      refine at_elem 4 rfl (nat_at' h1438) (fun p1439 ec pa1440 => ?_)
      refine at_open (A := Unit) 0 rfl _ _ (fun F w h => op83 h) ?_
      rintro _ rfl
      replace hr := obind hr
      obtain ⟨x1441, h1442, hr⟩ := hr
      have := (List.getElem?_eq_some_iff.1 h1442).1
      refine at_elem 6 rfl (nat_at' h1442) (fun p1443 ec pa1444 => ?_)
      refine at_open (A := Unit) 0 rfl _ _ (fun F w h => op83 h) ?_
      rintro _ rfl
      replace hr := imust hr
      obtain ⟨h1446, hr⟩ := hr
      replace hr := imust hr
      obtain ⟨h1447, hr⟩ := hr
      refine aa_start 18 (by kernel_rfl) ?_
      refine aa_pure (bs' := [true, false, false, false, false, false, false, false, false, false, false, false, false, false, false, false, false, false]) 0 rfl (by kernel_rfl) rfl rfl (lt_move rfl) rfl (ts_in 0 0 rfl rfl) ?_
      refine aa_pure (bs' := [true, true, false, false, false, false, false, false, false, false, false, false, false, false, false, false, false, false]) 1 rfl (by kernel_rfl) rfl rfl (lt_fieldAddr 2 rfl fld50_2 rfl) rfl (ts_in 0 0 rfl rfl) ?_
      refine aa_load (bs' := [true, true, true, false, false, false, false, false, false, false, false, false, false, false, false, false, false, false]) 2 rfl (by kernel_rfl) rfl rfl (lt_load_box 0 rfl ti48 rfl rfl rfl rfl rfl) rfl (ts_in 0 0 rfl rfl) ?_
      refine aa_pure (bs' := [true, true, true, true, false, false, false, false, false, false, false, false, false, false, false, false, false, false]) 3 rfl (by kernel_rfl) rfl rfl (lt_move rfl) rfl (ts_in 0 0 rfl rfl) ?_
      refine aa_pure (bs' := [true, true, true, true, true, false, false, false, false, false, false, false, false, false, false, false, false, false]) 4 rfl (by kernel_rfl) rfl rfl (lt_idx rfl rfl pa1440 und48 ti83) rfl (ts_in 0 0 rfl rfl) ?_
      refine aa_pure (bs' := [true, true, true, true, true, true, false, false, false, false, false, false, false, false, false, false, false, false]) 5 rfl (by kernel_rfl) rfl rfl (lt_fieldAddr 0 rfl fld83_0 rfl) rfl (ts_in 0 0 rfl rfl) ?_
      refine aa_load (bs' := [true, true, true, true, true, true, true, false, false, false, false, false, false, false, false, false, false, false]) 6 rfl (by kernel_rfl) rfl rfl (lt_load_peek 3 rfl ti5 rfl rfl rfl rfl rfl) rfl (ts_in 0 0 rfl rfl) ?_
      refine aa_pure (bs' := [true, true, true, true, true, true, true, true, false, false, false, false, false, false, false, false, false, false]) 7 rfl (by kernel_rfl) rfl rfl (lt_fieldAddr 2 rfl fld50_2 rfl) rfl (ts_in 0 0 rfl rfl) ?_
      refine aa_load (bs' := [true, true, true, true, true, true, true, true, true, false, false, false, false, false, false, false, false, false]) 8 rfl (by kernel_rfl) rfl rfl (lt_load_box 0 rfl ti48 rfl rfl rfl rfl rfl) rfl (ts_in 0 0 rfl rfl) ?_
      refine aa_pure (bs' := [true, true, true, true, true, true, true, true, true, true, false, false, false, false, false, false, false, false]) 9 rfl (by kernel_rfl) rfl rfl (lt_move rfl) rfl (ts_in 0 0 rfl rfl) ?_
      refine aa_pure (bs' := [true, true, true, true, true, true, true, true, true, true, true, false, false, false, false, false, false, false]) 10 rfl (by kernel_rfl) rfl rfl (lt_idx rfl rfl pa1444 und48 ti83) rfl (ts_in 0 0 rfl rfl) ?_
      refine aa_pure (bs' := [true, true, true, true, true, true, true, true, true, true, true, true, false, false, false, false, false, false]) 11 rfl (by kernel_rfl) rfl rfl (lt_fieldAddr 1 rfl fld83_1 rfl) rfl (ts_in 0 0 rfl rfl) ?_
      refine aa_load (bs' := [true, true, true, true, true, true, true, true, true, true, true, true, true, false, false, false, false, false]) 12 rfl (by kernel_rfl) rfl rfl (lt_load_peek 1 rfl ti5 rfl rfl rfl rfl rfl) rfl (ts_in 0 0 rfl rfl) ?_
      refine aa_all (rs := [13]) (by kernel_rfl) rfl (ts_in 0 0 rfl rfl) (List.forall_mem_singleton.2 ?_)
      refine aa_op rfl rfl ?_
      refine hv_bslice (cs := [.int .u8 (x1437.From.toNat : Int), .int .u8 62, .int .u8 (x1441.To.toNat : Int)]) rfl und123 ti5 rfl rfl rfl rfl rfl (fun s1448 => ?_)
      refine aa_all (rs := [14]) (by kernel_rfl) rfl (ts_in 0 0 rfl rfl) (List.forall_mem_singleton.2 ?_)
      refine aa_op rfl rfl ?_
      refine lt_bstr 0 [x1437.From, 62, x1441.To] rfl rfl rfl und123 und5 und9 rfl ?_
      refine aa_pure (bs' := [true, true, true, true, true, true, true, true, true, true, true, true, true, true, true, true, false, false]) 15 rfl (by kernel_rfl) rfl rfl (lt_sadd rfl rfl h1446) rfl (ts_in 0 0 rfl rfl) ?_
      refine aa_pure (bs' := [true, true, true, true, true, true, true, true, true, true, true, true, true, true, true, true, true, false]) 16 rfl (by kernel_rfl) rfl rfl (lt_sadd rfl rfl h1447) rfl (ts_in 0 0 rfl rfl) ?_
      refine aa_pure (bs' := [true, true, true, true, true, true, true, true, true, true, true, true, true, true, true, true, true, true]) 17 rfl (by kernel_rfl) rfl rfl (lt_assign rfl) rfl (ts_in 0 0 rfl rfl) ?_
      refine aa_done (by kernel_rfl) (ts_in 0 0 rfl rfl) ?_
      refine at_in ?_
      refine at_then ?_
      refine at_region ?_
      refine at_lt (lt_move rfl) rfl ?_
      refine at_inv 4 rfl (fun l1449 => ?_)
      replace l1449 : x1429.length ≤ 9223372036854775807 := l1449
      refine at_inv 6 rfl (fun l1450 => ?_)
      replace l1450 : a0.From.length ≤ 9223372036854775807 := l1450
      refine at_inv 7 rfl (fun l1451 => ?_)
      replace l1451 : a0.To.length ≤ 9223372036854775807 := l1451
      refine at_lt (lt_add rfl rfl (by simp only [lo, hi]; omega)) rfl ?_
      refine at_lt (lt_assign rfl) rfl ?_
      refine at_nil ?_
      refine at_str (x1429 ++ (([32] : Str) ++ ([x1437.From, 62, x1441.To] : Str))) (by rw [List.length_append]; exact h1447) ?_
      refine at_int .i64 (x1430 + 1 : Int) (by simp only [lo, hi]; omega) ?_
      exact at_again (σ := (Str × Nat)) (V := Unit) (lp := fun n s => m73_l1 a0 n s.1 s.2) (S := fun s e => (⟨[(1, .pointer (some (Addr.add ⟨b1426, 0, none⟩ 0))), (3, str s.1), (4, .int .i64 (s.2 : Int))], [⟨b1426, [str a0.From, str a0.To, s1425], 50⟩], [], [(Ty.str.fact s.1 [str s.1]), ((Ty.int .i64).fact (s.2 : Int) [.int .i64 (s.2 : Int)]), (Ty.str.fact a0.From [str a0.From]), (Ty.str.fact a0.To [str a0.To]), ((Ty.slice ty83).fact a0.Codes [s1425])]⟩ : St)) (x1429 ++ (([32] : Str) ++ ([x1437.From, 62, x1441.To] : Str)), x1430 + 1) () hr ⟨⟨rfl, ⟨rfl, ⟨rfl, trivial⟩⟩⟩, ⟨[true], rfl⟩, ⟨[false], rfl⟩, ⟨[1, 0, 8, 9, 10], rfl⟩⟩
    · replace hr := ineg h1436 hr
      refine at_false rfl (decide_eq_false (by omega)) ?_
      refine at_exit ?_
      refine at_then_exit ?_
      refine at_then_exit ?_
      refine at_in_exit ?_
      have hq := oinj hr
      clear hr
      subst hq
      exact at_leaf () ⟨⟨rfl, trivial⟩, ⟨[false], rfl⟩, ⟨[], rfl⟩, ⟨[0], rfl⟩⟩
  · clear hl1432
    intro e
    change At _ _ (⟨[(3, str x1431)], [], [], [(Ty.str.fact x1431 [str x1431])]⟩ : St) _
    refine at_then ?_
    refine at_seq ?_
    refine at_region ?_
    refine at_lt (lt_move rfl) rfl ?_
    refine at_lt (lt_assign rfl) rfl ?_
    refine at_nil ?_
    refine at_then ?_
    refine at_ret ?_
    have hq := oinj hr
    clear hr
    subst hq
    exact at_return (str x1431) [0] hS Tryz.results73 (.cons (.tmp rfl) .nil) rfl rfl ⟨rfl, rfl⟩
/-! 53 bookplate/bookplateref16.read -/
def m53_l1 (a0 : Str) : Nat → Nat → (List D_ref16_Pair) → Option (List D_ref16_Pair)
  | 0, _, _ => none
  | k + 1, x1459, x1460 =>
    if x1459 + 3 ≤ 9223372036854775807 then
      if x1459 + 3 < a0.length then
        if x1459 + 1 ≤ 9223372036854775807 then
          (a0[x1459 + 1]?).bind fun c1473 =>
          (a0[x1459 + 3]?).bind fun c1475 =>
          if x1460.length + 1 ≤ 70368744177664 then
            if x1459 + 4 ≤ 9223372036854775807 then
              m53_l1 a0 k (x1459 + 4) (x1460 ++ [(⟨c1473, c1475⟩ : D_ref16_Pair)])
            else none
          else none
        else none
      else
        some x1460
    else none
def m53 (a0 : Str) : Option (D_ref16_Entry × Bool) :=
  if a0.length < 9 then
    some ((⟨([] : Str), ([] : Str), ([] : (List D_ref16_Pair))⟩ : D_ref16_Entry), false)
  else
    if 3 ≤ a0.length then
      if 6 ≤ 9 ∧ 9 ≤ a0.length then
        (m53_l1 a0 (a0.length + 1) 9 ([] : (List D_ref16_Pair))).bind fun x1464 =>
        (m55 (⟨a0.take 3, (a0.take 9).drop 6, x1464⟩ : D_ref16_Entry)).bind fun x1487 =>
        if x1487 = true then
          (m73 (⟨a0.take 3, (a0.take 9).drop 6, x1464⟩ : D_ref16_Entry)).bind fun x1491 =>
          some ((⟨a0.take 3, (a0.take 9).drop 6, x1464⟩ : D_ref16_Entry), decide (x1491 = a0))
        else
          some ((⟨a0.take 3, (a0.take 9).drop 6, x1464⟩ : D_ref16_Entry), false)
      else none
    else none
def post53 (r : (D_ref16_Entry × Bool)) (v : Value) (fs : List Fact) : Prop := ∃ s1499 : Value, v = .tuple #[.agg #[str r.1.From, str r.1.To, s1499], .bool r.2] ∧ fs = [(ty50.fact r.1 [str r.1.From, str r.1.To, s1499])]
theorem en53 : Enters Tryz.prog 53 := ⟨_, Tryz.func53, by kernel_rfl, rfl⟩
theorem f53_spec {a0 : Str} {r : (D_ref16_Entry × Bool)} (hr : m53 a0 = some r) : Spec Tryz.prog 53 [str a0] [(Ty.str.fact a0 [str a0])] (post53 r) := by
  refine spec_start (N := 45) Tryz.func53 (by kernel_rfl) rfl rfl rfl ?_
  intro g hS
  unfold m53 at hr
  refine at_seq ?_
  refine at_region ?_
  refine at_hv rfl ?_
  refine hv_alloc (cs := [str ([] : Str), str ([] : Str), (.slice none 0 0)]) ti50 rfl rfl (fun b1452 => ?_)
  refine at_lt (lt_assign rfl) rfl ?_
  refine at_nil ?_
  refine at_then ?_
  refine at_seq ?_
  refine at_seq ?_
  refine at_region ?_
  refine at_lt (lt_move rfl) rfl ?_
  refine at_inv 0 rfl (fun l1453 => ?_)
  replace l1453 : a0.length ≤ 9223372036854775807 := l1453
  refine at_lt (lt_slen rfl und9) rfl ?_
  refine at_lt (lt_lss rfl rfl) rfl ?_
  refine at_nil ?_
  refine at_then ?_
  by_cases h1454 : a0.length < 9
  · replace hr := ipos h1454 hr
    refine at_true rfl (decide_eq_true (by omega)) ?_
    refine at_seq ?_
    refine at_region ?_
    refine at_lt (lt_build (cs := [str ([] : Str), str ([] : Str), (.slice none 0 0)]) rfl ti50 pl50 rfl) rfl ?_
    refine at_hv rfl ?_
    refine hv_store_box 0 (cs' := [str ([] : Str), str ([] : Str), (.slice none 0 0)]) rfl rfl ti50 rfl rfl rfl rfl rfl ?_
    refine at_lt (lt_assign rfl) rfl ?_
    refine at_nil ?_
    refine at_then ?_
    refine at_ret ?_
    have hq := oinj hr
    clear hr
    subst hq
    refine at_then_ret ?_
    refine at_str ([] : Str) (by decide) ?_
    refine at_fnil ty83 none ?_
    refine at_derive [1, 1, 0] (ty50.fact (⟨([] : Str), ([] : Str), ([] : (List D_ref16_Pair))⟩ : D_ref16_Entry) [str ([] : Str), str ([] : Str), (.slice none 0 0)]) rfl (fun F w h => mk50 (x := (⟨([] : Str), ([] : Str), ([] : (List D_ref16_Pair))⟩ : D_ref16_Entry)) h) ?_
    exact at_return (.tuple #[.agg #[str ([] : Str), str ([] : Str), (.slice none 0 0)], .bool false]) [0] hS Tryz.results53 (.cons (.cell 0 rfl ti50 rfl rfl rfl rfl) (.cons (.tmp rfl) .nil)) rfl rfl ⟨((.slice none 0 0)), rfl, rfl⟩
  · replace hr := ineg h1454 hr
    refine at_false rfl (decide_eq_false (by omega)) ?_
    refine at_skip ?_
    refine at_then ?_
    refine at_seq ?_
    replace hr := imust hr
    obtain ⟨h1455, hr⟩ := hr
    replace hr := imust hr
    obtain ⟨h1456, hr⟩ := hr
    refine aa_start 7 (by kernel_rfl) ?_
    refine aa_pure (bs' := [true, false, false, false, false, false, false]) 0 rfl (by kernel_rfl) rfl rfl (lt_move rfl) rfl (ts_in 0 0 rfl rfl) ?_
    refine aa_pure (bs' := [true, true, false, false, false, false, false]) 1 rfl (by kernel_rfl) rfl rfl (lt_scut_h 3 rfl rfl (by omega) und9 (by omega)) rfl (ts_in 0 0 rfl rfl) ?_
    refine aa_pure (bs' := [true, true, true, false, false, false, false]) 2 rfl (by kernel_rfl) rfl rfl (lt_move rfl) rfl (ts_in 0 0 rfl rfl) ?_
    refine aa_pure (bs' := [true, true, true, true, false, false, false]) 3 rfl (by kernel_rfl) rfl rfl (lt_scut_lh 6 9 rfl rfl rfl (by omega) (by omega) und9 (by omega) (by omega)) rfl (ts_in 0 0 rfl rfl) ?_
    refine aa_pure (bs' := [true, true, true, true, true, false, false]) 4 rfl (by kernel_rfl) rfl rfl (lt_build (cs := [str (a0.take 3), str ((a0.take 9).drop 6), (.slice none 0 0)]) rfl ti50 pl50 rfl) rfl (ts_in 0 0 rfl rfl) ?_
    refine aa_all (rs := [5]) (by kernel_rfl) rfl (ts_in 0 0 rfl rfl) (List.forall_mem_singleton.2 ?_)
    refine aa_op rfl rfl ?_
    refine hv_alloc (cs := [str ([] : Str), str ([] : Str), (.slice none 0 0)]) ti50 rfl rfl (fun b1458 => ?_)
    refine aa_all (rs := [6]) (by kernel_rfl) rfl (ts_in 1 0 rfl rfl) (List.forall_mem_singleton.2 ?_)
    refine aa_op rfl rfl ?_
    refine hv_store_box 0 (cs' := [str (a0.take 3), str ((a0.take 9).drop 6), (.slice none 0 0)]) rfl rfl ti50 rfl rfl rfl rfl rfl ?_
    refine aa_done (by kernel_rfl) (ts_in 1 0 rfl rfl) ?_
    refine at_then ?_
    refine at_seq ?_
    refine at_seq ?_
    refine at_region ?_
    refine at_lt (lt_assign rfl) rfl ?_
    refine at_nil ?_
    refine at_then ?_
    refine at_int .i64 9 (by simp only [lo, hi]; omega) ?_
    refine at_rownew none 83 2 ?_
    refine at_rownil ty83 ?_
    refine at_mkpure (q := (([] : (List D_ref16_Pair)).length * ty83.bytes ≤ 140737488355328)) (by simp only [List.nil_append, List.cons_append, List.length_cons, List.length_nil, ty83_bytes] <;> omega) ?_
    replace hr := obind hr
    obtain ⟨x1464, hl1468, hr⟩ := hr
    refine at_cut (V := Value × Nat × (List Value)) (fun e => (⟨[(0, str a0), (2, .pointer (some (Addr.add ⟨b1452, 0, none⟩ 0))), (4, .pointer (some (Addr.add ⟨b1458, 0, none⟩ 0)))], [⟨b1458, [str (a0.take 3), str ((a0.take 9).drop 6), e.1], 50⟩, ⟨b1452, [str ([] : Str), str ([] : Str), (.slice none 0 0)], 50⟩], [⟨e.1, 83, 2, e.2.1, e.2.2⟩], [(ty83.row x1464 e.2.2), (pureF (x1464.length * ty83.bytes ≤ 140737488355328)), (Ty.str.fact a0 [str a0])]⟩ : St)) ?_ ?_
    · refine at_block ?_
      refine at_loopW (σ := (Nat × (List D_ref16_Pair))) (V := Value × Nat × (List Value)) (r := x1464) (fun n s => m53_l1 a0 n s.1 s.2) (fun s e => (⟨[(0, str a0), (2, .pointer (some (Addr.add ⟨b1452, 0, none⟩ 0))), (4, .pointer (some (Addr.add ⟨b1458, 0, none⟩ 0))), (5, .int .i64 (s.1 : Int))], [⟨b1458, [str (a0.take 3), str ((a0.take 9).drop 6), e.1], 50⟩, ⟨b1452, [str ([] : Str), str ([] : Str), (.slice none 0 0)], 50⟩], [⟨e.1, 83, 2, e.2.1, e.2.2⟩], [((Ty.int .i64).fact (s.1 : Int) [.int .i64 (s.1 : Int)]), (ty83.row s.2 e.2.2), (pureF (s.2.length * ty83.bytes ≤ 140737488355328)), (Ty.str.fact a0 [str a0])]⟩ : St)) (fun _ => rfl) _ (9, ([] : (List D_ref16_Pair))) ((.slice none 0 0), 0, []) hl1468 ⟨⟨rfl, ⟨rfl, ⟨rfl, ⟨rfl, trivial⟩⟩⟩⟩, ⟨[true, true], rfl⟩, ⟨[true], rfl⟩, ⟨[2, 1, 0, 3], rfl⟩⟩ ?_
      clear hr hl1468
      intro n s hr e
      obtain ⟨x1459, x1460⟩ := s
      obtain ⟨v1461, n1462, i1463⟩ := e
      change m53_l1 a0 (n + 1) x1459 x1460 = some x1464 at hr
      change At _ _ (⟨[(0, str a0), (2, .pointer (some (Addr.add ⟨b1452, 0, none⟩ 0))), (4, .pointer (some (Addr.add ⟨b1458, 0, none⟩ 0))), (5, .int .i64 (x1459 : Int))], [⟨b1458, [str (a0.take 3), str ((a0.take 9).drop 6), v1461], 50⟩, ⟨b1452, [str ([] : Str), str ([] : Str), (.slice none 0 0)], 50⟩], [⟨v1461, 83, 2, n1462, i1463⟩], [((Ty.int .i64).fact (x1459 : Int) [.int .i64 (x1459 : Int)]), (ty83.row x1460 i1463), (pureF (x1460.length * ty83.bytes ≤ 140737488355328)), (Ty.str.fact a0 [str a0])]⟩ : St) _
      rw [m53_l1] at hr
      refine at_seq ?_
      refine at_seq ?_
      refine at_region ?_
      refine at_lt (lt_move rfl) rfl ?_
      replace hr := imust hr
      obtain ⟨h1470, hr⟩ := hr
      refine at_lt (lt_add rfl rfl (by simp only [lo, hi]; omega)) rfl ?_
      refine at_lt (lt_move rfl) rfl ?_
      refine at_lt (lt_slen rfl und9) rfl ?_
      refine at_lt (lt_lss rfl rfl) rfl ?_
      refine at_nil ?_
      refine at_then ?_
      by_cases h1471 : x1459 + 3 < a0.length
      · replace hr := ipos h1471 hr
        refine at_true rfl (decide_eq_true (by omega)) ?_
        refine at_skip ?_
        refine at_then ?_
        refine at_seq ?_
        refine at_block ?_
        replace hr := imust hr
        obtain ⟨h1472, hr⟩ := hr
        replace hr := obind hr
        obtain ⟨c1473, h1474, hr⟩ := hr
        have := (List.getElem?_eq_some_iff.1 h1474).1
        have := c1473.toNat_lt
        replace hr := obind hr
        obtain ⟨c1475, h1476, hr⟩ := hr
        have := (List.getElem?_eq_some_iff.1 h1476).1
        have := c1475.toNat_lt
        replace hr := imust hr
        obtain ⟨h1478, hr⟩ := hr
        refine aa_start 14 (by kernel_rfl) ?_
        refine aa_pure (bs' := [true, false, false, false, false, false, false, false, false, false, false, false, false, false, false]) 0 rfl (by kernel_rfl) rfl rfl (lt_fieldAddr 2 rfl fld50_2 rfl) rfl (ts_in 0 0 rfl rfl) ?_
        refine aa_load (bs' := [true, true, false, false, false, false, false, false, false, false, false, false, false, false, false]) 1 rfl (by kernel_rfl) rfl rfl (lt_load_box 0 rfl ti48 rfl rfl rfl rfl rfl) rfl (ts_in 0 0 rfl rfl) ?_
        refine aa_pure (bs' := [true, true, true, false, false, false, false, false, false, false, false, false, false, false, false]) 2 rfl (by kernel_rfl) rfl rfl (lt_move rfl) rfl (ts_in 0 0 rfl rfl) ?_
        refine aa_pure (bs' := [true, true, true, true, false, false, false, false, false, false, false, false, false, false, false]) 3 rfl (by kernel_rfl) rfl rfl (lt_move rfl) rfl (ts_in 0 0 rfl rfl) ?_
        refine aa_pure (bs' := [true, true, true, true, true, false, false, false, false, false, false, false, false, false, false]) 4 rfl (by kernel_rfl) rfl rfl (lt_add rfl rfl (by simp only [lo, hi]; omega)) rfl (ts_in 0 0 rfl rfl) ?_
        refine aa_pure (bs' := [true, true, true, true, true, true, false, false, false, false, false, false, false, false, false]) 5 rfl (by kernel_rfl) rfl rfl (lt_sidx rfl rfl und9 (by omega) (nat_at h1474)) rfl (ts_in 0 0 rfl rfl) ?_
        refine aa_pure (bs' := [true, true, true, true, true, true, true, false, false, false, false, false, false, false, false]) 6 rfl (by kernel_rfl) rfl rfl (lt_move rfl) rfl (ts_in 0 0 rfl rfl) ?_
        refine aa_pure (bs' := [true, true, true, true, true, true, true, true, false, false, false, false, false, false, false]) 7 rfl (by kernel_rfl) rfl rfl (lt_move rfl) rfl (ts_in 0 0 rfl rfl) ?_
        refine aa_pure (bs' := [true, true, true, true, true, true, true, true, true, false, false, false, false, false, false]) 8 rfl (by kernel_rfl) rfl rfl (lt_add rfl rfl (by simp only [lo, hi]; omega)) rfl (ts_in 0 0 rfl rfl) ?_
        refine aa_pure (bs' := [true, true, true, true, true, true, true, true, true, true, false, false, false, false, false]) 9 rfl (by kernel_rfl) rfl rfl (lt_sidx rfl rfl und9 (by omega) (nat_at h1476)) rfl (ts_in 0 0 rfl rfl) ?_
        refine aa_pure (bs' := [true, true, true, true, true, true, true, true, true, true, true, false, false, false, false]) 10 rfl (by kernel_rfl) rfl rfl (lt_build (cs := [.int .u8 (c1473.toNat : Int), .int .u8 (c1475.toNat : Int)]) rfl ti83 pl83 rfl) rfl (ts_in 0 0 rfl rfl) ?_
        refine aa_all (rs := [11]) (by kernel_rfl) rfl (ts_in 0 0 rfl rfl) (List.forall_mem_singleton.2 ?_)
        refine aa_op rfl rfl ?_
        refine hv_bslice (cs := [.int .u8 (c1473.toNat : Int), .int .u8 (c1475.toNat : Int)]) rfl und48 ti83 rfl rfl rfl rfl rfl (fun s1482 => ?_)
        refine aa_all (rs := [12]) (by kernel_rfl) rfl (ts_in 0 0 rfl rfl) (List.forall_mem_singleton.2 ?_)
        refine at_derive [] (ty83.fact (⟨c1473, c1475⟩ : D_ref16_Pair) [.int .u8 (c1473.toNat : Int), .int .u8 (c1475.toNat : Int)]) rfl (fun F w h => mk83 (x := (⟨c1473, c1475⟩ : D_ref16_Pair)) h) ?_
        refine at_rown 1 2 rfl rfl rfl (fun hn1484 => ?_)
        refine aa_op rfl rfl ?_
        refine hv_append 1 0 rfl rfl rfl rfl und48 ti83 rfl rfl rfl (by omega) (by omega) rfl (fun s1483 => ?_)
        refine at_rowsnoc 2 0 rfl rfl ?_
        refine aa_pure (bs' := [true, true, true, true, true, true, true, true, true, true, true, true, true, true, false]) 13 rfl (by kernel_rfl) rfl rfl (lt_fieldAddr 2 rfl fld50_2 rfl) rfl (ts_in 0 2 rfl rfl) ?_
        refine aa_all (rs := [14]) (by kernel_rfl) rfl (ts_in 0 2 rfl rfl) (List.forall_mem_singleton.2 ?_)
        refine at_rowv 1 rfl (fun ho1485 => ?_)
        replace ho1485 := row_one (by obtain ⟨a, c, h⟩ := ho1485; exact ⟨a, _, c, h⟩)
        refine aa_op rfl rfl ?_
        refine hv_store1 0 (cs' := [str (a0.take 3), str ((a0.take 9).drop 6), s1483]) rfl rfl ti48 rfl rfl rfl rfl ho1485 ?_
        refine aa_done (by kernel_rfl) (ts_out rfl) ?_
        refine at_in ?_
        refine at_then ?_
        refine at_region ?_
        refine at_lt (lt_move rfl) rfl ?_
        replace hr := imust hr
        obtain ⟨h1486, hr⟩ := hr
        refine at_lt (lt_add rfl rfl (by simp only [lo, hi]; omega)) rfl ?_
        refine at_lt (lt_assign rfl) rfl ?_
        refine at_nil ?_
        refine at_int .i64 (x1459 + 4 : Int) (by simp only [lo, hi]; omega) ?_
        refine at_mkpure (q := ((x1460 ++ [(⟨c1473, c1475⟩ : D_ref16_Pair)]).length * ty83.bytes ≤ 140737488355328)) (by simp only [List.length_append, List.length_cons, List.length_nil, ty83_bytes] <;> omega) ?_
        exact at_again (σ := (Nat × (List D_ref16_Pair))) (V := Value × Nat × (List Value)) (lp := fun n s => m53_l1 a0 n s.1 s.2) (S := fun s e => (⟨[(0, str a0), (2, .pointer (some (Addr.add ⟨b1452, 0, none⟩ 0))), (4, .pointer (some (Addr.add ⟨b1458, 0, none⟩ 0))), (5, .int .i64 (s.1 : Int))], [⟨b1458, [str (a0.take 3), str ((a0.take 9).drop 6), e.1], 50⟩, ⟨b1452, [str ([] : Str), str ([] : Str), (.slice none 0 0)], 50⟩], [⟨e.1, 83, 2, e.2.1, e.2.2⟩], [((Ty.int .i64).fact (s.1 : Int) [.int .i64 (s.1 : Int)]), (ty83.row s.2 e.2.2), (pureF (s.2.length * ty83.bytes ≤ 140737488355328)), (Ty.str.fact a0 [str a0])]⟩ : St)) (x1459 + 4, x1460 ++ [(⟨c1473, c1475⟩ : D_ref16_Pair)]) (s1483, n1462 + 1, i1463 ++ [.int .u8 (c1473.toNat : Int), .int .u8 (c1475.toNat : Int)]) hr ⟨⟨rfl, ⟨rfl, ⟨rfl, ⟨rfl, trivial⟩⟩⟩⟩, ⟨[true, true], rfl⟩, ⟨[false, true], rfl⟩, ⟨[1, 2, 0, 7], rfl⟩⟩
      · replace hr := ineg h1471 hr
        refine at_false rfl (decide_eq_false (by omega)) ?_
        refine at_exit ?_
        refine at_then_exit ?_
        refine at_then_exit ?_
        refine at_in_exit ?_
        have hq := oinj hr
        clear hr
        subst hq
        exact at_leaf (v1461, n1462, i1463) ⟨⟨rfl, ⟨rfl, ⟨rfl, trivial⟩⟩⟩, ⟨[true, true], rfl⟩, ⟨[true], rfl⟩, ⟨[1, 2, 3], rfl⟩⟩
    · clear hl1468
      intro e
      obtain ⟨v1465, n1466, i1467⟩ := e
      change At _ _ (⟨[(0, str a0), (2, .pointer (some (Addr.add ⟨b1452, 0, none⟩ 0))), (4, .pointer (some (Addr.add ⟨b1458, 0, none⟩ 0)))], [⟨b1458, [str (a0.take 3), str ((a0.take 9).drop 6), v1465], 50⟩, ⟨b1452, [str ([] : Str), str ([] : Str), (.slice none 0 0)], 50⟩], [⟨v1465, 83, 2, n1466, i1467⟩], [(ty83.row x1464 i1467), (pureF (x1464.length * ty83.bytes ≤ 140737488355328)), (Ty.str.fact a0 [str a0])]⟩ : St) _
      refine at_then ?_
      refine at_seq ?_
      replace hr := obind hr
      obtain ⟨x1487, h1488, hr⟩ := hr
      by_cases h1490 : x1487 = true
      · replace hr := ipos h1490 hr
        replace hr := obind hr
        obtain ⟨x1491, h1492, hr⟩ := hr
        refine aa_start 9 (by kernel_rfl) ?_
        refine aa_load (bs' := [true, false, false, false, false, false, false, false, false, false, false]) 0 rfl (by kernel_rfl) rfl rfl (lt_load_box 0 rfl ti50 rfl rfl rfl rfl rfl) rfl (ts_in 0 0 rfl rfl) ?_
        refine aa_all (rs := [1]) (by kernel_rfl) rfl (ts_in 0 0 rfl rfl) (List.forall_mem_singleton.2 ?_)
        refine aa_op rfl rfl ?_
        refine hv_lt (lt_load_box 0 rfl ti50 rfl rfl rfl rfl rfl) rfl ?_
        refine aa_all (rs := [2]) (by kernel_rfl) rfl (ts_in 0 0 rfl rfl) (List.forall_mem_singleton.2 ?_)
        refine at_str (a0.take 3) (by simp only [List.length_take, List.length_drop]; omega) ?_
        refine at_str ((a0.take 9).drop 6) (by simp only [List.length_take, List.length_drop]; omega) ?_
        refine at_pure 3 rfl (fun hb1494 => ?_)
        refine at_release 0 2 rfl rfl rfl hb1494 ?_
        refine at_derive [2, 1, 0] (ty50.fact (⟨a0.take 3, (a0.take 9).drop 6, x1464⟩ : D_ref16_Entry) [str (a0.take 3), str ((a0.take 9).drop 6), v1465]) rfl (fun F w h => mk50 (x := (⟨a0.take 3, (a0.take 9).drop 6, x1464⟩ : D_ref16_Entry)) h) ?_
        refine aa_op rfl rfl ?_
        refine hv_call0 [0] (f55_spec h1488) rfl rfl rfl rfl ?_
        rintro _ _ ⟨rfl, rfl⟩
        refine aa_pure (bs' := [true, true, true, true, false, false, false, false, false, false, false]) 3 rfl (by kernel_rfl) rfl rfl (lt_move rfl) rfl (ts_in 0 4 rfl rfl) ?_
        refine aa_pure (bs' := [true, true, true, true, false, false, true, false, false, false, false]) 6 rfl (by kernel_rfl) rfl ⟨39, rfl, .inl ⟨_, rfl, gdq (v := true) h1490 rfl⟩⟩ (lt_move rfl) rfl (ts_in 0 4 rfl rfl) ?_
        refine aa_all (rs := [4]) (by kernel_rfl) rfl (ts_in 0 4 rfl rfl) (List.forall_mem_singleton.2 ?_)
        refine aa_op rfl ⟨39, rfl, .inl ⟨_, rfl, gdq (v := true) h1490 rfl⟩⟩ ?_
        refine hv_lt (lt_load_box 0 rfl ti50 rfl rfl rfl rfl rfl) rfl ?_
        refine aa_all (rs := [5]) (by kernel_rfl) rfl (ts_in 0 4 rfl rfl) (List.forall_mem_singleton.2 ?_)
        refine aa_op rfl ⟨39, rfl, .inl ⟨_, rfl, gdq (v := true) h1490 rfl⟩⟩ ?_
        refine hv_call0 [0] (f73_spec h1492) rfl rfl rfl rfl ?_
        rintro _ _ ⟨rfl, rfl⟩
        refine aa_pure (bs' := [true, true, true, true, true, true, true, true, false, false, false]) 7 rfl (by kernel_rfl) rfl ⟨39, rfl, .inl ⟨_, rfl, gdq (v := true) h1490 rfl⟩⟩ (lt_seql rfl rfl) rfl (ts_in 0 5 rfl rfl) ?_
        refine aa_pure (bs' := [true, true, true, true, true, true, true, true, true, false, false]) 8 rfl (by kernel_rfl) rfl rfl (lt_pick true rfl h1490 rfl) rfl (ts_in 0 5 rfl rfl) ?_
        refine aa_all (rs := [9]) (by kernel_rfl) rfl (ts_in 0 5 rfl rfl) (List.forall_mem_singleton.2 ?_)
        refine at_one 2 rfl (fun ho1495 => ?_)
        refine aa_op rfl rfl ?_
        refine hv_store_box 1 (cs' := [str (a0.take 3), str ((a0.take 9).drop 6), v1465]) rfl rfl ti50 rfl rfl rfl rfl (allc rfl (allc rfl (allc ho1495 rfl))) ?_
        refine aa_all (rs := [10]) (by kernel_rfl) rfl (ts_out rfl) (List.forall_mem_singleton.2 ?_)
        refine aa_op rfl rfl ?_
        refine hv_lt (lt_assign rfl) rfl ?_
        refine aa_done (by kernel_rfl) (ts_out rfl) ?_
        refine at_then ?_
        refine at_ret ?_
        have hq := oinj hr
        clear hr
        subst hq
        exact at_return (.tuple #[.agg #[str (a0.take 3), str ((a0.take 9).drop 6), v1465], .bool (decide (x1491 = a0))]) [1] hS Tryz.results53 (.cons (.cell 1 rfl ti50 rfl rfl rfl rfl) (.cons (.tmp rfl) .nil)) rfl rfl ⟨v1465, rfl, rfl⟩
      · replace hr := ineg h1490 hr
        refine aa_start 9 (by kernel_rfl) ?_
        refine aa_load (bs' := [true, false, false, false, false, false, false, false, false, false, false]) 0 rfl (by kernel_rfl) rfl rfl (lt_load_box 0 rfl ti50 rfl rfl rfl rfl rfl) rfl (ts_in 0 0 rfl rfl) ?_
        refine aa_all (rs := [1]) (by kernel_rfl) rfl (ts_in 0 0 rfl rfl) (List.forall_mem_singleton.2 ?_)
        refine aa_op rfl rfl ?_
        refine hv_lt (lt_load_box 0 rfl ti50 rfl rfl rfl rfl rfl) rfl ?_
        refine aa_all (rs := [2]) (by kernel_rfl) rfl (ts_in 0 0 rfl rfl) (List.forall_mem_singleton.2 ?_)
        refine at_str (a0.take 3) (by simp only [List.length_take, List.length_drop]; omega) ?_
        refine at_str ((a0.take 9).drop 6) (by simp only [List.length_take, List.length_drop]; omega) ?_
        refine at_pure 3 rfl (fun hb1497 => ?_)
        refine at_release 0 2 rfl rfl rfl hb1497 ?_
        refine at_derive [2, 1, 0] (ty50.fact (⟨a0.take 3, (a0.take 9).drop 6, x1464⟩ : D_ref16_Entry) [str (a0.take 3), str ((a0.take 9).drop 6), v1465]) rfl (fun F w h => mk50 (x := (⟨a0.take 3, (a0.take 9).drop 6, x1464⟩ : D_ref16_Entry)) h) ?_
        refine aa_op rfl rfl ?_
        refine hv_call0 [0] (f55_spec h1488) rfl rfl rfl rfl ?_
        rintro _ _ ⟨rfl, rfl⟩
        refine aa_pure (bs' := [true, true, true, true, false, false, false, false, false, false, false]) 3 rfl (by kernel_rfl) rfl rfl (lt_move rfl) rfl (ts_in 0 4 rfl rfl) ?_
        refine aa_off (bs' := [true, true, true, true, true, false, false, false, false, false, false]) 4 rfl (by kernel_rfl) rfl ⟨39, rfl, .inl ⟨_, rfl, gdq (v := false) (bf h1490) rfl⟩⟩ rfl (ts_in 0 4 rfl rfl) ?_
        refine aa_off (bs' := [true, true, true, true, true, true, false, false, false, false, false]) 5 rfl (by kernel_rfl) rfl ⟨39, rfl, .inl ⟨_, rfl, gdq (v := false) (bf h1490) rfl⟩⟩ rfl (ts_in 0 4 rfl rfl) ?_
        refine aa_off (bs' := [true, true, true, true, true, true, true, false, false, false, false]) 6 rfl (by kernel_rfl) rfl ⟨39, rfl, .inl ⟨_, rfl, gdq (v := false) (bf h1490) rfl⟩⟩ rfl (ts_in 0 4 rfl rfl) ?_
        refine aa_off (bs' := [true, true, true, true, true, true, true, true, false, false, false]) 7 rfl (by kernel_rfl) rfl ⟨39, rfl, .inl ⟨_, rfl, gdq (v := false) (bf h1490) rfl⟩⟩ rfl (ts_in 0 4 rfl rfl) ?_
        refine aa_pure (bs' := [true, true, true, true, true, true, true, true, true, false, false]) 8 rfl (by kernel_rfl) rfl rfl (lt_pick false rfl (bf h1490) rfl) rfl (ts_in 0 4 rfl rfl) ?_
        refine aa_all (rs := [9]) (by kernel_rfl) rfl (ts_in 0 4 rfl rfl) (List.forall_mem_singleton.2 ?_)
        refine at_one 1 rfl (fun ho1498 => ?_)
        refine aa_op rfl rfl ?_
        refine hv_store_box 1 (cs' := [str (a0.take 3), str ((a0.take 9).drop 6), v1465]) rfl rfl ti50 rfl rfl rfl rfl (allc rfl (allc rfl (allc ho1498 rfl))) ?_
        refine aa_all (rs := [10]) (by kernel_rfl) rfl (ts_out rfl) (List.forall_mem_singleton.2 ?_)
        refine aa_op rfl rfl ?_
        refine hv_lt (lt_assign rfl) rfl ?_
        refine aa_done (by kernel_rfl) (ts_out rfl) ?_
        refine at_then ?_
        refine at_ret ?_
        have hq := oinj hr
        clear hr
        subst hq
        exact at_return (.tuple #[.agg #[str (a0.take 3), str ((a0.take 9).drop 6), v1465], .bool false]) [0] hS Tryz.results53 (.cons (.cell 1 rfl ti50 rfl rfl rfl rfl) (.cons (.tmp rfl) .nil)) rfl rfl ⟨v1465, rfl, rfl⟩
/-! 20 bookplate/bookplateref16.Parse -/
def m20_l1 (x1500 : ((List Str) × Str)) : Nat → (List D_ref16_Entry) → Nat → Option (Fl ((List D_ref16_Entry) × Int × Int) (List D_ref16_Entry))
  | 0, _, _ => none
  | k + 1, x1503, x1504 =>
    if x1504 < x1500.1.length then
      (x1500.1[x1504]?).bind fun x1518 =>
      (m53 x1518).bind fun x1522 =>
      Option.bind (α := Bool) (
        if x1522.2 = true then
          if x1503.length ≤ 2513169434916 then
            if ([] ++ x1503).length + 1 ≤ 2513169434916 then
              (m24 ([] ++ x1503 ++ [(⟨x1522.1.From, x1522.1.To, x1522.1.Codes⟩ : D_ref16_Entry)])).bind fun x1553 =>
              some (!x1553)
            else none
          else none
        else
          some true
      ) fun x1540 =>
      if x1540 = true then
        some (Fl.ret (([] : (List D_ref16_Entry)), (x1504 : Int), 7))
      else
        if x1503.length + 1 ≤ 2513169434916 then
          m20_l1 x1500 k (x1503 ++ [(⟨x1522.1.From, x1522.1.To, x1522.1.Codes⟩ : D_ref16_Entry)]) (x1504 + 1)
        else none
    else
      some (Fl.go x1503)
def m20 (a0 : Str) : Option ((List D_ref16_Entry) × Int × Int) :=
  (m52 a0).bind fun x1500 =>
  (m20_l1 x1500 (x1500.1.length + 1) ([] : (List D_ref16_Entry)) 0).bind fun r => match r with
  | .ret x => some x
  | .go x1508 =>
    if x1500.2 = ([] : Str) then
      some (x1508, 0, 0)
    else
      some (([] : (List D_ref16_Entry)), (x1500.1.length : Int), 7)
def post20 (r : ((List D_ref16_Entry) × Int × Int)) (v : Value) (fs : List Fact) : Prop := ∃ s1587 : Value, v = .tuple #[s1587, .int .i64 r.2.1, .int .i64 r.2.2] ∧ fs = [((Ty.slice ty50).fact r.1 [s1587]), ((Ty.int .i64).fact r.2.1 [.int .i64 r.2.1]), ((Ty.int .i64).fact r.2.2 [.int .i64 r.2.2])]
theorem en20 : Enters Tryz.prog 20 := ⟨_, Tryz.func20, by kernel_rfl, rfl⟩
theorem f20_spec {a0 : Str} {r : ((List D_ref16_Entry) × Int × Int)} (hr : m20 a0 = some r) : Spec Tryz.prog 20 [str a0] [(Ty.str.fact a0 [str a0])] (post20 r) := by
  refine spec_start (N := 51) Tryz.func20 (by kernel_rfl) rfl rfl rfl ?_
  intro g hS
  unfold m20 at hr
  refine at_seq ?_
  refine at_region ?_
  refine at_lt (lt_assign rfl) rfl ?_
  refine at_lt (lt_assign rfl) rfl ?_
  refine at_lt (lt_assign rfl) rfl ?_
  refine at_nil ?_
  refine at_then ?_
  refine at_seq ?_
  refine at_region ?_
  refine at_lt (lt_move rfl) rfl ?_
  replace hr := obind hr
  obtain ⟨x1500, h1501, hr⟩ := hr
  refine at_hv rfl ?_
  refine hv_call0 [0] (f52_spec h1501) rfl rfl rfl rfl ?_
  rintro _ _ ⟨s1502, rfl, rfl⟩
  refine at_lt (lt_move rfl) rfl ?_
  refine at_lt (lt_extract rfl rfl) rfl ?_
  refine at_lt (lt_extract rfl rfl) rfl ?_
  refine at_lt (lt_assign rfl) rfl ?_
  refine at_lt (lt_assign rfl) rfl ?_
  refine at_nil ?_
  refine at_then ?_
  refine at_seq ?_
  refine at_seq ?_
  refine at_region ?_
  refine at_lt (lt_assign rfl) rfl ?_
  refine at_nil ?_
  refine at_then ?_
  refine at_rownew none 50 3 ?_
  refine at_rownil ty50 ?_
  refine at_mkpure (q := (([] : (List D_ref16_Entry)).length * ty50.bytes ≤ 140737488355328)) (by simp only [List.nil_append, List.cons_append, List.length_cons, List.length_nil, ty50_bytes] <;> omega) ?_
  refine at_int .i64 0 (by simp only [lo, hi]; omega) ?_
  replace hr := obind hr
  obtain ⟨r1512, hl1513, hk1514⟩ := hr
  refine at_cutP (V := ((List D_ref16_Entry)) × (Value × Nat × (List Value))) (fun v => r1512 = Fl.go v.1) (fun v => (⟨[(2, v.2.1), (5, s1502), (6, str x1500.2)], [], [⟨v.2.1, 50, 3, v.2.2.1, v.2.2.2⟩], [(ty50.row v.1 v.2.2.2), (pureF (v.1.length * ty50.bytes ≤ 140737488355328)), ((Ty.slice Ty.str).fact x1500.1 [s1502]), (Ty.str.fact x1500.2 [str x1500.2])]⟩ : St)) ?_ ?_
  · refine at_block ?_
    refine at_loopW (σ := ((List D_ref16_Entry) × Nat)) (V := Value × Nat × (List Value)) (r := r1512) (fun n s => m20_l1 x1500 n s.1 s.2) (fun s e => (⟨[(2, e.1), (5, s1502), (6, str x1500.2), (7, .int .i64 (s.2 : Int))], [], [⟨e.1, 50, 3, e.2.1, e.2.2⟩], [(ty50.row s.1 e.2.2), (pureF (s.1.length * ty50.bytes ≤ 140737488355328)), ((Ty.int .i64).fact (s.2 : Int) [.int .i64 (s.2 : Int)]), ((Ty.slice Ty.str).fact x1500.1 [s1502]), (Ty.str.fact x1500.2 [str x1500.2])]⟩ : St)) (fun _ => rfl) _ (([] : (List D_ref16_Entry)), 0) ((.slice none 0 0), 0, []) hl1513 ⟨⟨rfl, ⟨rfl, ⟨rfl, ⟨rfl, trivial⟩⟩⟩⟩, ⟨[], rfl⟩, ⟨[true], rfl⟩, ⟨[2, 1, 0, 3, 4], rfl⟩⟩ ?_
    clear hl1513
    intro n s hr e
    obtain ⟨x1503, x1504⟩ := s
    obtain ⟨v1505, n1506, i1507⟩ := e
    change m20_l1 x1500 (n + 1) x1503 x1504 = some r1512 at hr
    change At _ _ (⟨[(2, v1505), (5, s1502), (6, str x1500.2), (7, .int .i64 (x1504 : Int))], [], [⟨v1505, 50, 3, n1506, i1507⟩], [(ty50.row x1503 i1507), (pureF (x1503.length * ty50.bytes ≤ 140737488355328)), ((Ty.int .i64).fact (x1504 : Int) [.int .i64 (x1504 : Int)]), ((Ty.slice Ty.str).fact x1500.1 [s1502]), (Ty.str.fact x1500.2 [str x1500.2])]⟩ : St) _
    rw [m20_l1] at hr
    refine at_seq ?_
    refine at_seq ?_
    refine at_region ?_
    refine at_lt (lt_move rfl) rfl ?_
    refine at_lt (lt_move rfl) rfl ?_
    refine at_inv 3 rfl (fun i1515 => ?_)
    have l1516 := slice_len i1515
    refine at_lt (lt_flen 3 rfl rfl und89) rfl ?_
    refine at_lt (lt_lss rfl rfl) rfl ?_
    refine at_nil ?_
    refine at_then ?_
    by_cases h1517 : x1504 < x1500.1.length
    · replace hr := ipos h1517 hr
      refine at_true rfl (decide_eq_true (by omega)) ?_
      refine at_skip ?_
      refine at_then ?_
      refine at_seq ?_
      refine at_block ?_
      refine at_seq ?_
      refine at_region ?_
      refine at_lt (lt_move rfl) rfl ?_
      refine at_lt (lt_move rfl) rfl ?_
      replace hr := obind hr
      obtain ⟨x1518, h1519, hr⟩ := hr
      have := (List.getElem?_eq_some_iff.1 h1519).1
      refine at_elem 3 rfl (nat_at' h1519) (fun p1520 ec pa1521 => ?_)
      refine at_open (A := Unit) 0 rfl (fun _ => ec = [str x1518]) (fun _ => []) (fun F w h => ⟨(), h.1, by simp⟩) ?_
      rintro _ rfl
      refine at_lt (lt_idx rfl rfl pa1521 und89 ti9) rfl ?_
      refine at_lt (lt_load_peek 1 rfl ti9 rfl rfl rfl rfl rfl) rfl ?_
      replace hr := obind hr
      obtain ⟨x1522, h1523, hr⟩ := hr
      refine at_hv rfl ?_
      refine hv_call0 [0] (f53_spec h1523) rfl rfl rfl rfl ?_
      rintro _ _ ⟨s1524, rfl, rfl⟩
      refine at_open (A := Unit) 0 rfl (fun _ => True) (fun _ => [(Ty.str.fact x1522.1.From [str x1522.1.From]), (Ty.str.fact x1522.1.To [str x1522.1.To]), ((Ty.slice ty83).fact x1522.1.Codes [s1524])]) (fun F w h => ⟨(), trivial, ex50 h⟩) (fun _ _ => ?_)
      refine at_lt (lt_move rfl) rfl ?_
      refine at_lt (lt_extract rfl rfl) rfl ?_
      refine at_lt (lt_extract rfl rfl) rfl ?_
      refine at_hv rfl ?_
      refine hv_alloc (cs := [str ([] : Str), str ([] : Str), (.slice none 0 0)]) ti50 rfl rfl (fun b1525 => ?_)
      refine at_one 2 rfl (fun ho1526 => ?_)
      refine at_hv rfl ?_
      refine hv_store_box 0 (cs' := [str x1522.1.From, str x1522.1.To, s1524]) rfl rfl ti50 rfl rfl rfl rfl (allc rfl (allc rfl (allc ho1526 rfl))) ?_
      refine at_lt (lt_assign rfl) rfl ?_
      refine at_nil ?_
      refine at_then ?_
      refine at_seq ?_
      refine at_seq ?_
      replace hr := obind hr
      obtain ⟨x1540, hc1541, hr⟩ := hr
      refine at_cut (V := Unit) (fun e => (⟨[(2, v1505), (5, s1502), (6, str x1500.2), (7, .int .i64 (x1504 : Int)), (8, .pointer (some (Addr.add ⟨b1525, 0, none⟩ 0))), (40, .bool x1540)], [⟨b1525, [str x1522.1.From, str x1522.1.To, s1524], 50⟩], [⟨v1505, 50, 3, n1506, i1507⟩], [(ty50.row x1503 i1507), (pureF (x1503.length * ty50.bytes ≤ 140737488355328)), ((Ty.slice Ty.str).fact x1500.1 [s1502]), (Ty.str.fact x1500.2 [str x1500.2]), ((Ty.int .i64).fact (x1504 : Int) [.int .i64 (x1504 : Int)]), (Ty.str.fact x1522.1.From [str x1522.1.From]), (Ty.str.fact x1522.1.To [str x1522.1.To]), ((Ty.slice ty83).fact x1522.1.Codes [s1524])]⟩ : St)) ?_ ?_
      · clear hr
        have hr := hc1541
        clear hc1541
        by_cases h1542 : x1522.2 = true
        · replace hr := ipos h1542 hr
          replace hr := imust hr
          obtain ⟨h1544, hr⟩ := hr
          replace hr := imust hr
          obtain ⟨h1550, hr⟩ := hr
          replace hr := obind hr
          obtain ⟨x1553, h1554, hr⟩ := hr
          refine aa_start 12 (by kernel_rfl) ?_
          refine aa_pure (bs' := [true, false, false, false, false, false, false, false, false, false, false, false]) 0 rfl (by kernel_rfl) rfl rfl (lt_move rfl) rfl (ts_in 0 0 rfl rfl) ?_
          refine aa_pure (bs' := [true, true, false, false, false, false, false, false, false, false, false, false]) 1 rfl (by kernel_rfl) rfl rfl (lt_not rfl) rfl (ts_in 0 0 rfl rfl) ?_
          refine aa_pure (bs' := [true, true, true, false, false, false, false, false, false, false, false, false]) 2 rfl (by kernel_rfl) rfl rfl (lt_move rfl) rfl (ts_in 0 0 rfl rfl) ?_
          refine aa_pure (bs' := [true, true, true, false, true, false, false, false, false, false, false, false]) 4 rfl (by kernel_rfl) rfl ⟨31, rfl, .inl ⟨_, rfl, gdq (v := false) (nt h1542) rfl⟩⟩ (lt_move rfl) rfl (ts_in 0 0 rfl rfl) ?_
          refine aa_load (bs' := [true, true, true, false, true, false, true, false, false, false, false, false]) 6 rfl (by kernel_rfl) rfl ⟨31, rfl, .inl ⟨_, rfl, gdq (v := false) (nt h1542) rfl⟩⟩ (lt_load_box 0 rfl ti50 rfl rfl rfl rfl rfl) rfl (ts_in 0 0 rfl rfl) ?_
          refine aa_all (rs := [3, 7]) (by kernel_rfl) rfl (ts_in 0 0 rfl rfl) (List.forall_mem_cons.2 ⟨?_, (List.forall_mem_singleton.2 ?_)⟩)
          · refine aa_op rfl ⟨31, rfl, .inl ⟨_, rfl, gdq (v := false) (nt h1542) rfl⟩⟩ ?_
            refine hv_bslice (cs := []) rfl und22 ti50 rfl rfl rfl rfl rfl (fun s1555 => ?_)
            refine aa_all (rs := [5, 7]) (by kernel_rfl) rfl (ts_in 0 0 rfl rfl) (List.forall_mem_cons.2 ⟨?_, (List.forall_mem_singleton.2 ?_)⟩)
            · refine at_rownil ty50 ?_
              refine at_rown 0 0 rfl rfl rfl (fun hn1557 => ?_)
              refine at_rown 1 7 rfl rfl rfl (fun hn1558 => ?_)
              refine at_rowone 7 rfl rfl (fun ho1559 => ?_)
              refine aa_op rfl ⟨31, rfl, .inl ⟨_, rfl, gdq (v := false) (nt h1542) rfl⟩⟩ ?_
              refine hv_append 0 1 rfl rfl rfl rfl und22 ti50 rfl rfl ho1559 (by omega) (by omega) rfl (fun s1556 => ?_)
              refine at_rowcat 0 7 rfl rfl ?_
              refine aa_all (rs := [7]) (by kernel_rfl) rfl (ts_in 0 2 rfl rfl) (List.forall_mem_singleton.2 ?_)
              refine aa_op rfl ⟨31, rfl, .inl ⟨_, rfl, gdq (v := false) (nt h1542) rfl⟩⟩ ?_
              refine hv_bslice (cs := [str x1522.1.From, str x1522.1.To, s1524]) rfl und22 ti50 rfl rfl rfl rfl rfl (fun s1560 => ?_)
              refine aa_all (rs := [8]) (by kernel_rfl) rfl (ts_in 0 2 rfl rfl) (List.forall_mem_singleton.2 ?_)
              refine at_derive [2, 3, 4] (ty50.fact (⟨x1522.1.From, x1522.1.To, x1522.1.Codes⟩ : D_ref16_Entry) [str x1522.1.From, str x1522.1.To, s1524]) rfl (fun F w h => mk50 (x := (⟨x1522.1.From, x1522.1.To, x1522.1.Codes⟩ : D_ref16_Entry)) h) ?_
              refine at_rown 1 1 rfl rfl rfl (fun hn1562 => ?_)
              refine aa_op rfl ⟨31, rfl, .inl ⟨_, rfl, gdq (v := false) (nt h1542) rfl⟩⟩ ?_
              refine hv_append 1 0 rfl rfl rfl rfl und22 ti50 rfl rfl (allc rfl (allc rfl (allc ho1526 rfl))) (by omega) (by omega) rfl (fun s1561 => ?_)
              refine at_rowsnoc 1 0 rfl rfl ?_
              refine aa_all (rs := [9]) (by kernel_rfl) rfl (ts_in 0 4 rfl rfl) (List.forall_mem_singleton.2 ?_)
              refine at_release 1 0 rfl rfl rfl (by simp only [List.length_append, List.length_cons, List.length_nil, ty50_bytes] <;> omega) ?_
              refine aa_op rfl ⟨31, rfl, .inl ⟨_, rfl, gdq (v := false) (nt h1542) rfl⟩⟩ ?_
              refine hv_call0 [0] (f24_spec h1554) rfl rfl rfl rfl ?_
              rintro _ _ ⟨rfl, rfl⟩
              refine aa_pure (bs' := [true, true, true, true, true, true, true, true, true, true, true, false]) 10 rfl (by kernel_rfl) rfl ⟨31, rfl, .inl ⟨_, rfl, gdq (v := false) (nt h1542) rfl⟩⟩ (lt_not rfl) rfl (ts_in 0 5 rfl rfl) ?_
              refine aa_pure (bs' := [true, true, true, true, true, true, true, true, true, true, true, true]) 11 rfl (by kernel_rfl) rfl rfl (lt_pick false rfl (nt h1542) rfl) rfl (ts_in 0 5 rfl rfl) ?_
              refine aa_done (by kernel_rfl) (ts_in 0 5 rfl rfl) ?_
              have hq := oinj hr
              clear hr
              subst hq
              exact at_leaf () ⟨⟨rfl, ⟨rfl, ⟨rfl, ⟨rfl, ⟨rfl, ⟨rfl, trivial⟩⟩⟩⟩⟩⟩, ⟨[true], rfl⟩, ⟨[false, true], rfl⟩, ⟨[11, 12, 14, 15, 13, 5, 6, 7], rfl⟩⟩
            · refine aa_op rfl ⟨31, rfl, .inl ⟨_, rfl, gdq (v := false) (nt h1542) rfl⟩⟩ ?_
              refine hv_bslice (cs := [str x1522.1.From, str x1522.1.To, s1524]) rfl und22 ti50 rfl rfl rfl rfl rfl (fun s1563 => ?_)
              refine aa_all (rs := [5]) (by kernel_rfl) rfl (ts_in 0 0 rfl rfl) (List.forall_mem_singleton.2 ?_)
              refine at_rownil ty50 ?_
              refine at_rown 1 0 rfl rfl rfl (fun hn1565 => ?_)
              refine at_rown 2 7 rfl rfl rfl (fun hn1566 => ?_)
              refine at_rowone 7 rfl rfl (fun ho1567 => ?_)
              refine aa_op rfl ⟨31, rfl, .inl ⟨_, rfl, gdq (v := false) (nt h1542) rfl⟩⟩ ?_
              refine hv_append 1 2 rfl rfl rfl rfl und22 ti50 rfl rfl ho1567 (by omega) (by omega) rfl (fun s1564 => ?_)
              refine at_rowcat 0 7 rfl rfl ?_
              refine aa_all (rs := [8]) (by kernel_rfl) rfl (ts_in 0 2 rfl rfl) (List.forall_mem_singleton.2 ?_)
              refine at_derive [2, 3, 4] (ty50.fact (⟨x1522.1.From, x1522.1.To, x1522.1.Codes⟩ : D_ref16_Entry) [str x1522.1.From, str x1522.1.To, s1524]) rfl (fun F w h => mk50 (x := (⟨x1522.1.From, x1522.1.To, x1522.1.Codes⟩ : D_ref16_Entry)) h) ?_
              refine at_rown 1 1 rfl rfl rfl (fun hn1569 => ?_)
              refine aa_op rfl ⟨31, rfl, .inl ⟨_, rfl, gdq (v := false) (nt h1542) rfl⟩⟩ ?_
              refine hv_append 1 0 rfl rfl rfl rfl und22 ti50 rfl rfl (allc rfl (allc rfl (allc ho1526 rfl))) (by omega) (by omega) rfl (fun s1568 => ?_)
              refine at_rowsnoc 1 0 rfl rfl ?_
              refine aa_all (rs := [9]) (by kernel_rfl) rfl (ts_in 0 4 rfl rfl) (List.forall_mem_singleton.2 ?_)
              refine at_release 1 0 rfl rfl rfl (by simp only [List.length_append, List.length_cons, List.length_nil, ty50_bytes] <;> omega) ?_
              refine aa_op rfl ⟨31, rfl, .inl ⟨_, rfl, gdq (v := false) (nt h1542) rfl⟩⟩ ?_
              refine hv_call0 [0] (f24_spec h1554) rfl rfl rfl rfl ?_
              rintro _ _ ⟨rfl, rfl⟩
              refine aa_pure (bs' := [true, true, true, true, true, true, true, true, true, true, true, false]) 10 rfl (by kernel_rfl) rfl ⟨31, rfl, .inl ⟨_, rfl, gdq (v := false) (nt h1542) rfl⟩⟩ (lt_not rfl) rfl (ts_in 0 5 rfl rfl) ?_
              refine aa_pure (bs' := [true, true, true, true, true, true, true, true, true, true, true, true]) 11 rfl (by kernel_rfl) rfl rfl (lt_pick false rfl (nt h1542) rfl) rfl (ts_in 0 5 rfl rfl) ?_
              refine aa_done (by kernel_rfl) (ts_in 0 5 rfl rfl) ?_
              have hq := oinj hr
              clear hr
              subst hq
              exact at_leaf () ⟨⟨rfl, ⟨rfl, ⟨rfl, ⟨rfl, ⟨rfl, ⟨rfl, trivial⟩⟩⟩⟩⟩⟩, ⟨[true], rfl⟩, ⟨[false, true], rfl⟩, ⟨[11, 12, 14, 15, 13, 5, 6, 7], rfl⟩⟩
          · refine aa_op rfl ⟨31, rfl, .inl ⟨_, rfl, gdq (v := false) (nt h1542) rfl⟩⟩ ?_
            refine hv_bslice (cs := [str x1522.1.From, str x1522.1.To, s1524]) rfl und22 ti50 rfl rfl rfl rfl rfl (fun s1570 => ?_)
            refine aa_all (rs := [3]) (by kernel_rfl) rfl (ts_in 0 0 rfl rfl) (List.forall_mem_singleton.2 ?_)
            refine aa_op rfl ⟨31, rfl, .inl ⟨_, rfl, gdq (v := false) (nt h1542) rfl⟩⟩ ?_
            refine hv_bslice (cs := []) rfl und22 ti50 rfl rfl rfl rfl rfl (fun s1571 => ?_)
            refine aa_all (rs := [5]) (by kernel_rfl) rfl (ts_in 0 0 rfl rfl) (List.forall_mem_singleton.2 ?_)
            refine at_rownil ty50 ?_
            refine at_rown 0 0 rfl rfl rfl (fun hn1573 => ?_)
            refine at_rown 2 7 rfl rfl rfl (fun hn1574 => ?_)
            refine at_rowone 7 rfl rfl (fun ho1575 => ?_)
            refine aa_op rfl ⟨31, rfl, .inl ⟨_, rfl, gdq (v := false) (nt h1542) rfl⟩⟩ ?_
            refine hv_append 0 2 rfl rfl rfl rfl und22 ti50 rfl rfl ho1575 (by omega) (by omega) rfl (fun s1572 => ?_)
            refine at_rowcat 0 7 rfl rfl ?_
            refine aa_all (rs := [8]) (by kernel_rfl) rfl (ts_in 0 2 rfl rfl) (List.forall_mem_singleton.2 ?_)
            refine at_derive [2, 3, 4] (ty50.fact (⟨x1522.1.From, x1522.1.To, x1522.1.Codes⟩ : D_ref16_Entry) [str x1522.1.From, str x1522.1.To, s1524]) rfl (fun F w h => mk50 (x := (⟨x1522.1.From, x1522.1.To, x1522.1.Codes⟩ : D_ref16_Entry)) h) ?_
            refine at_rown 0 1 rfl rfl rfl (fun hn1577 => ?_)
            refine aa_op rfl ⟨31, rfl, .inl ⟨_, rfl, gdq (v := false) (nt h1542) rfl⟩⟩ ?_
            refine hv_append 0 1 rfl rfl rfl rfl und22 ti50 rfl rfl (allc rfl (allc rfl (allc ho1526 rfl))) (by omega) (by omega) rfl (fun s1576 => ?_)
            refine at_rowsnoc 1 0 rfl rfl ?_
            refine aa_all (rs := [9]) (by kernel_rfl) rfl (ts_in 0 4 rfl rfl) (List.forall_mem_singleton.2 ?_)
            refine at_release 0 0 rfl rfl rfl (by simp only [List.length_append, List.length_cons, List.length_nil, ty50_bytes] <;> omega) ?_
            refine aa_op rfl ⟨31, rfl, .inl ⟨_, rfl, gdq (v := false) (nt h1542) rfl⟩⟩ ?_
            refine hv_call0 [0] (f24_spec h1554) rfl rfl rfl rfl ?_
            rintro _ _ ⟨rfl, rfl⟩
            refine aa_pure (bs' := [true, true, true, true, true, true, true, true, true, true, true, false]) 10 rfl (by kernel_rfl) rfl ⟨31, rfl, .inl ⟨_, rfl, gdq (v := false) (nt h1542) rfl⟩⟩ (lt_not rfl) rfl (ts_in 0 5 rfl rfl) ?_
            refine aa_pure (bs' := [true, true, true, true, true, true, true, true, true, true, true, true]) 11 rfl (by kernel_rfl) rfl rfl (lt_pick false rfl (nt h1542) rfl) rfl (ts_in 0 5 rfl rfl) ?_
            refine aa_done (by kernel_rfl) (ts_in 0 5 rfl rfl) ?_
            have hq := oinj hr
            clear hr
            subst hq
            exact at_leaf () ⟨⟨rfl, ⟨rfl, ⟨rfl, ⟨rfl, ⟨rfl, ⟨rfl, trivial⟩⟩⟩⟩⟩⟩, ⟨[true], rfl⟩, ⟨[false, true], rfl⟩, ⟨[11, 12, 14, 15, 13, 5, 6, 7], rfl⟩⟩
        · replace hr := ineg h1542 hr
          refine aa_start 12 (by kernel_rfl) ?_
          refine aa_pure (bs' := [true, false, false, false, false, false, false, false, false, false, false, false]) 0 rfl (by kernel_rfl) rfl rfl (lt_move rfl) rfl (ts_in 0 0 rfl rfl) ?_
          refine aa_pure (bs' := [true, true, false, false, false, false, false, false, false, false, false, false]) 1 rfl (by kernel_rfl) rfl rfl (lt_not rfl) rfl (ts_in 0 0 rfl rfl) ?_
          refine aa_pure (bs' := [true, true, true, false, false, false, false, false, false, false, false, false]) 2 rfl (by kernel_rfl) rfl rfl (lt_move rfl) rfl (ts_in 0 0 rfl rfl) ?_
          refine aa_off (bs' := [true, true, true, true, false, false, false, false, false, false, false, false]) 3 rfl (by kernel_rfl) rfl ⟨31, rfl, .inl ⟨_, rfl, gdq (v := true) (nf (bf h1542)) rfl⟩⟩ rfl (ts_in 0 0 rfl rfl) ?_
          refine aa_off (bs' := [true, true, true, true, true, false, false, false, false, false, false, false]) 4 rfl (by kernel_rfl) rfl ⟨31, rfl, .inl ⟨_, rfl, gdq (v := true) (nf (bf h1542)) rfl⟩⟩ rfl (ts_in 0 0 rfl rfl) ?_
          refine aa_off (bs' := [true, true, true, true, true, true, false, false, false, false, false, false]) 5 rfl (by kernel_rfl) rfl ⟨31, rfl, .inl ⟨_, rfl, gdq (v := true) (nf (bf h1542)) rfl⟩⟩ rfl (ts_in 0 0 rfl rfl) ?_
          refine aa_off (bs' := [true, true, true, true, true, true, true, false, false, false, false, false]) 6 rfl (by kernel_rfl) rfl ⟨31, rfl, .inl ⟨_, rfl, gdq (v := true) (nf (bf h1542)) rfl⟩⟩ rfl (ts_in 0 0 rfl rfl) ?_
          refine aa_off (bs' := [true, true, true, true, true, true, true, true, false, false, false, false]) 7 rfl (by kernel_rfl) rfl ⟨31, rfl, .inl ⟨_, rfl, gdq (v := true) (nf (bf h1542)) rfl⟩⟩ rfl (ts_in 0 0 rfl rfl) ?_
          refine aa_off (bs' := [true, true, true, true, true, true, true, true, true, false, false, false]) 8 rfl (by kernel_rfl) rfl ⟨31, rfl, .inl ⟨_, rfl, gdq (v := true) (nf (bf h1542)) rfl⟩⟩ rfl (ts_in 0 0 rfl rfl) ?_
          refine aa_off (bs' := [true, true, true, true, true, true, true, true, true, true, false, false]) 9 rfl (by kernel_rfl) rfl ⟨31, rfl, .inl ⟨_, rfl, gdq (v := true) (nf (bf h1542)) rfl⟩⟩ rfl (ts_in 0 0 rfl rfl) ?_
          refine aa_off (bs' := [true, true, true, true, true, true, true, true, true, true, true, false]) 10 rfl (by kernel_rfl) rfl ⟨31, rfl, .inl ⟨_, rfl, gdq (v := true) (nf (bf h1542)) rfl⟩⟩ rfl (ts_in 0 0 rfl rfl) ?_
          refine aa_pure (bs' := [true, true, true, true, true, true, true, true, true, true, true, true]) 11 rfl (by kernel_rfl) rfl rfl (lt_pick true rfl (nf (bf h1542)) rfl) rfl (ts_in 0 0 rfl rfl) ?_
          refine aa_done (by kernel_rfl) (ts_in 0 0 rfl rfl) ?_
          have hq := oinj hr
          clear hr
          subst hq
          exact at_leaf () ⟨⟨rfl, ⟨rfl, ⟨rfl, ⟨rfl, ⟨rfl, ⟨rfl, trivial⟩⟩⟩⟩⟩⟩, ⟨[true], rfl⟩, ⟨[true], rfl⟩, ⟨[6, 7, 9, 10, 8, 0, 1, 2], rfl⟩⟩
      · clear hc1541
        intro _
        change At _ _ (⟨[(2, v1505), (5, s1502), (6, str x1500.2), (7, .int .i64 (x1504 : Int)), (8, .pointer (some (Addr.add ⟨b1525, 0, none⟩ 0))), (40, .bool x1540)], [⟨b1525, [str x1522.1.From, str x1522.1.To, s1524], 50⟩], [⟨v1505, 50, 3, n1506, i1507⟩], [(ty50.row x1503 i1507), (pureF (x1503.length * ty50.bytes ≤ 140737488355328)), ((Ty.slice Ty.str).fact x1500.1 [s1502]), (Ty.str.fact x1500.2 [str x1500.2]), ((Ty.int .i64).fact (x1504 : Int) [.int .i64 (x1504 : Int)]), (Ty.str.fact x1522.1.From [str x1522.1.From]), (Ty.str.fact x1522.1.To [str x1522.1.To]), ((Ty.slice ty83).fact x1522.1.Codes [s1524])]⟩ : St) _
        refine at_then ?_
        by_cases h1578 : x1540 = true
        · replace hr := ipos h1578 hr
          refine at_true rfl h1578 ?_
          refine at_seq ?_
          refine at_region ?_
          refine at_lt (lt_move rfl) rfl ?_
          refine at_lt (lt_assign rfl) rfl ?_
          refine at_lt (lt_assign rfl) rfl ?_
          refine at_lt (lt_assign rfl) rfl ?_
          refine at_nil ?_
          refine at_then ?_
          refine at_ret ?_
          have hq := oinj hr
          clear hr
          subst hq
          have hq := oinj hk1514
          clear hk1514
          subst hq
          refine at_then_ret ?_
          refine at_in_ret ?_
          refine at_then_ret ?_
          refine at_then_ret ?_
          refine at_in_ret ?_
          refine at_then_ret ?_
          refine at_then_ret ?_
          refine at_fnil ty50 none ?_
          refine at_int .i64 7 (by simp only [lo, hi]; omega) ?_
          exact at_return (.tuple #[(.slice none 0 0), .int .i64 (x1504 : Int), .int .i64 7]) [1, 6, 0] hS Tryz.results20 (.cons (.tmp rfl) (.cons (.tmp rfl) (.cons (.tmp rfl) .nil))) rfl rfl ⟨((.slice none 0 0)), rfl, rfl⟩
        · replace hr := ineg h1578 hr
          refine at_false rfl (bf h1578) ?_
          refine at_skip ?_
          refine at_then ?_
          refine at_region ?_
          refine at_lt (lt_move rfl) rfl ?_
          refine at_lt (lt_load_box 0 rfl ti50 rfl rfl rfl rfl rfl) rfl ?_
          refine at_hv rfl ?_
          refine hv_bslice (cs := [str x1522.1.From, str x1522.1.To, s1524]) rfl und22 ti50 rfl rfl rfl rfl rfl (fun s1579 => ?_)
          replace hr := imust hr
          obtain ⟨h1580, hr⟩ := hr
          refine at_derive [5, 6, 7] (ty50.fact (⟨x1522.1.From, x1522.1.To, x1522.1.Codes⟩ : D_ref16_Entry) [str x1522.1.From, str x1522.1.To, s1524]) rfl (fun F w h => mk50 (x := (⟨x1522.1.From, x1522.1.To, x1522.1.Codes⟩ : D_ref16_Entry)) h) ?_
          refine at_rown 1 1 rfl rfl rfl (fun hn1582 => ?_)
          refine at_hv rfl ?_
          refine hv_append 1 0 rfl rfl rfl rfl und22 ti50 rfl rfl (allc rfl (allc rfl (allc ho1526 rfl))) (by omega) (by omega) rfl (fun s1581 => ?_)
          refine at_rowsnoc 1 0 rfl rfl ?_
          refine at_lt (lt_assign rfl) rfl ?_
          refine at_nil ?_
          refine at_in ?_
          refine at_then ?_
          refine at_region ?_
          refine at_lt (lt_move rfl) rfl ?_
          refine at_lt (lt_add rfl rfl (by simp only [lo, hi]; omega)) rfl ?_
          refine at_lt (lt_assign rfl) rfl ?_
          refine at_nil ?_
          refine at_mkpure (q := ((x1503 ++ [(⟨x1522.1.From, x1522.1.To, x1522.1.Codes⟩ : D_ref16_Entry)]).length * ty50.bytes ≤ 140737488355328)) (by simp only [List.length_append, List.length_cons, List.length_nil, ty50_bytes] <;> omega) ?_
          refine at_int .i64 (x1504 + 1 : Int) (by simp only [lo, hi]; omega) ?_
          exact at_again (σ := ((List D_ref16_Entry) × Nat)) (V := Value × Nat × (List Value)) (lp := fun n s => m20_l1 x1500 n s.1 s.2) (S := fun s e => (⟨[(2, e.1), (5, s1502), (6, str x1500.2), (7, .int .i64 (s.2 : Int))], [], [⟨e.1, 50, 3, e.2.1, e.2.2⟩], [(ty50.row s.1 e.2.2), (pureF (s.1.length * ty50.bytes ≤ 140737488355328)), ((Ty.int .i64).fact (s.2 : Int) [.int .i64 (s.2 : Int)]), ((Ty.slice Ty.str).fact x1500.1 [s1502]), (Ty.str.fact x1500.2 [str x1500.2])]⟩ : St)) (x1503 ++ [(⟨x1522.1.From, x1522.1.To, x1522.1.Codes⟩ : D_ref16_Entry)], x1504 + 1) (s1581, n1506 + 1, i1507 ++ [str x1522.1.From, str x1522.1.To, s1524]) hr ⟨⟨rfl, ⟨rfl, ⟨rfl, ⟨rfl, trivial⟩⟩⟩⟩, ⟨[false], rfl⟩, ⟨[false, true], rfl⟩, ⟨[2, 1, 0, 6, 7], rfl⟩⟩
    · replace hr := ineg h1517 hr
      refine at_false rfl (decide_eq_false (by omega)) ?_
      refine at_exit ?_
      refine at_then_exit ?_
      refine at_then_exit ?_
      refine at_in_exit ?_
      have hq := oinj hr
      clear hr
      subst hq
      exact at_leafP (x1503, (v1505, n1506, i1507)) rfl ⟨⟨rfl, ⟨rfl, ⟨rfl, trivial⟩⟩⟩, ⟨[], rfl⟩, ⟨[true], rfl⟩, ⟨[0, 1, 3, 4], rfl⟩⟩
  · rintro ⟨x1508, ⟨v1509, n1510, i1511⟩⟩ hp
    replace hr := hk1514
    subst hp
    clear hl1513
    change At _ _ (⟨[(2, v1509), (5, s1502), (6, str x1500.2)], [], [⟨v1509, 50, 3, n1510, i1511⟩], [(ty50.row x1508 i1511), (pureF (x1508.length * ty50.bytes ≤ 140737488355328)), ((Ty.slice Ty.str).fact x1500.1 [s1502]), (Ty.str.fact x1500.2 [str x1500.2])]⟩ : St) _
    refine at_then ?_
    refine at_seq ?_
    refine at_seq ?_
    refine at_region ?_
    refine at_lt (lt_move rfl) rfl ?_
    refine at_lt (lt_sneq rfl rfl) rfl ?_
    refine at_nil ?_
    refine at_then ?_
    by_cases h1583 : x1500.2 = ([] : Str)
    · replace hr := ipos h1583 hr
      refine at_false rfl (nt (decide_eq_true h1583)) ?_
      refine at_skip ?_
      refine at_then ?_
      refine at_seq ?_
      refine at_region ?_
      refine at_lt (lt_move rfl) rfl ?_
      refine at_lt (lt_assign rfl) rfl ?_
      refine at_lt (lt_assign rfl) rfl ?_
      refine at_lt (lt_assign rfl) rfl ?_
      refine at_nil ?_
      refine at_then ?_
      refine at_ret ?_
      have hq := oinj hr
      clear hr
      subst hq
      refine at_pure 1 rfl (fun hb1584 => ?_)
      refine at_release 0 0 rfl rfl rfl hb1584 ?_
      refine at_int .i64 0 (by simp only [lo, hi]; omega) ?_
      exact at_return (.tuple #[v1509, .int .i64 0, .int .i64 0]) [1, 0, 0] hS Tryz.results20 (.cons (.tmp rfl) (.cons (.tmp rfl) (.cons (.tmp rfl) .nil))) rfl rfl ⟨v1509, rfl, rfl⟩
    · replace hr := ineg h1583 hr
      refine at_true rfl (nf (decide_eq_false h1583)) ?_
      refine at_seq ?_
      refine at_region ?_
      refine at_lt (lt_move rfl) rfl ?_
      refine at_inv 2 rfl (fun i1585 => ?_)
      have l1586 := slice_len i1585
      refine at_lt (lt_flen 2 rfl rfl und89) rfl ?_
      refine at_lt (lt_assign rfl) rfl ?_
      refine at_lt (lt_assign rfl) rfl ?_
      refine at_lt (lt_assign rfl) rfl ?_
      refine at_nil ?_
      refine at_then ?_
      refine at_ret ?_
      have hq := oinj hr
      clear hr
      subst hq
      refine at_then_ret ?_
      refine at_fnil ty50 none ?_
      refine at_int .i64 (x1500.1.length : Int) (by simp only [lo, hi]; omega) ?_
      refine at_int .i64 7 (by simp only [lo, hi]; omega) ?_
      exact at_return (.tuple #[(.slice none 0 0), .int .i64 (x1500.1.length : Int), .int .i64 7]) [2, 1, 0] hS Tryz.results20 (.cons (.tmp rfl) (.cons (.tmp rfl) (.cons (.tmp rfl) .nil))) rfl rfl ⟨((.slice none 0 0)), rfl, rfl⟩
/-! 21 bookplate/bookplateref16.Same -/
def m21_l2 (a0 : (List D_ref16_Entry)) (a1 : (List D_ref16_Entry)) (x1595 : Nat) : Nat → Nat → Option (Fl (Fl Bool Unit) Unit)
  | 0, _ => none
  | k + 1, x1637 =>
    (a0[x1595]?).bind fun x1641 =>
    if x1637 < x1641.Codes.length then
      (a0[x1595]?).bind fun x1649 =>
      (x1649.Codes[x1637]?).bind fun x1654 =>
      (a1[x1595]?).bind fun x1658 =>
      (x1658.Codes[x1637]?).bind fun x1663 =>
      if (decide (((x1654.From.toNat : Int) : Int) = (x1663.From.toNat : Int)) && decide (((x1654.To.toNat : Int) : Int) = (x1663.To.toNat : Int))) = true then
        m21_l2 a0 a1 x1595 k (x1637 + 1)
      else
        some (Fl.ret (Fl.ret false))
    else
      some (Fl.go ())
def m21_l1 (a0 : (List D_ref16_Entry)) (a1 : (List D_ref16_Entry)) : Nat → Nat → Option (Fl Bool Unit)
  | 0, _ => none
  | k + 1, x1595 =>
    if x1595 < a0.length then
      (a0[x1595]?).bind fun x1600 =>
      (a1[x1595]?).bind fun x1605 =>
      if x1600.From = x1605.From then
        (a0[x1595]?).bind fun x1611 =>
        (a1[x1595]?).bind fun x1616 =>
        if x1611.To = x1616.To then
          (a0[x1595]?).bind fun x1622 =>
          (a1[x1595]?).bind fun x1629 =>
          if x1622.Codes.length = x1629.Codes.length then
            (m21_l2 a0 a1 x1595 9223372036854775808 0).bind fun r => match r with
            | .ret x => some x
            | .go _ =>
              m21_l1 a0 a1 k (x1595 + 1)
          else
            some (Fl.ret false)
        else
          some (Fl.ret false)
      else
        some (Fl.ret false)
    else
      some (Fl.go ())
def m21 (a0 : (List D_ref16_Entry)) (a1 : (List D_ref16_Entry)) : Option Bool :=
  if a0.length = a1.length then
    (m21_l1 a0 a1 (a0.length + 1) 0).bind fun r => match r with
    | .ret x => some x
    | .go _ =>
      some true
  else
    some false
def post21 (r : Bool) (v : Value) (fs : List Fact) : Prop := v = .bool r ∧ fs = []
theorem en21 : Enters Tryz.prog 21 := ⟨_, Tryz.func21, by kernel_rfl, rfl⟩
theorem f21_spec {a0 : (List D_ref16_Entry)} {a1 : (List D_ref16_Entry)} {w1588 : Value} {w1589 : Value} {r : Bool} (hr : m21 a0 a1 = some r) : Spec Tryz.prog 21 [w1588, w1589] [((Ty.slice ty50).fact a0 [w1588]), ((Ty.slice ty50).fact a1 [w1589])] (post21 r) := by
  refine spec_start (N := 84) Tryz.func21 (by kernel_rfl) rfl rfl rfl ?_
  intro g hS
  unfold m21 at hr
  refine at_seq ?_
  refine at_region ?_
  refine at_lt (lt_assign rfl) rfl ?_
  refine at_nil ?_
  refine at_then ?_
  refine at_seq ?_
  refine at_seq ?_
  refine at_region ?_
  refine at_lt (lt_move rfl) rfl ?_
  refine at_inv 0 rfl (fun i1590 => ?_)
  have l1591 := slice_len i1590
  refine at_lt (lt_flen 0 rfl rfl und22) rfl ?_
  refine at_lt (lt_move rfl) rfl ?_
  refine at_inv 1 rfl (fun i1592 => ?_)
  have l1593 := slice_len i1592
  refine at_lt (lt_flen 1 rfl rfl und22) rfl ?_
  refine at_lt (lt_neq rfl rfl) rfl ?_
  refine at_nil ?_
  refine at_then ?_
  by_cases h1594 : a0.length = a1.length
  · replace hr := ipos h1594 hr
    refine at_false rfl (nt (decide_eq_true (by omega))) ?_
    refine at_skip ?_
    refine at_then ?_
    refine at_seq ?_
    refine at_seq ?_
    refine at_region ?_
    refine at_lt (lt_assign rfl) rfl ?_
    refine at_nil ?_
    refine at_then ?_
    refine at_int .i64 0 (by simp only [lo, hi]; omega) ?_
    replace hr := obind hr
    obtain ⟨r1596, hl1597, hk1598⟩ := hr
    refine at_cutP (V := (Unit) × (Unit)) (fun v => r1596 = Fl.go v.1) (fun v => (⟨[], [], [], []⟩ : St)) ?_ ?_
    · refine at_block ?_
      refine at_loopW (σ := Nat) (V := Unit) (r := r1596) (fun n s => m21_l1 a0 a1 n s) (fun s e => (⟨[(0, w1588), (1, w1589), (5, .int .i64 (s : Int))], [], [], [((Ty.int .i64).fact (s : Int) [.int .i64 (s : Int)]), ((Ty.slice ty50).fact a0 [w1588]), ((Ty.slice ty50).fact a1 [w1589])]⟩ : St)) (fun _ => rfl) _ 0 () hl1597 ⟨⟨rfl, ⟨rfl, ⟨rfl, trivial⟩⟩⟩, ⟨[], rfl⟩, ⟨[], rfl⟩, ⟨[0, 1, 2], rfl⟩⟩ ?_
      clear hl1597
      intro n x1595 hr e
      skip
      skip
      change m21_l1 a0 a1 (n + 1) x1595 = some r1596 at hr
      change At _ _ (⟨[(0, w1588), (1, w1589), (5, .int .i64 (x1595 : Int))], [], [], [((Ty.int .i64).fact (x1595 : Int) [.int .i64 (x1595 : Int)]), ((Ty.slice ty50).fact a0 [w1588]), ((Ty.slice ty50).fact a1 [w1589])]⟩ : St) _
      rw [m21_l1] at hr
      refine at_seq ?_
      refine at_seq ?_
      refine at_region ?_
      refine at_lt (lt_move rfl) rfl ?_
      refine at_lt (lt_move rfl) rfl ?_
      refine at_lt (lt_flen 1 rfl rfl und22) rfl ?_
      refine at_lt (lt_lss rfl rfl) rfl ?_
      refine at_nil ?_
      refine at_then ?_
      by_cases h1599 : x1595 < a0.length
      · replace hr := ipos h1599 hr
        refine at_true rfl (decide_eq_true (by omega)) ?_
        refine at_skip ?_
        refine at_then ?_
        refine at_seq ?_
        refine at_block ?_
        refine at_seq ?_
        refine at_seq ?_
        replace hr := obind hr
        obtain ⟨x1600, h1601, hr⟩ := hr
        have := (List.getElem?_eq_some_iff.1 h1601).1
        refine at_elem 1 rfl (nat_at' h1601) (fun p1603 ec pa1604 => ?_)
        refine at_open (A := Value) 0 rfl _ _ (fun F w h => op50 h) ?_
        rintro s1602 rfl
        replace hr := obind hr
        obtain ⟨x1605, h1606, hr⟩ := hr
        have := (List.getElem?_eq_some_iff.1 h1606).1
        refine at_elem 7 rfl (nat_at' h1606) (fun p1608 ec pa1609 => ?_)
        refine at_open (A := Value) 0 rfl _ _ (fun F w h => op50 h) ?_
        rintro s1607 rfl
        by_cases h1610 : x1600.From = x1605.From
        · replace hr := ipos h1610 hr
          replace hr := obind hr
          obtain ⟨x1611, h1612, hr⟩ := hr
          have := (List.getElem?_eq_some_iff.1 h1612).1
          refine at_elem 11 rfl (nat_at' h1612) (fun p1614 ec pa1615 => ?_)
          refine at_open (A := Value) 0 rfl _ _ (fun F w h => op50 h) ?_
          rintro s1613 rfl
          replace hr := obind hr
          obtain ⟨x1616, h1617, hr⟩ := hr
          have := (List.getElem?_eq_some_iff.1 h1617).1
          refine at_elem 17 rfl (nat_at' h1617) (fun p1619 ec pa1620 => ?_)
          refine at_open (A := Value) 0 rfl _ _ (fun F w h => op50 h) ?_
          rintro s1618 rfl
          by_cases h1621 : x1611.To = x1616.To
          · replace hr := ipos h1621 hr
            replace hr := obind hr
            obtain ⟨x1622, h1623, hr⟩ := hr
            have := (List.getElem?_eq_some_iff.1 h1623).1
            refine at_elem 21 rfl (nat_at' h1623) (fun p1625 ec pa1626 => ?_)
            refine at_open (A := Value) 0 rfl _ _ (fun F w h => op50 h) ?_
            rintro s1624 rfl
            refine at_inv 2 rfl (fun i1627 => ?_)
            have l1628 := slice_len i1627
            replace hr := obind hr
            obtain ⟨x1629, h1630, hr⟩ := hr
            have := (List.getElem?_eq_some_iff.1 h1630).1
            refine at_elem 27 rfl (nat_at' h1630) (fun p1632 ec pa1633 => ?_)
            refine at_open (A := Value) 0 rfl _ _ (fun F w h => op50 h) ?_
            rintro s1631 rfl
            refine at_inv 2 rfl (fun i1634 => ?_)
            have l1635 := slice_len i1634
            refine aa_start 39 (by kernel_rfl) ?_
            refine aa_pure (bs' := [true, false, false, false, false, false, false, false, false, false, false, false, false, false, false, false, false, false, false, false, false, false, false, false, false, false, false, false, false, false, false, false, false, false, false, false, false, false, false]) 0 rfl (by kernel_rfl) rfl rfl (lt_move rfl) rfl (ts_in 0 0 rfl rfl) ?_
            refine aa_pure (bs' := [true, true, false, false, false, false, false, false, false, false, false, false, false, false, false, false, false, false, false, false, false, false, false, false, false, false, false, false, false, false, false, false, false, false, false, false, false, false, false]) 1 rfl (by kernel_rfl) rfl rfl (lt_move rfl) rfl (ts_in 0 0 rfl rfl) ?_
            refine aa_pure (bs' := [true, true, true, false, false, false, false, false, false, false, false, false, false, false, false, false, false, false, false, false, false, false, false, false, false, false, false, false, false, false, false, false, false, false, false, false, false, false, false]) 2 rfl (by kernel_rfl) rfl rfl (lt_idx rfl rfl pa1604 und22 ti50) rfl (ts_in 0 0 rfl rfl) ?_
            refine aa_pure (bs' := [true, true, true, true, false, false, false, false, false, false, false, false, false, false, false, false, false, false, false, false, false, false, false, false, false, false, false, false, false, false, false, false, false, false, false, false, false, false, false]) 3 rfl (by kernel_rfl) rfl rfl (lt_fieldAddr 0 rfl fld50_0 rfl) rfl (ts_in 0 0 rfl rfl) ?_
            refine aa_load (bs' := [true, true, true, true, true, false, false, false, false, false, false, false, false, false, false, false, false, false, false, false, false, false, false, false, false, false, false, false, false, false, false, false, false, false, false, false, false, false, false]) 4 rfl (by kernel_rfl) rfl rfl (lt_load_peek 29 rfl ti9 rfl rfl rfl rfl rfl) rfl (ts_in 0 0 rfl rfl) ?_
            refine aa_pure (bs' := [true, true, true, true, true, true, false, false, false, false, false, false, false, false, false, false, false, false, false, false, false, false, false, false, false, false, false, false, false, false, false, false, false, false, false, false, false, false, false]) 5 rfl (by kernel_rfl) rfl rfl (lt_move rfl) rfl (ts_in 0 0 rfl rfl) ?_
            refine aa_pure (bs' := [true, true, true, true, true, true, true, false, false, false, false, false, false, false, false, false, false, false, false, false, false, false, false, false, false, false, false, false, false, false, false, false, false, false, false, false, false, false, false]) 6 rfl (by kernel_rfl) rfl rfl (lt_move rfl) rfl (ts_in 0 0 rfl rfl) ?_
            refine aa_pure (bs' := [true, true, true, true, true, true, true, true, false, false, false, false, false, false, false, false, false, false, false, false, false, false, false, false, false, false, false, false, false, false, false, false, false, false, false, false, false, false, false]) 7 rfl (by kernel_rfl) rfl rfl (lt_idx rfl rfl pa1609 und22 ti50) rfl (ts_in 0 0 rfl rfl) ?_
            refine aa_pure (bs' := [true, true, true, true, true, true, true, true, true, false, false, false, false, false, false, false, false, false, false, false, false, false, false, false, false, false, false, false, false, false, false, false, false, false, false, false, false, false, false]) 8 rfl (by kernel_rfl) rfl rfl (lt_fieldAddr 0 rfl fld50_0 rfl) rfl (ts_in 0 0 rfl rfl) ?_
            refine aa_load (bs' := [true, true, true, true, true, true, true, true, true, true, false, false, false, false, false, false, false, false, false, false, false, false, false, false, false, false, false, false, false, false, false, false, false, false, false, false, false, false, false]) 9 rfl (by kernel_rfl) rfl rfl (lt_load_peek 24 rfl ti9 rfl rfl rfl rfl rfl) rfl (ts_in 0 0 rfl rfl) ?_
            refine aa_pure (bs' := [true, true, true, true, true, true, true, true, true, true, true, false, false, false, false, false, false, false, false, false, false, false, false, false, false, false, false, false, false, false, false, false, false, false, false, false, false, false, false]) 10 rfl (by kernel_rfl) rfl rfl (lt_sneq rfl rfl) rfl (ts_in 0 0 rfl rfl) ?_
            refine aa_pure (bs' := [true, true, true, true, true, true, true, true, true, true, true, true, false, false, false, false, false, false, false, false, false, false, false, false, false, false, false, false, false, false, false, false, false, false, false, false, false, false, false]) 11 rfl (by kernel_rfl) rfl rfl (lt_move rfl) rfl (ts_in 0 0 rfl rfl) ?_
            refine aa_pure (bs' := [true, true, true, true, true, true, true, true, true, true, true, true, true, false, false, false, false, false, false, false, false, false, false, false, false, false, false, false, false, false, false, false, false, false, false, false, false, false, false]) 12 rfl (by kernel_rfl) rfl ⟨29, rfl, .inl ⟨_, rfl, gdq (v := false) (nt (decide_eq_true h1610)) rfl⟩⟩ (lt_move rfl) rfl (ts_in 0 0 rfl rfl) ?_
            refine aa_pure (bs' := [true, true, true, true, true, true, true, true, true, true, true, true, true, true, false, false, false, false, false, false, false, false, false, false, false, false, false, false, false, false, false, false, false, false, false, false, false, false, false]) 13 rfl (by kernel_rfl) rfl ⟨29, rfl, .inl ⟨_, rfl, gdq (v := false) (nt (decide_eq_true h1610)) rfl⟩⟩ (lt_move rfl) rfl (ts_in 0 0 rfl rfl) ?_
            refine aa_pure (bs' := [true, true, true, true, true, true, true, true, true, true, true, true, true, true, true, false, false, false, false, false, false, false, false, false, false, false, false, false, false, false, false, false, false, false, false, false, false, false, false]) 14 rfl (by kernel_rfl) rfl ⟨29, rfl, .inl ⟨_, rfl, gdq (v := false) (nt (decide_eq_true h1610)) rfl⟩⟩ (lt_idx rfl rfl pa1615 und22 ti50) rfl (ts_in 0 0 rfl rfl) ?_
            refine aa_pure (bs' := [true, true, true, true, true, true, true, true, true, true, true, true, true, true, true, true, false, false, false, false, false, false, false, false, false, false, false, false, false, false, false, false, false, false, false, false, false, false, false]) 15 rfl (by kernel_rfl) rfl ⟨29, rfl, .inl ⟨_, rfl, gdq (v := false) (nt (decide_eq_true h1610)) rfl⟩⟩ (lt_fieldAddr 1 rfl fld50_1 rfl) rfl (ts_in 0 0 rfl rfl) ?_
            refine aa_load (bs' := [true, true, true, true, true, true, true, true, true, true, true, true, true, true, true, true, true, false, false, false, false, false, false, false, false, false, false, false, false, false, false, false, false, false, false, false, false, false, false]) 16 rfl (by kernel_rfl) rfl ⟨29, rfl, .inl ⟨_, rfl, gdq (v := false) (nt (decide_eq_true h1610)) rfl⟩⟩ (lt_load_peek 19 rfl ti9 rfl rfl rfl rfl rfl) rfl (ts_in 0 0 rfl rfl) ?_
            refine aa_pure (bs' := [true, true, true, true, true, true, true, true, true, true, true, true, true, true, true, true, true, true, false, false, false, false, false, false, false, false, false, false, false, false, false, false, false, false, false, false, false, false, false]) 17 rfl (by kernel_rfl) rfl ⟨29, rfl, .inl ⟨_, rfl, gdq (v := false) (nt (decide_eq_true h1610)) rfl⟩⟩ (lt_move rfl) rfl (ts_in 0 0 rfl rfl) ?_
            refine aa_pure (bs' := [true, true, true, true, true, true, true, true, true, true, true, true, true, true, true, true, true, true, true, false, false, false, false, false, false, false, false, false, false, false, false, false, false, false, false, false, false, false, false]) 18 rfl (by kernel_rfl) rfl ⟨29, rfl, .inl ⟨_, rfl, gdq (v := false) (nt (decide_eq_true h1610)) rfl⟩⟩ (lt_move rfl) rfl (ts_in 0 0 rfl rfl) ?_
            refine aa_pure (bs' := [true, true, true, true, true, true, true, true, true, true, true, true, true, true, true, true, true, true, true, true, false, false, false, false, false, false, false, false, false, false, false, false, false, false, false, false, false, false, false]) 19 rfl (by kernel_rfl) rfl ⟨29, rfl, .inl ⟨_, rfl, gdq (v := false) (nt (decide_eq_true h1610)) rfl⟩⟩ (lt_idx rfl rfl pa1620 und22 ti50) rfl (ts_in 0 0 rfl rfl) ?_
            refine aa_pure (bs' := [true, true, true, true, true, true, true, true, true, true, true, true, true, true, true, true, true, true, true, true, true, false, false, false, false, false, false, false, false, false, false, false, false, false, false, false, false, false, false]) 20 rfl (by kernel_rfl) rfl ⟨29, rfl, .inl ⟨_, rfl, gdq (v := false) (nt (decide_eq_true h1610)) rfl⟩⟩ (lt_fieldAddr 1 rfl fld50_1 rfl) rfl (ts_in 0 0 rfl rfl) ?_
            refine aa_load (bs' := [true, true, true, true, true, true, true, true, true, true, true, true, true, true, true, true, true, true, true, true, true, true, false, false, false, false, false, false, false, false, false, false, false, false, false, false, false, false, false]) 21 rfl (by kernel_rfl) rfl ⟨29, rfl, .inl ⟨_, rfl, gdq (v := false) (nt (decide_eq_true h1610)) rfl⟩⟩ (lt_load_peek 14 rfl ti9 rfl rfl rfl rfl rfl) rfl (ts_in 0 0 rfl rfl) ?_
            refine aa_pure (bs' := [true, true, true, true, true, true, true, true, true, true, true, true, true, true, true, true, true, true, true, true, true, true, true, false, false, false, false, false, false, false, false, false, false, false, false, false, false, false, false]) 22 rfl (by kernel_rfl) rfl ⟨29, rfl, .inl ⟨_, rfl, gdq (v := false) (nt (decide_eq_true h1610)) rfl⟩⟩ (lt_sneq rfl rfl) rfl (ts_in 0 0 rfl rfl) ?_
            refine aa_pure (bs' := [true, true, true, true, true, true, true, true, true, true, true, true, true, true, true, true, true, true, true, true, true, true, true, true, false, false, false, false, false, false, false, false, false, false, false, false, false, false, false]) 23 rfl (by kernel_rfl) rfl rfl (lt_pick false rfl (nt (decide_eq_true h1610)) rfl) rfl (ts_in 0 0 rfl rfl) ?_
            refine aa_pure (bs' := [true, true, true, true, true, true, true, true, true, true, true, true, true, true, true, true, true, true, true, true, true, true, true, true, true, false, false, false, false, false, false, false, false, false, false, false, false, false, false]) 24 rfl (by kernel_rfl) rfl rfl (lt_move rfl) rfl (ts_in 0 0 rfl rfl) ?_
            refine aa_pure (bs' := [true, true, true, true, true, true, true, true, true, true, true, true, true, true, true, true, true, true, true, true, true, true, true, true, true, true, false, false, false, false, false, false, false, false, false, false, false, false, false]) 25 rfl (by kernel_rfl) rfl ⟨42, rfl, .inl ⟨_, rfl, gdq (v := false) (nt (decide_eq_true h1621)) rfl⟩⟩ (lt_move rfl) rfl (ts_in 0 0 rfl rfl) ?_
            refine aa_pure (bs' := [true, true, true, true, true, true, true, true, true, true, true, true, true, true, true, true, true, true, true, true, true, true, true, true, true, true, true, false, false, false, false, false, false, false, false, false, false, false, false]) 26 rfl (by kernel_rfl) rfl ⟨42, rfl, .inl ⟨_, rfl, gdq (v := false) (nt (decide_eq_true h1621)) rfl⟩⟩ (lt_move rfl) rfl (ts_in 0 0 rfl rfl) ?_
            refine aa_pure (bs' := [true, true, true, true, true, true, true, true, true, true, true, true, true, true, true, true, true, true, true, true, true, true, true, true, true, true, true, true, false, false, false, false, false, false, false, false, false, false, false]) 27 rfl (by kernel_rfl) rfl ⟨42, rfl, .inl ⟨_, rfl, gdq (v := false) (nt (decide_eq_true h1621)) rfl⟩⟩ (lt_idx rfl rfl pa1626 und22 ti50) rfl (ts_in 0 0 rfl rfl) ?_
            refine aa_pure (bs' := [true, true, true, true, true, true, true, true, true, true, true, true, true, true, true, true, true, true, true, true, true, true, true, true, true, true, true, true, true, false, false, false, false, false, false, false, false, false, false]) 28 rfl (by kernel_rfl) rfl ⟨42, rfl, .inl ⟨_, rfl, gdq (v := false) (nt (decide_eq_true h1621)) rfl⟩⟩ (lt_fieldAddr 2 rfl fld50_2 rfl) rfl (ts_in 0 0 rfl rfl) ?_
            refine aa_load (bs' := [true, true, true, true, true, true, true, true, true, true, true, true, true, true, true, true, true, true, true, true, true, true, true, true, true, true, true, true, true, true, false, false, false, false, false, false, false, false, false]) 29 rfl (by kernel_rfl) rfl ⟨42, rfl, .inl ⟨_, rfl, gdq (v := false) (nt (decide_eq_true h1621)) rfl⟩⟩ (lt_load_peek 9 rfl ti48 rfl rfl rfl rfl rfl) rfl (ts_in 0 0 rfl rfl) ?_
            refine aa_load (bs' := [true, true, true, true, true, true, true, true, true, true, true, true, true, true, true, true, true, true, true, true, true, true, true, true, true, true, true, true, true, true, true, false, false, false, false, false, false, false, false]) 30 rfl (by kernel_rfl) rfl ⟨42, rfl, .inl ⟨_, rfl, gdq (v := false) (nt (decide_eq_true h1621)) rfl⟩⟩ (lt_flen 7 rfl rfl und48) rfl (ts_in 0 0 rfl rfl) ?_
            refine aa_pure (bs' := [true, true, true, true, true, true, true, true, true, true, true, true, true, true, true, true, true, true, true, true, true, true, true, true, true, true, true, true, true, true, true, true, false, false, false, false, false, false, false]) 31 rfl (by kernel_rfl) rfl ⟨42, rfl, .inl ⟨_, rfl, gdq (v := false) (nt (decide_eq_true h1621)) rfl⟩⟩ (lt_move rfl) rfl (ts_in 0 0 rfl rfl) ?_
            refine aa_pure (bs' := [true, true, true, true, true, true, true, true, true, true, true, true, true, true, true, true, true, true, true, true, true, true, true, true, true, true, true, true, true, true, true, true, true, false, false, false, false, false, false]) 32 rfl (by kernel_rfl) rfl ⟨42, rfl, .inl ⟨_, rfl, gdq (v := false) (nt (decide_eq_true h1621)) rfl⟩⟩ (lt_move rfl) rfl (ts_in 0 0 rfl rfl) ?_
            refine aa_pure (bs' := [true, true, true, true, true, true, true, true, true, true, true, true, true, true, true, true, true, true, true, true, true, true, true, true, true, true, true, true, true, true, true, true, true, true, false, false, false, false, false]) 33 rfl (by kernel_rfl) rfl ⟨42, rfl, .inl ⟨_, rfl, gdq (v := false) (nt (decide_eq_true h1621)) rfl⟩⟩ (lt_idx rfl rfl pa1633 und22 ti50) rfl (ts_in 0 0 rfl rfl) ?_
            refine aa_pure (bs' := [true, true, true, true, true, true, true, true, true, true, true, true, true, true, true, true, true, true, true, true, true, true, true, true, true, true, true, true, true, true, true, true, true, true, true, false, false, false, false]) 34 rfl (by kernel_rfl) rfl ⟨42, rfl, .inl ⟨_, rfl, gdq (v := false) (nt (decide_eq_true h1621)) rfl⟩⟩ (lt_fieldAddr 2 rfl fld50_2 rfl) rfl (ts_in 0 0 rfl rfl) ?_
            refine aa_load (bs' := [true, true, true, true, true, true, true, true, true, true, true, true, true, true, true, true, true, true, true, true, true, true, true, true, true, true, true, true, true, true, true, true, true, true, true, true, false, false, false]) 35 rfl (by kernel_rfl) rfl ⟨42, rfl, .inl ⟨_, rfl, gdq (v := false) (nt (decide_eq_true h1621)) rfl⟩⟩ (lt_load_peek 4 rfl ti48 rfl rfl rfl rfl rfl) rfl (ts_in 0 0 rfl rfl) ?_
            refine aa_load (bs' := [true, true, true, true, true, true, true, true, true, true, true, true, true, true, true, true, true, true, true, true, true, true, true, true, true, true, true, true, true, true, true, true, true, true, true, true, true, false, false]) 36 rfl (by kernel_rfl) rfl ⟨42, rfl, .inl ⟨_, rfl, gdq (v := false) (nt (decide_eq_true h1621)) rfl⟩⟩ (lt_flen 2 rfl rfl und48) rfl (ts_in 0 0 rfl rfl) ?_
            refine aa_pure (bs' := [true, true, true, true, true, true, true, true, true, true, true, true, true, true, true, true, true, true, true, true, true, true, true, true, true, true, true, true, true, true, true, true, true, true, true, true, true, true, false]) 37 rfl (by kernel_rfl) rfl ⟨42, rfl, .inl ⟨_, rfl, gdq (v := false) (nt (decide_eq_true h1621)) rfl⟩⟩ (lt_neq rfl rfl) rfl (ts_in 0 0 rfl rfl) ?_
            refine aa_pure (bs' := [true, true, true, true, true, true, true, true, true, true, true, true, true, true, true, true, true, true, true, true, true, true, true, true, true, true, true, true, true, true, true, true, true, true, true, true, true, true, true]) 38 rfl (by kernel_rfl) rfl rfl (lt_pick false rfl (nt (decide_eq_true h1621)) rfl) rfl (ts_in 0 0 rfl rfl) ?_
            refine aa_done (by kernel_rfl) (ts_in 0 0 rfl rfl) ?_
            refine at_then ?_
            by_cases h1636 : x1622.Codes.length = x1629.Codes.length
            · replace hr := ipos h1636 hr
              refine at_false rfl (nt (decide_eq_true (by omega))) ?_
              refine at_skip ?_
              refine at_then ?_
              refine at_seq ?_
              refine at_region ?_
              refine at_lt (lt_assign rfl) rfl ?_
              refine at_nil ?_
              refine at_then ?_
              refine at_int .i64 0 (by simp only [lo, hi]; omega) ?_
              replace hr := obind hr
              obtain ⟨r1638, hl1639, hk1640⟩ := hr
              refine at_cutP (V := (Unit) × (Unit)) (fun v => r1638 = Fl.go v.1) (fun v => (⟨[(0, w1588), (1, w1589), (5, .int .i64 (x1595 : Int))], [], [], [((Ty.slice ty50).fact a0 [w1588]), ((Ty.slice ty50).fact a1 [w1589]), ((Ty.int .i64).fact (x1595 : Int) [.int .i64 (x1595 : Int)])]⟩ : St)) ?_ ?_
              · refine at_block ?_
                refine at_loopW (σ := Nat) (V := Unit) (r := r1638) (fun n s => m21_l2 a0 a1 x1595 n s) (fun s e => (⟨[(0, w1588), (1, w1589), (5, .int .i64 (x1595 : Int)), (6, .int .i64 (s : Int))], [], [], [((Ty.int .i64).fact (s : Int) [.int .i64 (s : Int)]), ((Ty.slice ty50).fact a0 [w1588]), ((Ty.slice ty50).fact a1 [w1589]), ((Ty.int .i64).fact (x1595 : Int) [.int .i64 (x1595 : Int)])]⟩ : St)) (fun _ => rfl) _ 0 () hl1639 ⟨⟨rfl, ⟨rfl, ⟨rfl, ⟨rfl, trivial⟩⟩⟩⟩, ⟨[], rfl⟩, ⟨[], rfl⟩, ⟨[0, 32, 33, 31], rfl⟩⟩ ?_
                clear hl1639
                intro n x1637 hr e
                skip
                skip
                change m21_l2 a0 a1 x1595 (n + 1) x1637 = some r1638 at hr
                change At _ _ (⟨[(0, w1588), (1, w1589), (5, .int .i64 (x1595 : Int)), (6, .int .i64 (x1637 : Int))], [], [], [((Ty.int .i64).fact (x1637 : Int) [.int .i64 (x1637 : Int)]), ((Ty.slice ty50).fact a0 [w1588]), ((Ty.slice ty50).fact a1 [w1589]), ((Ty.int .i64).fact (x1595 : Int) [.int .i64 (x1595 : Int)])]⟩ : St) _
                rw [m21_l2] at hr
                refine at_seq ?_
                refine at_seq ?_
                refine at_region ?_
                refine at_lt (lt_move rfl) rfl ?_
                refine at_lt (lt_move rfl) rfl ?_
                refine at_lt (lt_move rfl) rfl ?_
                replace hr := obind hr
                obtain ⟨x1641, h1642, hr⟩ := hr
                have := (List.getElem?_eq_some_iff.1 h1642).1
                refine at_elem 1 rfl (nat_at' h1642) (fun p1644 ec pa1645 => ?_)
                refine at_open (A := Value) 0 rfl _ _ (fun F w h => op50 h) ?_
                rintro s1643 rfl
                refine at_lt (lt_idx rfl rfl pa1645 und22 ti50) rfl ?_
                refine at_lt (lt_fieldAddr 2 rfl fld50_2 rfl) rfl ?_
                refine at_lt (lt_load_peek 4 rfl ti48 rfl rfl rfl rfl rfl) rfl ?_
                refine at_inv 2 rfl (fun i1646 => ?_)
                have l1647 := slice_len i1646
                refine at_lt (lt_flen 2 rfl rfl und48) rfl ?_
                refine at_lt (lt_lss rfl rfl) rfl ?_
                refine at_nil ?_
                refine at_then ?_
                by_cases h1648 : x1637 < x1641.Codes.length
                · replace hr := ipos h1648 hr
                  refine at_true rfl (decide_eq_true (by omega)) ?_
                  refine at_skip ?_
                  refine at_then ?_
                  refine at_seq ?_
                  refine at_block ?_
                  refine at_seq ?_
                  replace hr := obind hr
                  obtain ⟨x1649, h1650, hr⟩ := hr
                  have := (List.getElem?_eq_some_iff.1 h1650).1
                  refine at_elem 6 rfl (nat_at' h1650) (fun p1652 ec pa1653 => ?_)
                  refine at_open (A := Value) 0 rfl _ _ (fun F w h => op50 h) ?_
                  rintro s1651 rfl
                  replace hr := obind hr
                  obtain ⟨x1654, h1655, hr⟩ := hr
                  have := (List.getElem?_eq_some_iff.1 h1655).1
                  refine at_elem 2 rfl (nat_at' h1655) (fun p1656 ec pa1657 => ?_)
                  refine at_open (A := Unit) 0 rfl _ _ (fun F w h => op83 h) ?_
                  rintro _ rfl
                  replace hr := obind hr
                  obtain ⟨x1658, h1659, hr⟩ := hr
                  have := (List.getElem?_eq_some_iff.1 h1659).1
                  refine at_elem 14 rfl (nat_at' h1659) (fun p1661 ec pa1662 => ?_)
                  refine at_open (A := Value) 0 rfl _ _ (fun F w h => op50 h) ?_
                  rintro s1660 rfl
                  replace hr := obind hr
                  obtain ⟨x1663, h1664, hr⟩ := hr
                  have := (List.getElem?_eq_some_iff.1 h1664).1
                  refine at_elem 2 rfl (nat_at' h1664) (fun p1665 ec pa1666 => ?_)
                  refine at_open (A := Unit) 0 rfl _ _ (fun F w h => op83 h) ?_
                  rintro _ rfl
                  refine aa_start 17 (by kernel_rfl) ?_
                  refine aa_pure (bs' := [true, false, false, false, false, false, false, false, false, false, false, false, false, false, false, false, false]) 0 rfl (by kernel_rfl) rfl rfl (lt_move rfl) rfl (ts_in 0 0 rfl rfl) ?_
                  refine aa_pure (bs' := [true, true, false, false, false, false, false, false, false, false, false, false, false, false, false, false, false]) 1 rfl (by kernel_rfl) rfl rfl (lt_move rfl) rfl (ts_in 0 0 rfl rfl) ?_
                  refine aa_pure (bs' := [true, true, true, false, false, false, false, false, false, false, false, false, false, false, false, false, false]) 2 rfl (by kernel_rfl) rfl rfl (lt_idx rfl rfl pa1653 und22 ti50) rfl (ts_in 0 0 rfl rfl) ?_
                  refine aa_pure (bs' := [true, true, true, true, false, false, false, false, false, false, false, false, false, false, false, false, false]) 3 rfl (by kernel_rfl) rfl rfl (lt_fieldAddr 2 rfl fld50_2 rfl) rfl (ts_in 0 0 rfl rfl) ?_
                  refine aa_load (bs' := [true, true, true, true, true, false, false, false, false, false, false, false, false, false, false, false, false]) 4 rfl (by kernel_rfl) rfl rfl (lt_load_peek 13 rfl ti48 rfl rfl rfl rfl rfl) rfl (ts_in 0 0 rfl rfl) ?_
                  refine aa_pure (bs' := [true, true, true, true, true, true, false, false, false, false, false, false, false, false, false, false, false]) 5 rfl (by kernel_rfl) rfl rfl (lt_move rfl) rfl (ts_in 0 0 rfl rfl) ?_
                  refine aa_pure (bs' := [true, true, true, true, true, true, true, false, false, false, false, false, false, false, false, false, false]) 6 rfl (by kernel_rfl) rfl rfl (lt_idx rfl rfl pa1657 und48 ti83) rfl (ts_in 0 0 rfl rfl) ?_
                  refine aa_load (bs' := [true, true, true, true, true, true, true, true, false, false, false, false, false, false, false, false, false]) 7 rfl (by kernel_rfl) rfl rfl (lt_load_peek 8 rfl ti83 rfl rfl rfl rfl rfl) rfl (ts_in 0 0 rfl rfl) ?_
                  refine aa_pure (bs' := [true, true, true, true, true, true, true, true, true, false, false, false, false, false, false, false, false]) 8 rfl (by kernel_rfl) rfl rfl (lt_move rfl) rfl (ts_in 0 0 rfl rfl) ?_
                  refine aa_pure (bs' := [true, true, true, true, true, true, true, true, true, true, false, false, false, false, false, false, false]) 9 rfl (by kernel_rfl) rfl rfl (lt_move rfl) rfl (ts_in 0 0 rfl rfl) ?_
                  refine aa_pure (bs' := [true, true, true, true, true, true, true, true, true, true, true, false, false, false, false, false, false]) 10 rfl (by kernel_rfl) rfl rfl (lt_idx rfl rfl pa1662 und22 ti50) rfl (ts_in 0 0 rfl rfl) ?_
                  refine aa_pure (bs' := [true, true, true, true, true, true, true, true, true, true, true, true, false, false, false, false, false]) 11 rfl (by kernel_rfl) rfl rfl (lt_fieldAddr 2 rfl fld50_2 rfl) rfl (ts_in 0 0 rfl rfl) ?_
                  refine aa_load (bs' := [true, true, true, true, true, true, true, true, true, true, true, true, true, false, false, false, false]) 12 rfl (by kernel_rfl) rfl rfl (lt_load_peek 6 rfl ti48 rfl rfl rfl rfl rfl) rfl (ts_in 0 0 rfl rfl) ?_
                  refine aa_pure (bs' := [true, true, true, true, true, true, true, true, true, true, true, true, true, true, false, false, false]) 13 rfl (by kernel_rfl) rfl rfl (lt_move rfl) rfl (ts_in 0 0 rfl rfl) ?_
                  refine aa_pure (bs' := [true, true, true, true, true, true, true, true, true, true, true, true, true, true, true, false, false]) 14 rfl (by kernel_rfl) rfl rfl (lt_idx rfl rfl pa1666 und48 ti83) rfl (ts_in 0 0 rfl rfl) ?_
                  refine aa_load (bs' := [true, true, true, true, true, true, true, true, true, true, true, true, true, true, true, true, false]) 15 rfl (by kernel_rfl) rfl rfl (lt_load_peek 1 rfl ti83 rfl rfl rfl rfl rfl) rfl (ts_in 0 0 rfl rfl) ?_
                  refine aa_pure (bs' := [true, true, true, true, true, true, true, true, true, true, true, true, true, true, true, true, true]) 16 rfl (by kernel_rfl) rfl rfl (lt_stne rfl rfl eg83 eqt83) rfl (ts_in 0 0 rfl rfl) ?_
                  refine aa_done (by kernel_rfl) (ts_in 0 0 rfl rfl) ?_
                  refine at_then ?_
                  by_cases h1667 : (decide (((x1654.From.toNat : Int) : Int) = (x1663.From.toNat : Int)) && decide (((x1654.To.toNat : Int) : Int) = (x1663.To.toNat : Int))) = true
                  · replace hr := ipos h1667 hr
                    refine at_false rfl (nt h1667) ?_
                    refine at_skip ?_
                    refine at_in ?_
                    refine at_then ?_
                    refine at_region ?_
                    refine at_lt (lt_move rfl) rfl ?_
                    refine at_lt (lt_add rfl rfl (by simp only [lo, hi]; omega)) rfl ?_
                    refine at_lt (lt_assign rfl) rfl ?_
                    refine at_nil ?_
                    refine at_int .i64 (x1637 + 1 : Int) (by simp only [lo, hi]; omega) ?_
                    exact at_again (σ := Nat) (V := Unit) (lp := fun n s => m21_l2 a0 a1 x1595 n s) (S := fun s e => (⟨[(0, w1588), (1, w1589), (5, .int .i64 (x1595 : Int)), (6, .int .i64 (s : Int))], [], [], [((Ty.int .i64).fact (s : Int) [.int .i64 (s : Int)]), ((Ty.slice ty50).fact a0 [w1588]), ((Ty.slice ty50).fact a1 [w1589]), ((Ty.int .i64).fact (x1595 : Int) [.int .i64 (x1595 : Int)])]⟩ : St)) (x1637 + 1) () hr ⟨⟨rfl, ⟨rfl, ⟨rfl, ⟨rfl, trivial⟩⟩⟩⟩, ⟨[], rfl⟩, ⟨[], rfl⟩, ⟨[0, 21, 22, 23], rfl⟩⟩
                  · replace hr := ineg h1667 hr
                    refine at_true rfl (nf (bf h1667)) ?_
                    refine at_seq ?_
                    refine at_region ?_
                    refine at_lt (lt_assign rfl) rfl ?_
                    refine at_nil ?_
                    refine at_then ?_
                    refine at_ret ?_
                    have hq := oinj hr
                    clear hr
                    subst hq
                    have hq := oinj hk1640
                    clear hk1640
                    subst hq
                    have hq := oinj hk1598
                    clear hk1598
                    subst hq
                    refine at_in_ret ?_
                    refine at_then_ret ?_
                    refine at_then_ret ?_
                    refine at_in_ret ?_
                    refine at_then_ret ?_
                    refine at_in_ret ?_
                    refine at_then_ret ?_
                    refine at_then_ret ?_
                    refine at_in_ret ?_
                    refine at_then_ret ?_
                    refine at_then_ret ?_
                    exact at_return (.bool false) [] hS Tryz.results21 (.cons (.tmp rfl) .nil) rfl rfl ⟨rfl, rfl⟩
                · replace hr := ineg h1648 hr
                  refine at_false rfl (decide_eq_false (by omega)) ?_
                  refine at_exit ?_
                  refine at_then_exit ?_
                  refine at_then_exit ?_
                  refine at_in_exit ?_
                  have hq := oinj hr
                  clear hr
                  subst hq
                  exact at_leafP ((), ()) rfl ⟨⟨rfl, ⟨rfl, ⟨rfl, trivial⟩⟩⟩, ⟨[], rfl⟩, ⟨[], rfl⟩, ⟨[6, 7, 8], rfl⟩⟩
              · rintro ⟨_, _⟩ hp
                replace hr := hk1640
                subst hp
                clear hl1639
                change At _ _ (⟨[(0, w1588), (1, w1589), (5, .int .i64 (x1595 : Int))], [], [], [((Ty.slice ty50).fact a0 [w1588]), ((Ty.slice ty50).fact a1 [w1589]), ((Ty.int .i64).fact (x1595 : Int) [.int .i64 (x1595 : Int)])]⟩ : St) _
                refine at_in ?_
                refine at_then ?_
                refine at_region ?_
                refine at_lt (lt_move rfl) rfl ?_
                refine at_lt (lt_add rfl rfl (by simp only [lo, hi]; omega)) rfl ?_
                refine at_lt (lt_assign rfl) rfl ?_
                refine at_nil ?_
                refine at_int .i64 (x1595 + 1 : Int) (by simp only [lo, hi]; omega) ?_
                exact at_again (σ := Nat) (V := Unit) (lp := fun n s => m21_l1 a0 a1 n s) (S := fun s e => (⟨[(0, w1588), (1, w1589), (5, .int .i64 (s : Int))], [], [], [((Ty.int .i64).fact (s : Int) [.int .i64 (s : Int)]), ((Ty.slice ty50).fact a0 [w1588]), ((Ty.slice ty50).fact a1 [w1589])]⟩ : St)) (x1595 + 1) () hr ⟨⟨rfl, ⟨rfl, ⟨rfl, trivial⟩⟩⟩, ⟨[], rfl⟩, ⟨[], rfl⟩, ⟨[0, 1, 2], rfl⟩⟩
            · replace hr := ineg h1636 hr
              refine at_true rfl (nf (decide_eq_false (by omega))) ?_
              refine at_seq ?_
              refine at_region ?_
              refine at_lt (lt_assign rfl) rfl ?_
              refine at_nil ?_
              refine at_then ?_
              refine at_ret ?_
              have hq := oinj hr
              clear hr
              subst hq
              have hq := oinj hk1598
              clear hk1598
              subst hq
              refine at_then_ret ?_
              refine at_in_ret ?_
              refine at_then_ret ?_
              refine at_then_ret ?_
              refine at_in_ret ?_
              refine at_then_ret ?_
              refine at_then_ret ?_
              exact at_return (.bool false) [] hS Tryz.results21 (.cons (.tmp rfl) .nil) rfl rfl ⟨rfl, rfl⟩
          · replace hr := ineg h1621 hr
            refine aa_start 39 (by kernel_rfl) ?_
            refine aa_pure (bs' := [true, false, false, false, false, false, false, false, false, false, false, false, false, false, false, false, false, false, false, false, false, false, false, false, false, false, false, false, false, false, false, false, false, false, false, false, false, false, false]) 0 rfl (by kernel_rfl) rfl rfl (lt_move rfl) rfl (ts_in 0 0 rfl rfl) ?_
            refine aa_pure (bs' := [true, true, false, false, false, false, false, false, false, false, false, false, false, false, false, false, false, false, false, false, false, false, false, false, false, false, false, false, false, false, false, false, false, false, false, false, false, false, false]) 1 rfl (by kernel_rfl) rfl rfl (lt_move rfl) rfl (ts_in 0 0 rfl rfl) ?_
            refine aa_pure (bs' := [true, true, true, false, false, false, false, false, false, false, false, false, false, false, false, false, false, false, false, false, false, false, false, false, false, false, false, false, false, false, false, false, false, false, false, false, false, false, false]) 2 rfl (by kernel_rfl) rfl rfl (lt_idx rfl rfl pa1604 und22 ti50) rfl (ts_in 0 0 rfl rfl) ?_
            refine aa_pure (bs' := [true, true, true, true, false, false, false, false, false, false, false, false, false, false, false, false, false, false, false, false, false, false, false, false, false, false, false, false, false, false, false, false, false, false, false, false, false, false, false]) 3 rfl (by kernel_rfl) rfl rfl (lt_fieldAddr 0 rfl fld50_0 rfl) rfl (ts_in 0 0 rfl rfl) ?_
            refine aa_load (bs' := [true, true, true, true, true, false, false, false, false, false, false, false, false, false, false, false, false, false, false, false, false, false, false, false, false, false, false, false, false, false, false, false, false, false, false, false, false, false, false]) 4 rfl (by kernel_rfl) rfl rfl (lt_load_peek 19 rfl ti9 rfl rfl rfl rfl rfl) rfl (ts_in 0 0 rfl rfl) ?_
            refine aa_pure (bs' := [true, true, true, true, true, true, false, false, false, false, false, false, false, false, false, false, false, false, false, false, false, false, false, false, false, false, false, false, false, false, false, false, false, false, false, false, false, false, false]) 5 rfl (by kernel_rfl) rfl rfl (lt_move rfl) rfl (ts_in 0 0 rfl rfl) ?_
            refine aa_pure (bs' := [true, true, true, true, true, true, true, false, false, false, false, false, false, false, false, false, false, false, false, false, false, false, false, false, false, false, false, false, false, false, false, false, false, false, false, false, false, false, false]) 6 rfl (by kernel_rfl) rfl rfl (lt_move rfl) rfl (ts_in 0 0 rfl rfl) ?_
            refine aa_pure (bs' := [true, true, true, true, true, true, true, true, false, false, false, false, false, false, false, false, false, false, false, false, false, false, false, false, false, false, false, false, false, false, false, false, false, false, false, false, false, false, false]) 7 rfl (by kernel_rfl) rfl rfl (lt_idx rfl rfl pa1609 und22 ti50) rfl (ts_in 0 0 rfl rfl) ?_
            refine aa_pure (bs' := [true, true, true, true, true, true, true, true, true, false, false, false, false, false, false, false, false, false, false, false, false, false, false, false, false, false, false, false, false, false, false, false, false, false, false, false, false, false, false]) 8 rfl (by kernel_rfl) rfl rfl (lt_fieldAddr 0 rfl fld50_0 rfl) rfl (ts_in 0 0 rfl rfl) ?_
            refine aa_load (bs' := [true, true, true, true, true, true, true, true, true, true, false, false, false, false, false, false, false, false, false, false, false, false, false, false, false, false, false, false, false, false, false, false, false, false, false, false, false, false, false]) 9 rfl (by kernel_rfl) rfl rfl (lt_load_peek 14 rfl ti9 rfl rfl rfl rfl rfl) rfl (ts_in 0 0 rfl rfl) ?_
            refine aa_pure (bs' := [true, true, true, true, true, true, true, true, true, true, true, false, false, false, false, false, false, false, false, false, false, false, false, false, false, false, false, false, false, false, false, false, false, false, false, false, false, false, false]) 10 rfl (by kernel_rfl) rfl rfl (lt_sneq rfl rfl) rfl (ts_in 0 0 rfl rfl) ?_
            refine aa_pure (bs' := [true, true, true, true, true, true, true, true, true, true, true, true, false, false, false, false, false, false, false, false, false, false, false, false, false, false, false, false, false, false, false, false, false, false, false, false, false, false, false]) 11 rfl (by kernel_rfl) rfl rfl (lt_move rfl) rfl (ts_in 0 0 rfl rfl) ?_
            refine aa_pure (bs' := [true, true, true, true, true, true, true, true, true, true, true, true, true, false, false, false, false, false, false, false, false, false, false, false, false, false, false, false, false, false, false, false, false, false, false, false, false, false, false]) 12 rfl (by kernel_rfl) rfl ⟨29, rfl, .inl ⟨_, rfl, gdq (v := false) (nt (decide_eq_true h1610)) rfl⟩⟩ (lt_move rfl) rfl (ts_in 0 0 rfl rfl) ?_
            refine aa_pure (bs' := [true, true, true, true, true, true, true, true, true, true, true, true, true, true, false, false, false, false, false, false, false, false, false, false, false, false, false, false, false, false, false, false, false, false, false, false, false, false, false]) 13 rfl (by kernel_rfl) rfl ⟨29, rfl, .inl ⟨_, rfl, gdq (v := false) (nt (decide_eq_true h1610)) rfl⟩⟩ (lt_move rfl) rfl (ts_in 0 0 rfl rfl) ?_
            refine aa_pure (bs' := [true, true, true, true, true, true, true, true, true, true, true, true, true, true, true, false, false, false, false, false, false, false, false, false, false, false, false, false, false, false, false, false, false, false, false, false, false, false, false]) 14 rfl (by kernel_rfl) rfl ⟨29, rfl, .inl ⟨_, rfl, gdq (v := false) (nt (decide_eq_true h1610)) rfl⟩⟩ (lt_idx rfl rfl pa1615 und22 ti50) rfl (ts_in 0 0 rfl rfl) ?_
            refine aa_pure (bs' := [true, true, true, true, true, true, true, true, true, true, true, true, true, true, true, true, false, false, false, false, false, false, false, false, false, false, false, false, false, false, false, false, false, false, false, false, false, false, false]) 15 rfl (by kernel_rfl) rfl ⟨29, rfl, .inl ⟨_, rfl, gdq (v := false) (nt (decide_eq_true h1610)) rfl⟩⟩ (lt_fieldAddr 1 rfl fld50_1 rfl) rfl (ts_in 0 0 rfl rfl) ?_
            refine aa_load (bs' := [true, true, true, true, true, true, true, true, true, true, true, true, true, true, true, true, true, false, false, false, false, false, false, false, false, false, false, false, false, false, false, false, false, false, false, false, false, false, false]) 16 rfl (by kernel_rfl) rfl ⟨29, rfl, .inl ⟨_, rfl, gdq (v := false) (nt (decide_eq_true h1610)) rfl⟩⟩ (lt_load_peek 9 rfl ti9 rfl rfl rfl rfl rfl) rfl (ts_in 0 0 rfl rfl) ?_
            refine aa_pure (bs' := [true, true, true, true, true, true, true, true, true, true, true, true, true, true, true, true, true, true, false, false, false, false, false, false, false, false, false, false, false, false, false, false, false, false, false, false, false, false, false]) 17 rfl (by kernel_rfl) rfl ⟨29, rfl, .inl ⟨_, rfl, gdq (v := false) (nt (decide_eq_true h1610)) rfl⟩⟩ (lt_move rfl) rfl (ts_in 0 0 rfl rfl) ?_
            refine aa_pure (bs' := [true, true, true, true, true, true, true, true, true, true, true, true, true, true, true, true, true, true, true, false, false, false, false, false, false, false, false, false, false, false, false, false, false, false, false, false, false, false, false]) 18 rfl (by kernel_rfl) rfl ⟨29, rfl, .inl ⟨_, rfl, gdq (v := false) (nt (decide_eq_true h1610)) rfl⟩⟩ (lt_move rfl) rfl (ts_in 0 0 rfl rfl) ?_
            refine aa_pure (bs' := [true, true, true, true, true, true, true, true, true, true, true, true, true, true, true, true, true, true, true, true, false, false, false, false, false, false, false, false, false, false, false, false, false, false, false, false, false, false, false]) 19 rfl (by kernel_rfl) rfl ⟨29, rfl, .inl ⟨_, rfl, gdq (v := false) (nt (decide_eq_true h1610)) rfl⟩⟩ (lt_idx rfl rfl pa1620 und22 ti50) rfl (ts_in 0 0 rfl rfl) ?_
            refine aa_pure (bs' := [true, true, true, true, true, true, true, true, true, true, true, true, true, true, true, true, true, true, true, true, true, false, false, false, false, false, false, false, false, false, false, false, false, false, false, false, false, false, false]) 20 rfl (by kernel_rfl) rfl ⟨29, rfl, .inl ⟨_, rfl, gdq (v := false) (nt (decide_eq_true h1610)) rfl⟩⟩ (lt_fieldAddr 1 rfl fld50_1 rfl) rfl (ts_in 0 0 rfl rfl) ?_
            refine aa_load (bs' := [true, true, true, true, true, true, true, true, true, true, true, true, true, true, true, true, true, true, true, true, true, true, false, false, false, false, false, false, false, false, false, false, false, false, false, false, false, false, false]) 21 rfl (by kernel_rfl) rfl ⟨29, rfl, .inl ⟨_, rfl, gdq (v := false) (nt (decide_eq_true h1610)) rfl⟩⟩ (lt_load_peek 4 rfl ti9 rfl rfl rfl rfl rfl) rfl (ts_in 0 0 rfl rfl) ?_
            refine aa_pure (bs' := [true, true, true, true, true, true, true, true, true, true, true, true, true, true, true, true, true, true, true, true, true, true, true, false, false, false, false, false, false, false, false, false, false, false, false, false, false, false, false]) 22 rfl (by kernel_rfl) rfl ⟨29, rfl, .inl ⟨_, rfl, gdq (v := false) (nt (decide_eq_true h1610)) rfl⟩⟩ (lt_sneq rfl rfl) rfl (ts_in 0 0 rfl rfl) ?_
            refine aa_pure (bs' := [true, true, true, true, true, true, true, true, true, true, true, true, true, true, true, true, true, true, true, true, true, true, true, true, false, false, false, false, false, false, false, false, false, false, false, false, false, false, false]) 23 rfl (by kernel_rfl) rfl rfl (lt_pick false rfl (nt (decide_eq_true h1610)) rfl) rfl (ts_in 0 0 rfl rfl) ?_
            refine aa_pure (bs' := [true, true, true, true, true, true, true, true, true, true, true, true, true, true, true, true, true, true, true, true, true, true, true, true, true, false, false, false, false, false, false, false, false, false, false, false, false, false, false]) 24 rfl (by kernel_rfl) rfl rfl (lt_move rfl) rfl (ts_in 0 0 rfl rfl) ?_
            refine aa_off (bs' := [true, true, true, true, true, true, true, true, true, true, true, true, true, true, true, true, true, true, true, true, true, true, true, true, true, true, false, false, false, false, false, false, false, false, false, false, false, false, false]) 25 rfl (by kernel_rfl) rfl ⟨42, rfl, .inl ⟨_, rfl, gdq (v := true) (nf (decide_eq_false h1621)) rfl⟩⟩ rfl (ts_in 0 0 rfl rfl) ?_
            refine aa_off (bs' := [true, true, true, true, true, true, true, true, true, true, true, true, true, true, true, true, true, true, true, true, true, true, true, true, true, true, true, false, false, false, false, false, false, false, false, false, false, false, false]) 26 rfl (by kernel_rfl) rfl ⟨42, rfl, .inl ⟨_, rfl, gdq (v := true) (nf (decide_eq_false h1621)) rfl⟩⟩ rfl (ts_in 0 0 rfl rfl) ?_
            refine aa_off (bs' := [true, true, true, true, true, true, true, true, true, true, true, true, true, true, true, true, true, true, true, true, true, true, true, true, true, true, true, true, false, false, false, false, false, false, false, false, false, false, false]) 27 rfl (by kernel_rfl) rfl ⟨42, rfl, .inl ⟨_, rfl, gdq (v := true) (nf (decide_eq_false h1621)) rfl⟩⟩ rfl (ts_in 0 0 rfl rfl) ?_
            refine aa_off (bs' := [true, true, true, true, true, true, true, true, true, true, true, true, true, true, true, true, true, true, true, true, true, true, true, true, true, true, true, true, true, false, false, false, false, false, false, false, false, false, false]) 28 rfl (by kernel_rfl) rfl ⟨42, rfl, .inl ⟨_, rfl, gdq (v := true) (nf (decide_eq_false h1621)) rfl⟩⟩ rfl (ts_in 0 0 rfl rfl) ?_
            refine aa_off (bs' := [true, true, true, true, true, true, true, true, true, true, true, true, true, true, true, true, true, true, true, true, true, true, true, true, true, true, true, true, true, true, false, false, false, false, false, false, false, false, false]) 29 rfl (by kernel_rfl) rfl ⟨42, rfl, .inl ⟨_, rfl, gdq (v := true) (nf (decide_eq_false h1621)) rfl⟩⟩ rfl (ts_in 0 0 rfl rfl) ?_
            refine aa_off (bs' := [true, true, true, true, true, true, true, true, true, true, true, true, true, true, true, true, true, true, true, true, true, true, true, true, true, true, true, true, true, true, true, false, false, false, false, false, false, false, false]) 30 rfl (by kernel_rfl) rfl ⟨42, rfl, .inl ⟨_, rfl, gdq (v := true) (nf (decide_eq_false h1621)) rfl⟩⟩ rfl (ts_in 0 0 rfl rfl) ?_
            refine aa_off (bs' := [true, true, true, true, true, true, true, true, true, true, true, true, true, true, true, true, true, true, true, true, true, true, true, true, true, true, true, true, true, true, true, true, false, false, false, false, false, false, false]) 31 rfl (by kernel_rfl) rfl ⟨42, rfl, .inl ⟨_, rfl, gdq (v := true) (nf (decide_eq_false h1621)) rfl⟩⟩ rfl (ts_in 0 0 rfl rfl) ?_
            refine aa_off (bs' := [true, true, true, true, true, true, true, true, true, true, true, true, true, true, true, true, true, true, true, true, true, true, true, true, true, true, true, true, true, true, true, true, true, false, false, false, false, false, false]) 32 rfl (by kernel_rfl) rfl ⟨42, rfl, .inl ⟨_, rfl, gdq (v := true) (nf (decide_eq_false h1621)) rfl⟩⟩ rfl (ts_in 0 0 rfl rfl) ?_
            refine aa_off (bs' := [true, true, true, true, true, true, true, true, true, true, true, true, true, true, true, true, true, true, true, true, true, true, true, true, true, true, true, true, true, true, true, true, true, true, false, false, false, false, false]) 33 rfl (by kernel_rfl) rfl ⟨42, rfl, .inl ⟨_, rfl, gdq (v := true) (nf (decide_eq_false h1621)) rfl⟩⟩ rfl (ts_in 0 0 rfl rfl) ?_
            refine aa_off (bs' := [true, true, true, true, true, true, true, true, true, true, true, true, true, true, true, true, true, true, true, true, true, true, true, true, true, true, true, true, true, true, true, true, true, true, true, false, false, false, false]) 34 rfl (by kernel_rfl) rfl ⟨42, rfl, .inl ⟨_, rfl, gdq (v := true) (nf (decide_eq_false h1621)) rfl⟩⟩ rfl (ts_in 0 0 rfl rfl) ?_
            refine aa_off (bs' := [true, true, true, true, true, true, true, true, true, true, true, true, true, true, true, true, true, true, true, true, true, true, true, true, true, true, true, true, true, true, true, true, true, true, true, true, false, false, false]) 35 rfl (by kernel_rfl) rfl ⟨42, rfl, .inl ⟨_, rfl, gdq (v := true) (nf (decide_eq_false h1621)) rfl⟩⟩ rfl (ts_in 0 0 rfl rfl) ?_
            refine aa_off (bs' := [true, true, true, true, true, true, true, true, true, true, true, true, true, true, true, true, true, true, true, true, true, true, true, true, true, true, true, true, true, true, true, true, true, true, true, true, true, false, false]) 36 rfl (by kernel_rfl) rfl ⟨42, rfl, .inl ⟨_, rfl, gdq (v := true) (nf (decide_eq_false h1621)) rfl⟩⟩ rfl (ts_in 0 0 rfl rfl) ?_
            refine aa_off (bs' := [true, true, true, true, true, true, true, true, true, true, true, true, true, true, true, true, true, true, true, true, true, true, true, true, true, true, true, true, true, true, true, true, true, true, true, true, true, true, false]) 37 rfl (by kernel_rfl) rfl ⟨42, rfl, .inl ⟨_, rfl, gdq (v := true) (nf (decide_eq_false h1621)) rfl⟩⟩ rfl (ts_in 0 0 rfl rfl) ?_
            refine aa_pure (bs' := [true, true, true, true, true, true, true, true, true, true, true, true, true, true, true, true, true, true, true, true, true, true, true, true, true, true, true, true, true, true, true, true, true, true, true, true, true, true, true]) 38 rfl (by kernel_rfl) rfl rfl (lt_pick true rfl (nf (decide_eq_false h1621)) rfl) rfl (ts_in 0 0 rfl rfl) ?_
            refine aa_done (by kernel_rfl) (ts_in 0 0 rfl rfl) ?_
            refine at_then ?_
            refine at_true rfl rfl ?_
            refine at_seq ?_
            refine at_region ?_
            refine at_lt (lt_assign rfl) rfl ?_
            refine at_nil ?_
            refine at_then ?_
            refine at_ret ?_
            have hq := oinj hr
            clear hr
            subst hq
            have hq := oinj hk1598
            clear hk1598
            subst hq
            refine at_then_ret ?_
            refine at_in_ret ?_
            refine at_then_ret ?_
            refine at_then_ret ?_
            refine at_in_ret ?_
            refine at_then_ret ?_
            refine at_then_ret ?_
            exact at_return (.bool false) [] hS Tryz.results21 (.cons (.tmp rfl) .nil) rfl rfl ⟨rfl, rfl⟩
        · replace hr := ineg h1610 hr
          refine aa_start 39 (by kernel_rfl) ?_
          refine aa_pure (bs' := [true, false, false, false, false, false, false, false, false, false, false, false, false, false, false, false, false, false, false, false, false, false, false, false, false, false, false, false, false, false, false, false, false, false, false, false, false, false, false]) 0 rfl (by kernel_rfl) rfl rfl (lt_move rfl) rfl (ts_in 0 0 rfl rfl) ?_
          refine aa_pure (bs' := [true, true, false, false, false, false, false, false, false, false, false, false, false, false, false, false, false, false, false, false, false, false, false, false, false, false, false, false, false, false, false, false, false, false, false, false, false, false, false]) 1 rfl (by kernel_rfl) rfl rfl (lt_move rfl) rfl (ts_in 0 0 rfl rfl) ?_
          refine aa_pure (bs' := [true, true, true, false, false, false, false, false, false, false, false, false, false, false, false, false, false, false, false, false, false, false, false, false, false, false, false, false, false, false, false, false, false, false, false, false, false, false, false]) 2 rfl (by kernel_rfl) rfl rfl (lt_idx rfl rfl pa1604 und22 ti50) rfl (ts_in 0 0 rfl rfl) ?_
          refine aa_pure (bs' := [true, true, true, true, false, false, false, false, false, false, false, false, false, false, false, false, false, false, false, false, false, false, false, false, false, false, false, false, false, false, false, false, false, false, false, false, false, false, false]) 3 rfl (by kernel_rfl) rfl rfl (lt_fieldAddr 0 rfl fld50_0 rfl) rfl (ts_in 0 0 rfl rfl) ?_
          refine aa_load (bs' := [true, true, true, true, true, false, false, false, false, false, false, false, false, false, false, false, false, false, false, false, false, false, false, false, false, false, false, false, false, false, false, false, false, false, false, false, false, false, false]) 4 rfl (by kernel_rfl) rfl rfl (lt_load_peek 9 rfl ti9 rfl rfl rfl rfl rfl) rfl (ts_in 0 0 rfl rfl) ?_
          refine aa_pure (bs' := [true, true, true, true, true, true, false, false, false, false, false, false, false, false, false, false, false, false, false, false, false, false, false, false, false, false, false, false, false, false, false, false, false, false, false, false, false, false, false]) 5 rfl (by kernel_rfl) rfl rfl (lt_move rfl) rfl (ts_in 0 0 rfl rfl) ?_
          refine aa_pure (bs' := [true, true, true, true, true, true, true, false, false, false, false, false, false, false, false, false, false, false, false, false, false, false, false, false, false, false, false, false, false, false, false, false, false, false, false, false, false, false, false]) 6 rfl (by kernel_rfl) rfl rfl (lt_move rfl) rfl (ts_in 0 0 rfl rfl) ?_
          refine aa_pure (bs' := [true, true, true, true, true, true, true, true, false, false, false, false, false, false, false, false, false, false, false, false, false, false, false, false, false, false, false, false, false, false, false, false, false, false, false, false, false, false, false]) 7 rfl (by kernel_rfl) rfl rfl (lt_idx rfl rfl pa1609 und22 ti50) rfl (ts_in 0 0 rfl rfl) ?_
          refine aa_pure (bs' := [true, true, true, true, true, true, true, true, true, false, false, false, false, false, false, false, false, false, false, false, false, false, false, false, false, false, false, false, false, false, false, false, false, false, false, false, false, false, false]) 8 rfl (by kernel_rfl) rfl rfl (lt_fieldAddr 0 rfl fld50_0 rfl) rfl (ts_in 0 0 rfl rfl) ?_
          refine aa_load (bs' := [true, true, true, true, true, true, true, true, true, true, false, false, false, false, false, false, false, false, false, false, false, false, false, false, false, false, false, false, false, false, false, false, false, false, false, false, false, false, false]) 9 rfl (by kernel_rfl) rfl rfl (lt_load_peek 4 rfl ti9 rfl rfl rfl rfl rfl) rfl (ts_in 0 0 rfl rfl) ?_
          refine aa_pure (bs' := [true, true, true, true, true, true, true, true, true, true, true, false, false, false, false, false, false, false, false, false, false, false, false, false, false, false, false, false, false, false, false, false, false, false, false, false, false, false, false]) 10 rfl (by kernel_rfl) rfl rfl (lt_sneq rfl rfl) rfl (ts_in 0 0 rfl rfl) ?_
          refine aa_pure (bs' := [true, true, true, true, true, true, true, true, true, true, true, true, false, false, false, false, false, false, false, false, false, false, false, false, false, false, false, false, false, false, false, false, false, false, false, false, false, false, false]) 11 rfl (by kernel_rfl) rfl rfl (lt_move rfl) rfl (ts_in 0 0 rfl rfl) ?_
          refine aa_off (bs' := [true, true, true, true, true, true, true, true, true, true, true, true, true, false, false, false, false, false, false, false, false, false, false, false, false, false, false, false, false, false, false, false, false, false, false, false, false, false, false]) 12 rfl (by kernel_rfl) rfl ⟨29, rfl, .inl ⟨_, rfl, gdq (v := true) (nf (decide_eq_false h1610)) rfl⟩⟩ rfl (ts_in 0 0 rfl rfl) ?_
          refine aa_off (bs' := [true, true, true, true, true, true, true, true, true, true, true, true, true, true, false, false, false, false, false, false, false, false, false, false, false, false, false, false, false, false, false, false, false, false, false, false, false, false, false]) 13 rfl (by kernel_rfl) rfl ⟨29, rfl, .inl ⟨_, rfl, gdq (v := true) (nf (decide_eq_false h1610)) rfl⟩⟩ rfl (ts_in 0 0 rfl rfl) ?_
          refine aa_off (bs' := [true, true, true, true, true, true, true, true, true, true, true, true, true, true, true, false, false, false, false, false, false, false, false, false, false, false, false, false, false, false, false, false, false, false, false, false, false, false, false]) 14 rfl (by kernel_rfl) rfl ⟨29, rfl, .inl ⟨_, rfl, gdq (v := true) (nf (decide_eq_false h1610)) rfl⟩⟩ rfl (ts_in 0 0 rfl rfl) ?_
          refine aa_off (bs' := [true, true, true, true, true, true, true, true, true, true, true, true, true, true, true, true, false, false, false, false, false, false, false, false, false, false, false, false, false, false, false, false, false, false, false, false, false, false, false]) 15 rfl (by kernel_rfl) rfl ⟨29, rfl, .inl ⟨_, rfl, gdq (v := true) (nf (decide_eq_false h1610)) rfl⟩⟩ rfl (ts_in 0 0 rfl rfl) ?_
          refine aa_off (bs' := [true, true, true, true, true, true, true, true, true, true, true, true, true, true, true, true, true, false, false, false, false, false, false, false, false, false, false, false, false, false, false, false, false, false, false, false, false, false, false]) 16 rfl (by kernel_rfl) rfl ⟨29, rfl, .inl ⟨_, rfl, gdq (v := true) (nf (decide_eq_false h1610)) rfl⟩⟩ rfl (ts_in 0 0 rfl rfl) ?_
          refine aa_off (bs' := [true, true, true, true, true, true, true, true, true, true, true, true, true, true, true, true, true, true, false, false, false, false, false, false, false, false, false, false, false, false, false, false, false, false, false, false, false, false, false]) 17 rfl (by kernel_rfl) rfl ⟨29, rfl, .inl ⟨_, rfl, gdq (v := true) (nf (decide_eq_false h1610)) rfl⟩⟩ rfl (ts_in 0 0 rfl rfl) ?_
          refine aa_off (bs' := [true, true, true, true, true, true, true, true, true, true, true, true, true, true, true, true, true, true, true, false, false, false, false, false, false, false, false, false, false, false, false, false, false, false, false, false, false, false, false]) 18 rfl (by kernel_rfl) rfl ⟨29, rfl, .inl ⟨_, rfl, gdq (v := true) (nf (decide_eq_false h1610)) rfl⟩⟩ rfl (ts_in 0 0 rfl rfl) ?_
          refine aa_off (bs' := [true, true, true, true, true, true, true, true, true, true, true, true, true, true, true, true, true, true, true, true, false, false, false, false, false, false, false, false, false, false, false, false, false, false, false, false, false, false, false]) 19 rfl (by kernel_rfl) rfl ⟨29, rfl, .inl ⟨_, rfl, gdq (v := true) (nf (decide_eq_false h1610)) rfl⟩⟩ rfl (ts_in 0 0 rfl rfl) ?_
          refine aa_off (bs' := [true, true, true, true, true, true, true, true, true, true, true, true, true, true, true, true, true, true, true, true, true, false, false, false, false, false, false, false, false, false, false, false, false, false, false, false, false, false, false]) 20 rfl (by kernel_rfl) rfl ⟨29, rfl, .inl ⟨_, rfl, gdq (v := true) (nf (decide_eq_false h1610)) rfl⟩⟩ rfl (ts_in 0 0 rfl rfl) ?_
          refine aa_off (bs' := [true, true, true, true, true, true, true, true, true, true, true, true, true, true, true, true, true, true, true, true, true, true, false, false, false, false, false, false, false, false, false, false, false, false, false, false, false, false, false]) 21 rfl (by kernel_rfl) rfl ⟨29, rfl, .inl ⟨_, rfl, gdq (v := true) (nf (decide_eq_false h1610)) rfl⟩⟩ rfl (ts_in 0 0 rfl rfl) ?_
          refine aa_off (bs' := [true, true, true, true, true, true, true, true, true, true, true, true, true, true, true, true, true, true, true, true, true, true, true, false, false, false, false, false, false, false, false, false, false, false, false, false, false, false, false]) 22 rfl (by kernel_rfl) rfl ⟨29, rfl, .inl ⟨_, rfl, gdq (v := true) (nf (decide_eq_false h1610)) rfl⟩⟩ rfl (ts_in 0 0 rfl rfl) ?_
          refine aa_pure (bs' := [true, true, true, true, true, true, true, true, true, true, true, true, true, true, true, true, true, true, true, true, true, true, true, true, false, false, false, false, false, false, false, false, false, false, false, false, false, false, false]) 23 rfl (by kernel_rfl) rfl rfl (lt_pick true rfl (nf (decide_eq_false h1610)) rfl) rfl (ts_in 0 0 rfl rfl) ?_
          refine aa_pure (bs' := [true, true, true, true, true, true, true, true, true, true, true, true, true, true, true, true, true, true, true, true, true, true, true, true, true, false, false, false, false, false, false, false, false, false, false, false, false, false, false]) 24 rfl (by kernel_rfl) rfl rfl (lt_move rfl) rfl (ts_in 0 0 rfl rfl) ?_
          refine aa_off (bs' := [true, true, true, true, true, true, true, true, true, true, true, true, true, true, true, true, true, true, true, true, true, true, true, true, true, true, false, false, false, false, false, false, false, false, false, false, false, false, false]) 25 rfl (by kernel_rfl) rfl ⟨42, rfl, .inl ⟨_, rfl, gdq (v := true) rfl rfl⟩⟩ rfl (ts_in 0 0 rfl rfl) ?_
          refine aa_off (bs' := [true, true, true, true, true, true, true, true, true, true, true, true, true, true, true, true, true, true, true, true, true, true, true, true, true, true, true, false, false, false, false, false, false, false, false, false, false, false, false]) 26 rfl (by kernel_rfl) rfl ⟨42, rfl, .inl ⟨_, rfl, gdq (v := true) rfl rfl⟩⟩ rfl (ts_in 0 0 rfl rfl) ?_
          refine aa_off (bs' := [true, true, true, true, true, true, true, true, true, true, true, true, true, true, true, true, true, true, true, true, true, true, true, true, true, true, true, true, false, false, false, false, false, false, false, false, false, false, false]) 27 rfl (by kernel_rfl) rfl ⟨42, rfl, .inl ⟨_, rfl, gdq (v := true) rfl rfl⟩⟩ rfl (ts_in 0 0 rfl rfl) ?_
          refine aa_off (bs' := [true, true, true, true, true, true, true, true, true, true, true, true, true, true, true, true, true, true, true, true, true, true, true, true, true, true, true, true, true, false, false, false, false, false, false, false, false, false, false]) 28 rfl (by kernel_rfl) rfl ⟨42, rfl, .inl ⟨_, rfl, gdq (v := true) rfl rfl⟩⟩ rfl (ts_in 0 0 rfl rfl) ?_
          refine aa_off (bs' := [true, true, true, true, true, true, true, true, true, true, true, true, true, true, true, true, true, true, true, true, true, true, true, true, true, true, true, true, true, true, false, false, false, false, false, false, false, false, false]) 29 rfl (by kernel_rfl) rfl ⟨42, rfl, .inl ⟨_, rfl, gdq (v := true) rfl rfl⟩⟩ rfl (ts_in 0 0 rfl rfl) ?_
          refine aa_off (bs' := [true, true, true, true, true, true, true, true, true, true, true, true, true, true, true, true, true, true, true, true, true, true, true, true, true, true, true, true, true, true, true, false, false, false, false, false, false, false, false]) 30 rfl (by kernel_rfl) rfl ⟨42, rfl, .inl ⟨_, rfl, gdq (v := true) rfl rfl⟩⟩ rfl (ts_in 0 0 rfl rfl) ?_
          refine aa_off (bs' := [true, true, true, true, true, true, true, true, true, true, true, true, true, true, true, true, true, true, true, true, true, true, true, true, true, true, true, true, true, true, true, true, false, false, false, false, false, false, false]) 31 rfl (by kernel_rfl) rfl ⟨42, rfl, .inl ⟨_, rfl, gdq (v := true) rfl rfl⟩⟩ rfl (ts_in 0 0 rfl rfl) ?_
          refine aa_off (bs' := [true, true, true, true, true, true, true, true, true, true, true, true, true, true, true, true, true, true, true, true, true, true, true, true, true, true, true, true, true, true, true, true, true, false, false, false, false, false, false]) 32 rfl (by kernel_rfl) rfl ⟨42, rfl, .inl ⟨_, rfl, gdq (v := true) rfl rfl⟩⟩ rfl (ts_in 0 0 rfl rfl) ?_
          refine aa_off (bs' := [true, true, true, true, true, true, true, true, true, true, true, true, true, true, true, true, true, true, true, true, true, true, true, true, true, true, true, true, true, true, true, true, true, true, false, false, false, false, false]) 33 rfl (by kernel_rfl) rfl ⟨42, rfl, .inl ⟨_, rfl, gdq (v := true) rfl rfl⟩⟩ rfl (ts_in 0 0 rfl rfl) ?_
          refine aa_off (bs' := [true, true, true, true, true, true, true, true, true, true, true, true, true, true, true, true, true, true, true, true, true, true, true, true, true, true, true, true, true, true, true, true, true, true, true, false, false, false, false]) 34 rfl (by kernel_rfl) rfl ⟨42, rfl, .inl ⟨_, rfl, gdq (v := true) rfl rfl⟩⟩ rfl (ts_in 0 0 rfl rfl) ?_
          refine aa_off (bs' := [true, true, true, true, true, true, true, true, true, true, true, true, true, true, true, true, true, true, true, true, true, true, true, true, true, true, true, true, true, true, true, true, true, true, true, true, false, false, false]) 35 rfl (by kernel_rfl) rfl ⟨42, rfl, .inl ⟨_, rfl, gdq (v := true) rfl rfl⟩⟩ rfl (ts_in 0 0 rfl rfl) ?_
          refine aa_off (bs' := [true, true, true, true, true, true, true, true, true, true, true, true, true, true, true, true, true, true, true, true, true, true, true, true, true, true, true, true, true, true, true, true, true, true, true, true, true, false, false]) 36 rfl (by kernel_rfl) rfl ⟨42, rfl, .inl ⟨_, rfl, gdq (v := true) rfl rfl⟩⟩ rfl (ts_in 0 0 rfl rfl) ?_
          refine aa_off (bs' := [true, true, true, true, true, true, true, true, true, true, true, true, true, true, true, true, true, true, true, true, true, true, true, true, true, true, true, true, true, true, true, true, true, true, true, true, true, true, false]) 37 rfl (by kernel_rfl) rfl ⟨42, rfl, .inl ⟨_, rfl, gdq (v := true) rfl rfl⟩⟩ rfl (ts_in 0 0 rfl rfl) ?_
          refine aa_pure (bs' := [true, true, true, true, true, true, true, true, true, true, true, true, true, true, true, true, true, true, true, true, true, true, true, true, true, true, true, true, true, true, true, true, true, true, true, true, true, true, true]) 38 rfl (by kernel_rfl) rfl rfl (lt_pick true rfl rfl rfl) rfl (ts_in 0 0 rfl rfl) ?_
          refine aa_done (by kernel_rfl) (ts_in 0 0 rfl rfl) ?_
          refine at_then ?_
          refine at_true rfl rfl ?_
          refine at_seq ?_
          refine at_region ?_
          refine at_lt (lt_assign rfl) rfl ?_
          refine at_nil ?_
          refine at_then ?_
          refine at_ret ?_
          have hq := oinj hr
          clear hr
          subst hq
          have hq := oinj hk1598
          clear hk1598
          subst hq
          refine at_then_ret ?_
          refine at_in_ret ?_
          refine at_then_ret ?_
          refine at_then_ret ?_
          refine at_in_ret ?_
          refine at_then_ret ?_
          refine at_then_ret ?_
          exact at_return (.bool false) [] hS Tryz.results21 (.cons (.tmp rfl) .nil) rfl rfl ⟨rfl, rfl⟩
      · replace hr := ineg h1599 hr
        refine at_false rfl (decide_eq_false (by omega)) ?_
        refine at_exit ?_
        refine at_then_exit ?_
        refine at_then_exit ?_
        refine at_in_exit ?_
        have hq := oinj hr
        clear hr
        subst hq
        exact at_leafP ((), ()) rfl ⟨trivial, ⟨[], rfl⟩, ⟨[], rfl⟩, ⟨[], rfl⟩⟩
    · rintro ⟨_, _⟩ hp
      replace hr := hk1598
      subst hp
      clear hl1597
      change At _ _ (⟨[], [], [], []⟩ : St) _
      refine at_then ?_
      refine at_seq ?_
      refine at_region ?_
      refine at_lt (lt_assign rfl) rfl ?_
      refine at_nil ?_
      refine at_then ?_
      refine at_ret ?_
      have hq := oinj hr
      clear hr
      subst hq
      exact at_return (.bool true) [] hS Tryz.results21 (.cons (.tmp rfl) .nil) rfl rfl ⟨rfl, rfl⟩
  · replace hr := ineg h1594 hr
    refine at_true rfl (nf (decide_eq_false (by omega))) ?_
    refine at_seq ?_
    refine at_region ?_
    refine at_lt (lt_assign rfl) rfl ?_
    refine at_nil ?_
    refine at_then ?_
    refine at_ret ?_
    have hq := oinj hr
    clear hr
    subst hq
    refine at_then_ret ?_
    exact at_return (.bool false) [] hS Tryz.results21 (.cons (.tmp rfl) .nil) rfl rfl ⟨rfl, rfl⟩
/-! 22 bookplate/bookplatelaw16.Theirs -/
def m22_l2 (a0 : (List D_crosswalk_Entry)) (x1670 : Nat) : Nat → Nat → (List D_ref16_Pair) → Option (List D_ref16_Pair)
  | 0, _, _ => none
  | k + 1, x1695, x1696 =>
    (a0[x1670]?).bind fun x1706 =>
    if x1695 < x1706.Codes.length then
      (a0[x1670]?).bind fun x1714 =>
      (x1714.Codes[x1695]?).bind fun x1719 =>
      if x1696.length + 1 ≤ 70368744177664 then
        m22_l2 a0 x1670 k (x1695 + 1) (x1696 ++ [(⟨x1719.From, x1719.To⟩ : D_ref16_Pair)])
      else none
    else
      some x1696
def m22_l1 (a0 : (List D_crosswalk_Entry)) : Nat → (List D_ref16_Entry) → Nat → Option (List D_ref16_Entry)
  | 0, _, _ => none
  | k + 1, x1669, x1670 =>
    if x1670 < a0.length then
      (a0[x1670]?).bind fun x1683 =>
      (a0[x1670]?).bind fun x1688 =>
      (m22_l2 a0 x1670 9223372036854775808 0 ([] : (List D_ref16_Pair))).bind fun x1700 =>
      if x1669.length + 1 ≤ 2513169434916 then
        m22_l1 a0 k (x1669 ++ [(⟨x1683.From, x1688.To, x1700⟩ : D_ref16_Entry)]) (x1670 + 1)
      else none
    else
      some x1669
def m22 (a0 : (List D_crosswalk_Entry)) : Option (List D_ref16_Entry) :=
  (m22_l1 a0 (a0.length + 1) ([] : (List D_ref16_Entry)) 0).bind fun x1674 =>
  some x1674
def post22 (r : (List D_ref16_Entry)) (v : Value) (fs : List Fact) : Prop := ∃ s1739 : Value, v = s1739 ∧ fs = [((Ty.slice ty50).fact r [s1739])]
theorem en22 : Enters Tryz.prog 22 := ⟨_, Tryz.func22, by kernel_rfl, rfl⟩
theorem f22_spec {a0 : (List D_crosswalk_Entry)} {w1668 : Value} {r : (List D_ref16_Entry)} (hr : m22 a0 = some r) : Spec Tryz.prog 22 [w1668] [((Ty.slice ty76).fact a0 [w1668])] (post22 r) := by
  refine spec_start (N := 52) Tryz.func22 (by kernel_rfl) rfl rfl rfl ?_
  intro g hS
  unfold m22 at hr
  refine at_seq ?_
  refine at_region ?_
  refine at_lt (lt_assign rfl) rfl ?_
  refine at_nil ?_
  refine at_then ?_
  refine at_seq ?_
  refine at_region ?_
  refine at_lt (lt_assign rfl) rfl ?_
  refine at_nil ?_
  refine at_then ?_
  refine at_seq ?_
  refine at_seq ?_
  refine at_region ?_
  refine at_lt (lt_assign rfl) rfl ?_
  refine at_nil ?_
  refine at_then ?_
  refine at_rownew none 50 3 ?_
  refine at_rownil ty50 ?_
  refine at_mkpure (q := (([] : (List D_ref16_Entry)).length * ty50.bytes ≤ 140737488355328)) (by simp only [List.nil_append, List.cons_append, List.length_cons, List.length_nil, ty50_bytes] <;> omega) ?_
  refine at_int .i64 0 (by simp only [lo, hi]; omega) ?_
  replace hr := obind hr
  obtain ⟨x1674, hl1678, hr⟩ := hr
  refine at_cut (V := Value × Nat × (List Value)) (fun e => (⟨[(3, e.1)], [], [⟨e.1, 50, 3, e.2.1, e.2.2⟩], [(ty50.row x1674 e.2.2), (pureF (x1674.length * ty50.bytes ≤ 140737488355328))]⟩ : St)) ?_ ?_
  · refine at_block ?_
    refine at_loopW (σ := ((List D_ref16_Entry) × Nat)) (V := Value × Nat × (List Value)) (r := x1674) (fun n s => m22_l1 a0 n s.1 s.2) (fun s e => (⟨[(0, w1668), (3, e.1), (4, .int .i64 (s.2 : Int))], [], [⟨e.1, 50, 3, e.2.1, e.2.2⟩], [(ty50.row s.1 e.2.2), (pureF (s.1.length * ty50.bytes ≤ 140737488355328)), ((Ty.int .i64).fact (s.2 : Int) [.int .i64 (s.2 : Int)]), ((Ty.slice ty76).fact a0 [w1668])]⟩ : St)) (fun _ => rfl) _ (([] : (List D_ref16_Entry)), 0) ((.slice none 0 0), 0, []) hl1678 ⟨⟨rfl, ⟨rfl, ⟨rfl, trivial⟩⟩⟩, ⟨[], rfl⟩, ⟨[true], rfl⟩, ⟨[2, 1, 0, 3], rfl⟩⟩ ?_
    clear hr hl1678
    intro n s hr e
    obtain ⟨x1669, x1670⟩ := s
    obtain ⟨v1671, n1672, i1673⟩ := e
    change m22_l1 a0 (n + 1) x1669 x1670 = some x1674 at hr
    change At _ _ (⟨[(0, w1668), (3, v1671), (4, .int .i64 (x1670 : Int))], [], [⟨v1671, 50, 3, n1672, i1673⟩], [(ty50.row x1669 i1673), (pureF (x1669.length * ty50.bytes ≤ 140737488355328)), ((Ty.int .i64).fact (x1670 : Int) [.int .i64 (x1670 : Int)]), ((Ty.slice ty76).fact a0 [w1668])]⟩ : St) _
    rw [m22_l1] at hr
    refine at_seq ?_
    refine at_seq ?_
    refine at_region ?_
    refine at_lt (lt_move rfl) rfl ?_
    refine at_lt (lt_move rfl) rfl ?_
    refine at_inv 3 rfl (fun i1680 => ?_)
    have l1681 := slice_len i1680
    refine at_lt (lt_flen 3 rfl rfl und34) rfl ?_
    refine at_lt (lt_lss rfl rfl) rfl ?_
    refine at_nil ?_
    refine at_then ?_
    by_cases h1682 : x1670 < a0.length
    · replace hr := ipos h1682 hr
      refine at_true rfl (decide_eq_true (by omega)) ?_
      refine at_skip ?_
      refine at_then ?_
      refine at_seq ?_
      refine at_block ?_
      refine at_seq ?_
      replace hr := obind hr
      obtain ⟨x1683, h1684, hr⟩ := hr
      have := (List.getElem?_eq_some_iff.1 h1684).1
      refine at_elem 3 rfl (nat_at' h1684) (fun p1686 ec pa1687 => ?_)
      refine at_open (A := Value) 0 rfl _ _ (fun F w h => op76 h) ?_
      rintro s1685 rfl
      replace hr := obind hr
      obtain ⟨x1688, h1689, hr⟩ := hr
      have := (List.getElem?_eq_some_iff.1 h1689).1
      refine at_elem 8 rfl (nat_at' h1689) (fun p1691 ec pa1692 => ?_)
      refine at_open (A := Value) 0 rfl _ _ (fun F w h => op76 h) ?_
      rintro s1690 rfl
      refine aa_start 13 (by kernel_rfl) ?_
      refine aa_pure (bs' := [true, false, false, false, false, false, false, false, false, false, false, false, false]) 0 rfl (by kernel_rfl) rfl rfl (lt_move rfl) rfl (ts_in 0 0 rfl rfl) ?_
      refine aa_pure (bs' := [true, true, false, false, false, false, false, false, false, false, false, false, false]) 1 rfl (by kernel_rfl) rfl rfl (lt_move rfl) rfl (ts_in 0 0 rfl rfl) ?_
      refine aa_pure (bs' := [true, true, true, false, false, false, false, false, false, false, false, false, false]) 2 rfl (by kernel_rfl) rfl rfl (lt_idx rfl rfl pa1687 und34 ti76) rfl (ts_in 0 0 rfl rfl) ?_
      refine aa_pure (bs' := [true, true, true, true, false, false, false, false, false, false, false, false, false]) 3 rfl (by kernel_rfl) rfl rfl (lt_fieldAddr 0 rfl fld76_0 rfl) rfl (ts_in 0 0 rfl rfl) ?_
      refine aa_load (bs' := [true, true, true, true, true, false, false, false, false, false, false, false, false]) 4 rfl (by kernel_rfl) rfl rfl (lt_load_peek 9 rfl ti9 rfl rfl rfl rfl rfl) rfl (ts_in 0 0 rfl rfl) ?_
      refine aa_pure (bs' := [true, true, true, true, true, true, false, false, false, false, false, false, false]) 5 rfl (by kernel_rfl) rfl rfl (lt_move rfl) rfl (ts_in 0 0 rfl rfl) ?_
      refine aa_pure (bs' := [true, true, true, true, true, true, true, false, false, false, false, false, false]) 6 rfl (by kernel_rfl) rfl rfl (lt_move rfl) rfl (ts_in 0 0 rfl rfl) ?_
      refine aa_pure (bs' := [true, true, true, true, true, true, true, true, false, false, false, false, false]) 7 rfl (by kernel_rfl) rfl rfl (lt_idx rfl rfl pa1692 und34 ti76) rfl (ts_in 0 0 rfl rfl) ?_
      refine aa_pure (bs' := [true, true, true, true, true, true, true, true, true, false, false, false, false]) 8 rfl (by kernel_rfl) rfl rfl (lt_fieldAddr 1 rfl fld76_1 rfl) rfl (ts_in 0 0 rfl rfl) ?_
      refine aa_load (bs' := [true, true, true, true, true, true, true, true, true, true, false, false, false]) 9 rfl (by kernel_rfl) rfl rfl (lt_load_peek 4 rfl ti9 rfl rfl rfl rfl rfl) rfl (ts_in 0 0 rfl rfl) ?_
      refine aa_pure (bs' := [true, true, true, true, true, true, true, true, true, true, true, false, false]) 10 rfl (by kernel_rfl) rfl rfl (lt_build (cs := [str x1683.From, str x1688.To, (.slice none 0 0)]) rfl ti50 pl50 rfl) rfl (ts_in 0 0 rfl rfl) ?_
      refine aa_all (rs := [11]) (by kernel_rfl) rfl (ts_in 0 0 rfl rfl) (List.forall_mem_singleton.2 ?_)
      refine aa_op rfl rfl ?_
      refine hv_alloc (cs := [str ([] : Str), str ([] : Str), (.slice none 0 0)]) ti50 rfl rfl (fun b1694 => ?_)
      refine aa_all (rs := [12]) (by kernel_rfl) rfl (ts_in 1 0 rfl rfl) (List.forall_mem_singleton.2 ?_)
      refine aa_op rfl rfl ?_
      refine hv_store_box 0 (cs' := [str x1683.From, str x1688.To, (.slice none 0 0)]) rfl rfl ti50 rfl rfl rfl rfl rfl ?_
      refine aa_done (by kernel_rfl) (ts_in 1 0 rfl rfl) ?_
      refine at_then ?_
      refine at_seq ?_
      refine at_seq ?_
      refine at_region ?_
      refine at_lt (lt_assign rfl) rfl ?_
      refine at_nil ?_
      refine at_then ?_
      refine at_int .i64 0 (by simp only [lo, hi]; omega) ?_
      refine at_rownew none 83 2 ?_
      refine at_rownil ty83 ?_
      refine at_mkpure (q := (([] : (List D_ref16_Pair)).length * ty83.bytes ≤ 140737488355328)) (by simp only [List.nil_append, List.cons_append, List.length_cons, List.length_nil, ty83_bytes] <;> omega) ?_
      replace hr := obind hr
      obtain ⟨x1700, hl1704, hr⟩ := hr
      refine at_cut (V := Value × Nat × (List Value)) (fun e => (⟨[(0, w1668), (3, v1671), (4, .int .i64 (x1670 : Int)), (5, .pointer (some (Addr.add ⟨b1694, 0, none⟩ 0)))], [⟨b1694, [str x1683.From, str x1688.To, e.1], 50⟩], [⟨e.1, 83, 2, e.2.1, e.2.2⟩, ⟨v1671, 50, 3, n1672, i1673⟩], [(ty83.row x1700 e.2.2), (pureF (x1700.length * ty83.bytes ≤ 140737488355328)), ((Ty.slice ty76).fact a0 [w1668]), (ty50.row x1669 i1673), (pureF (x1669.length * ty50.bytes ≤ 140737488355328)), ((Ty.int .i64).fact (x1670 : Int) [.int .i64 (x1670 : Int)]), (Ty.str.fact x1683.From [str x1683.From]), (Ty.str.fact x1688.To [str x1688.To])]⟩ : St)) ?_ ?_
      · refine at_block ?_
        refine at_loopW (σ := (Nat × (List D_ref16_Pair))) (V := Value × Nat × (List Value)) (r := x1700) (fun n s => m22_l2 a0 x1670 n s.1 s.2) (fun s e => (⟨[(0, w1668), (3, v1671), (4, .int .i64 (x1670 : Int)), (5, .pointer (some (Addr.add ⟨b1694, 0, none⟩ 0))), (6, .int .i64 (s.1 : Int))], [⟨b1694, [str x1683.From, str x1688.To, e.1], 50⟩], [⟨e.1, 83, 2, e.2.1, e.2.2⟩, ⟨v1671, 50, 3, n1672, i1673⟩], [((Ty.int .i64).fact (s.1 : Int) [.int .i64 (s.1 : Int)]), (ty83.row s.2 e.2.2), (pureF (s.2.length * ty83.bytes ≤ 140737488355328)), ((Ty.slice ty76).fact a0 [w1668]), (ty50.row x1669 i1673), (pureF (x1669.length * ty50.bytes ≤ 140737488355328)), ((Ty.int .i64).fact (x1670 : Int) [.int .i64 (x1670 : Int)]), (Ty.str.fact x1683.From [str x1683.From]), (Ty.str.fact x1688.To [str x1688.To])]⟩ : St)) (fun _ => rfl) _ (0, ([] : (List D_ref16_Pair))) ((.slice none 0 0), 0, []) hl1704 ⟨⟨rfl, ⟨rfl, ⟨rfl, ⟨rfl, ⟨rfl, trivial⟩⟩⟩⟩⟩, ⟨[true], rfl⟩, ⟨[true, true], rfl⟩, ⟨[2, 1, 0, 16, 13, 14, 15, 8, 4], rfl⟩⟩ ?_
        clear hr hl1704
        intro n s hr e
        obtain ⟨x1695, x1696⟩ := s
        obtain ⟨v1697, n1698, i1699⟩ := e
        change m22_l2 a0 x1670 (n + 1) x1695 x1696 = some x1700 at hr
        change At _ _ (⟨[(0, w1668), (3, v1671), (4, .int .i64 (x1670 : Int)), (5, .pointer (some (Addr.add ⟨b1694, 0, none⟩ 0))), (6, .int .i64 (x1695 : Int))], [⟨b1694, [str x1683.From, str x1688.To, v1697], 50⟩], [⟨v1697, 83, 2, n1698, i1699⟩, ⟨v1671, 50, 3, n1672, i1673⟩], [((Ty.int .i64).fact (x1695 : Int) [.int .i64 (x1695 : Int)]), (ty83.row x1696 i1699), (pureF (x1696.length * ty83.bytes ≤ 140737488355328)), ((Ty.slice ty76).fact a0 [w1668]), (ty50.row x1669 i1673), (pureF (x1669.length * ty50.bytes ≤ 140737488355328)), ((Ty.int .i64).fact (x1670 : Int) [.int .i64 (x1670 : Int)]), (Ty.str.fact x1683.From [str x1683.From]), (Ty.str.fact x1688.To [str x1688.To])]⟩ : St) _
        rw [m22_l2] at hr
        refine at_seq ?_
        refine at_seq ?_
        refine at_region ?_
        refine at_lt (lt_move rfl) rfl ?_
        refine at_lt (lt_move rfl) rfl ?_
        refine at_lt (lt_move rfl) rfl ?_
        replace hr := obind hr
        obtain ⟨x1706, h1707, hr⟩ := hr
        have := (List.getElem?_eq_some_iff.1 h1707).1
        refine at_elem 3 rfl (nat_at' h1707) (fun p1709 ec pa1710 => ?_)
        refine at_open (A := Value) 0 rfl _ _ (fun F w h => op76 h) ?_
        rintro s1708 rfl
        refine at_lt (lt_idx rfl rfl pa1710 und34 ti76) rfl ?_
        refine at_lt (lt_fieldAddr 2 rfl fld76_2 rfl) rfl ?_
        refine at_lt (lt_load_peek 4 rfl ti74 rfl rfl rfl rfl rfl) rfl ?_
        refine at_inv 2 rfl (fun i1711 => ?_)
        have l1712 := slice_len i1711
        refine at_lt (lt_flen 2 rfl rfl und74) rfl ?_
        refine at_lt (lt_lss rfl rfl) rfl ?_
        refine at_nil ?_
        refine at_then ?_
        by_cases h1713 : x1695 < x1706.Codes.length
        · replace hr := ipos h1713 hr
          refine at_true rfl (decide_eq_true (by omega)) ?_
          refine at_skip ?_
          refine at_then ?_
          refine at_seq ?_
          refine at_block ?_
          replace hr := obind hr
          obtain ⟨x1714, h1715, hr⟩ := hr
          have := (List.getElem?_eq_some_iff.1 h1715).1
          refine at_elem 8 rfl (nat_at' h1715) (fun p1717 ec pa1718 => ?_)
          refine at_open (A := Value) 0 rfl _ _ (fun F w h => op76 h) ?_
          rintro s1716 rfl
          replace hr := obind hr
          obtain ⟨x1719, h1720, hr⟩ := hr
          have := (List.getElem?_eq_some_iff.1 h1720).1
          refine at_elem 2 rfl (nat_at' h1720) (fun p1721 ec pa1722 => ?_)
          refine at_open (A := Unit) 0 rfl _ _ (fun F w h => op82 h) ?_
          rintro _ rfl
          replace hr := imust hr
          obtain ⟨h1724, hr⟩ := hr
          refine aa_start 13 (by kernel_rfl) ?_
          refine aa_pure (bs' := [true, false, false, false, false, false, false, false, false, false, false, false, false, false]) 0 rfl (by kernel_rfl) rfl rfl (lt_fieldAddr 2 rfl fld50_2 rfl) rfl (ts_in 0 0 rfl rfl) ?_
          refine aa_load (bs' := [true, true, false, false, false, false, false, false, false, false, false, false, false, false]) 1 rfl (by kernel_rfl) rfl rfl (lt_load_box 0 rfl ti48 rfl rfl rfl rfl rfl) rfl (ts_in 0 0 rfl rfl) ?_
          refine aa_pure (bs' := [true, true, true, false, false, false, false, false, false, false, false, false, false, false]) 2 rfl (by kernel_rfl) rfl rfl (lt_move rfl) rfl (ts_in 0 0 rfl rfl) ?_
          refine aa_pure (bs' := [true, true, true, true, false, false, false, false, false, false, false, false, false, false]) 3 rfl (by kernel_rfl) rfl rfl (lt_move rfl) rfl (ts_in 0 0 rfl rfl) ?_
          refine aa_pure (bs' := [true, true, true, true, true, false, false, false, false, false, false, false, false, false]) 4 rfl (by kernel_rfl) rfl rfl (lt_idx rfl rfl pa1718 und34 ti76) rfl (ts_in 0 0 rfl rfl) ?_
          refine aa_pure (bs' := [true, true, true, true, true, true, false, false, false, false, false, false, false, false]) 5 rfl (by kernel_rfl) rfl rfl (lt_fieldAddr 2 rfl fld76_2 rfl) rfl (ts_in 0 0 rfl rfl) ?_
          refine aa_load (bs' := [true, true, true, true, true, true, true, false, false, false, false, false, false, false]) 6 rfl (by kernel_rfl) rfl rfl (lt_load_peek 6 rfl ti74 rfl rfl rfl rfl rfl) rfl (ts_in 0 0 rfl rfl) ?_
          refine aa_pure (bs' := [true, true, true, true, true, true, true, true, false, false, false, false, false, false]) 7 rfl (by kernel_rfl) rfl rfl (lt_move rfl) rfl (ts_in 0 0 rfl rfl) ?_
          refine aa_pure (bs' := [true, true, true, true, true, true, true, true, true, false, false, false, false, false]) 8 rfl (by kernel_rfl) rfl rfl (lt_idx rfl rfl pa1722 und74 ti82) rfl (ts_in 0 0 rfl rfl) ?_
          refine aa_load (bs' := [true, true, true, true, true, true, true, true, true, true, false, false, false, false]) 9 rfl (by kernel_rfl) rfl rfl (lt_load_peek 1 rfl ti82 rfl rfl rfl rfl rfl) rfl (ts_in 0 0 rfl rfl) ?_
          refine aa_all (rs := [10]) (by kernel_rfl) rfl (ts_in 0 0 rfl rfl) (List.forall_mem_singleton.2 ?_)
          refine aa_op rfl rfl ?_
          refine hv_bslice (cs := [.int .u8 (x1719.From.toNat : Int), .int .u8 (x1719.To.toNat : Int)]) rfl und48 ti83 rfl rfl rfl rfl rfl (fun s1728 => ?_)
          refine aa_all (rs := [11]) (by kernel_rfl) rfl (ts_in 0 0 rfl rfl) (List.forall_mem_singleton.2 ?_)
          refine at_derive [] (ty83.fact (⟨x1719.From, x1719.To⟩ : D_ref16_Pair) [.int .u8 (x1719.From.toNat : Int), .int .u8 (x1719.To.toNat : Int)]) rfl (fun F w h => mk83 (x := (⟨x1719.From, x1719.To⟩ : D_ref16_Pair)) h) ?_
          refine at_rown 1 14 rfl rfl rfl (fun hn1730 => ?_)
          refine aa_op rfl rfl ?_
          refine hv_append 1 0 rfl rfl rfl rfl und48 ti83 rfl rfl rfl (by omega) (by omega) rfl (fun s1729 => ?_)
          refine at_rowsnoc 14 0 rfl rfl ?_
          refine aa_pure (bs' := [true, true, true, true, true, true, true, true, true, true, true, true, true, false]) 12 rfl (by kernel_rfl) rfl rfl (lt_fieldAddr 2 rfl fld50_2 rfl) rfl (ts_in 0 2 rfl rfl) ?_
          refine aa_all (rs := [13]) (by kernel_rfl) rfl (ts_in 0 2 rfl rfl) (List.forall_mem_singleton.2 ?_)
          refine at_rowv 1 rfl (fun ho1731 => ?_)
          replace ho1731 := row_one (by obtain ⟨a, c, h⟩ := ho1731; exact ⟨a, _, c, h⟩)
          refine aa_op rfl rfl ?_
          refine hv_store1 0 (cs' := [str x1683.From, str x1688.To, s1729]) rfl rfl ti48 rfl rfl rfl rfl ho1731 ?_
          refine aa_done (by kernel_rfl) (ts_out rfl) ?_
          refine at_in ?_
          refine at_then ?_
          refine at_region ?_
          refine at_lt (lt_move rfl) rfl ?_
          refine at_lt (lt_add rfl rfl (by simp only [lo, hi]; omega)) rfl ?_
          refine at_lt (lt_assign rfl) rfl ?_
          refine at_nil ?_
          refine at_int .i64 (x1695 + 1 : Int) (by simp only [lo, hi]; omega) ?_
          refine at_mkpure (q := ((x1696 ++ [(⟨x1719.From, x1719.To⟩ : D_ref16_Pair)]).length * ty83.bytes ≤ 140737488355328)) (by simp only [List.length_append, List.length_cons, List.length_nil, ty83_bytes] <;> omega) ?_
          exact at_again (σ := (Nat × (List D_ref16_Pair))) (V := Value × Nat × (List Value)) (lp := fun n s => m22_l2 a0 x1670 n s.1 s.2) (S := fun s e => (⟨[(0, w1668), (3, v1671), (4, .int .i64 (x1670 : Int)), (5, .pointer (some (Addr.add ⟨b1694, 0, none⟩ 0))), (6, .int .i64 (s.1 : Int))], [⟨b1694, [str x1683.From, str x1688.To, e.1], 50⟩], [⟨e.1, 83, 2, e.2.1, e.2.2⟩, ⟨v1671, 50, 3, n1672, i1673⟩], [((Ty.int .i64).fact (s.1 : Int) [.int .i64 (s.1 : Int)]), (ty83.row s.2 e.2.2), (pureF (s.2.length * ty83.bytes ≤ 140737488355328)), ((Ty.slice ty76).fact a0 [w1668]), (ty50.row x1669 i1673), (pureF (x1669.length * ty50.bytes ≤ 140737488355328)), ((Ty.int .i64).fact (x1670 : Int) [.int .i64 (x1670 : Int)]), (Ty.str.fact x1683.From [str x1683.From]), (Ty.str.fact x1688.To [str x1688.To])]⟩ : St)) (x1695 + 1, x1696 ++ [(⟨x1719.From, x1719.To⟩ : D_ref16_Pair)]) (s1729, n1698 + 1, i1699 ++ [.int .u8 (x1719.From.toNat : Int), .int .u8 (x1719.To.toNat : Int)]) hr ⟨⟨rfl, ⟨rfl, ⟨rfl, ⟨rfl, ⟨rfl, trivial⟩⟩⟩⟩⟩, ⟨[true], rfl⟩, ⟨[false, true, true], rfl⟩, ⟨[1, 2, 0, 19, 20, 21, 22, 23, 24], rfl⟩⟩
        · replace hr := ineg h1713 hr
          refine at_false rfl (decide_eq_false (by omega)) ?_
          refine at_exit ?_
          refine at_then_exit ?_
          refine at_then_exit ?_
          refine at_in_exit ?_
          have hq := oinj hr
          clear hr
          subst hq
          exact at_leaf (v1697, n1698, i1699) ⟨⟨rfl, ⟨rfl, ⟨rfl, ⟨rfl, trivial⟩⟩⟩⟩, ⟨[true], rfl⟩, ⟨[true, true], rfl⟩, ⟨[6, 7, 8, 9, 10, 11, 12, 13], rfl⟩⟩
      · clear hl1704
        intro e
        obtain ⟨v1701, n1702, i1703⟩ := e
        change At _ _ (⟨[(0, w1668), (3, v1671), (4, .int .i64 (x1670 : Int)), (5, .pointer (some (Addr.add ⟨b1694, 0, none⟩ 0)))], [⟨b1694, [str x1683.From, str x1688.To, v1701], 50⟩], [⟨v1701, 83, 2, n1702, i1703⟩, ⟨v1671, 50, 3, n1672, i1673⟩], [(ty83.row x1700 i1703), (pureF (x1700.length * ty83.bytes ≤ 140737488355328)), ((Ty.slice ty76).fact a0 [w1668]), (ty50.row x1669 i1673), (pureF (x1669.length * ty50.bytes ≤ 140737488355328)), ((Ty.int .i64).fact (x1670 : Int) [.int .i64 (x1670 : Int)]), (Ty.str.fact x1683.From [str x1683.From]), (Ty.str.fact x1688.To [str x1688.To])]⟩ : St) _
        refine at_then ?_
        refine at_region ?_
        refine at_lt (lt_move rfl) rfl ?_
        refine at_lt (lt_load_box 0 rfl ti50 rfl rfl rfl rfl rfl) rfl ?_
        refine at_hv rfl ?_
        refine hv_bslice (cs := [str x1683.From, str x1688.To, v1701]) rfl und22 ti50 rfl rfl rfl rfl rfl (fun s1732 => ?_)
        replace hr := imust hr
        obtain ⟨h1733, hr⟩ := hr
        refine at_pure 1 rfl (fun hb1735 => ?_)
        refine at_release 1 0 rfl rfl rfl hb1735 ?_
        refine at_derive [7, 8, 0] (ty50.fact (⟨x1683.From, x1688.To, x1700⟩ : D_ref16_Entry) [str x1683.From, str x1688.To, v1701]) rfl (fun F w h => mk50 (x := (⟨x1683.From, x1688.To, x1700⟩ : D_ref16_Entry)) h) ?_
        refine at_rown 1 5 rfl rfl rfl (fun hn1736 => ?_)
        refine at_one 1 rfl (fun ho1737 => ?_)
        refine at_hv rfl ?_
        refine hv_append 1 0 rfl rfl rfl rfl und22 ti50 rfl rfl (allc rfl (allc rfl (allc ho1737 rfl))) (by omega) (by omega) rfl (fun s1734 => ?_)
        refine at_rowsnoc 5 0 rfl rfl ?_
        refine at_lt (lt_assign rfl) rfl ?_
        refine at_nil ?_
        refine at_in ?_
        refine at_then ?_
        refine at_region ?_
        refine at_lt (lt_move rfl) rfl ?_
        refine at_lt (lt_add rfl rfl (by simp only [lo, hi]; omega)) rfl ?_
        refine at_lt (lt_assign rfl) rfl ?_
        refine at_nil ?_
        refine at_mkpure (q := ((x1669 ++ [(⟨x1683.From, x1688.To, x1700⟩ : D_ref16_Entry)]).length * ty50.bytes ≤ 140737488355328)) (by simp only [List.length_append, List.length_cons, List.length_nil, ty50_bytes] <;> omega) ?_
        refine at_int .i64 (x1670 + 1 : Int) (by simp only [lo, hi]; omega) ?_
        exact at_again (σ := ((List D_ref16_Entry) × Nat)) (V := Value × Nat × (List Value)) (lp := fun n s => m22_l1 a0 n s.1 s.2) (S := fun s e => (⟨[(0, w1668), (3, e.1), (4, .int .i64 (s.2 : Int))], [], [⟨e.1, 50, 3, e.2.1, e.2.2⟩], [(ty50.row s.1 e.2.2), (pureF (s.1.length * ty50.bytes ≤ 140737488355328)), ((Ty.int .i64).fact (s.2 : Int) [.int .i64 (s.2 : Int)]), ((Ty.slice ty76).fact a0 [w1668])]⟩ : St)) (x1669 ++ [(⟨x1683.From, x1688.To, x1700⟩ : D_ref16_Entry)], x1670 + 1) (s1734, n1672 + 1, i1673 ++ [str x1683.From, str x1688.To, v1701]) hr ⟨⟨rfl, ⟨rfl, ⟨rfl, trivial⟩⟩⟩, ⟨[false], rfl⟩, ⟨[false, true], rfl⟩, ⟨[2, 1, 0, 7], rfl⟩⟩
    · replace hr := ineg h1682 hr
      refine at_false rfl (decide_eq_false (by omega)) ?_
      refine at_exit ?_
      refine at_then_exit ?_
      refine at_then_exit ?_
      refine at_in_exit ?_
      have hq := oinj hr
      clear hr
      subst hq
      exact at_leaf (v1671, n1672, i1673) ⟨⟨rfl, trivial⟩, ⟨[], rfl⟩, ⟨[true], rfl⟩, ⟨[0, 1], rfl⟩⟩
  · clear hl1678
    intro e
    obtain ⟨v1675, n1676, i1677⟩ := e
    change At _ _ (⟨[(3, v1675)], [], [⟨v1675, 50, 3, n1676, i1677⟩], [(ty50.row x1674 i1677), (pureF (x1674.length * ty50.bytes ≤ 140737488355328))]⟩ : St) _
    refine at_then ?_
    refine at_seq ?_
    refine at_region ?_
    refine at_lt (lt_move rfl) rfl ?_
    refine at_lt (lt_assign rfl) rfl ?_
    refine at_nil ?_
    refine at_then ?_
    refine at_ret ?_
    have hq := oinj hr
    clear hr
    subst hq
    refine at_pure 1 rfl (fun hb1738 => ?_)
    refine at_release 0 0 rfl rfl rfl hb1738 ?_
    exact at_return (v1675) [0] hS Tryz.results22 (.cons (.tmp rfl) .nil) rfl rfl ⟨v1675, rfl, rfl⟩
/-! 23 bookplate/crosswalk.Print -/
def m23_l1 (a0 : (List D_crosswalk_Entry)) : Nat → Str → Nat → Option Str
  | 0, _, _ => none
  | k + 1, x1746, x1747 =>
    if x1747 < a0.length then
      (a0[x1747]?).bind fun x1752 =>
      (m54 (⟨x1752.From, x1752.To, x1752.Codes⟩ : D_crosswalk_Entry)).bind fun x1759 =>
      if x1759.length + ([10] : Str).length ≤ 9223372036854775807 then
        if x1746.length + (x1759 ++ ([10] : Str)).length ≤ 9223372036854775807 then
          m23_l1 a0 k (x1746 ++ (x1759 ++ ([10] : Str))) (x1747 + 1)
        else none
      else none
    else
      some x1746
def m23 (a0 : (List D_crosswalk_Entry)) : Option (Str × Int) :=
  (m27 a0).bind fun x1741 =>
  if x1741 = true then
    (m23_l1 a0 (a0.length + 1) ([] : Str) 0).bind fun x1748 =>
    some (x1748, 0)
  else
    some (([] : Str), 1)
def post23 (r : (Str × Int)) (v : Value) (fs : List Fact) : Prop := v = .tuple #[str r.1, .int .i64 r.2] ∧ fs = [(Ty.str.fact r.1 [str r.1]), ((Ty.int .i64).fact r.2 [.int .i64 r.2])]
theorem en23 : Enters Tryz.prog 23 := ⟨_, Tryz.func23, by kernel_rfl, rfl⟩
theorem f23_spec {a0 : (List D_crosswalk_Entry)} {w1740 : Value} {r : (Str × Int)} (hr : m23 a0 = some r) : Spec Tryz.prog 23 [w1740] [((Ty.slice ty76).fact a0 [w1740])] (post23 r) := by
  refine spec_start (N := 23) Tryz.func23 (by kernel_rfl) rfl rfl rfl ?_
  intro g hS
  unfold m23 at hr
  refine at_seq ?_
  refine at_region ?_
  refine at_lt (lt_assign rfl) rfl ?_
  refine at_lt (lt_assign rfl) rfl ?_
  refine at_nil ?_
  refine at_then ?_
  refine at_seq ?_
  refine at_seq ?_
  refine at_region ?_
  refine at_lt (lt_move rfl) rfl ?_
  replace hr := obind hr
  obtain ⟨x1741, h1742, hr⟩ := hr
  refine at_hv rfl ?_
  refine hv_call0 [0] (f27_spec h1742) rfl rfl rfl rfl ?_
  rintro _ _ ⟨rfl, rfl⟩
  refine at_lt (lt_not rfl) rfl ?_
  refine at_nil ?_
  refine at_then ?_
  by_cases h1743 : x1741 = true
  · replace hr := ipos h1743 hr
    refine at_false rfl (nt h1743) ?_
    refine at_skip ?_
    refine at_then ?_
    refine at_seq ?_
    refine at_region ?_
    refine at_lt (lt_assign rfl) rfl ?_
    refine at_nil ?_
    refine at_then ?_
    refine at_seq ?_
    refine at_seq ?_
    refine at_region ?_
    refine at_lt (lt_move rfl) rfl ?_
    refine at_inv 0 rfl (fun i1744 => ?_)
    have l1745 := slice_len i1744
    refine at_lt (lt_flen 0 rfl rfl und34) rfl ?_
    refine at_lt (lt_move rfl) rfl ?_
    refine at_nil ?_
    refine at_then ?_
    refine at_str ([] : Str) (by decide) ?_
    refine at_int .i64 0 (by simp only [lo, hi]; omega) ?_
    replace hr := obind hr
    obtain ⟨x1748, hl1749, hr⟩ := hr
    refine at_cut (V := Unit) (fun e => (⟨[(4, str x1748)], [], [], [(Ty.str.fact x1748 [str x1748])]⟩ : St)) ?_ ?_
    · refine at_block ?_
      refine at_loopW (σ := (Str × Nat)) (V := Unit) (r := x1748) (fun n s => m23_l1 a0 n s.1 s.2) (fun s e => (⟨[(4, str s.1), (10, w1740), (11, .int .i64 (a0.length : Int)), (12, .int .i64 (s.2 : Int))], [], [], [(Ty.str.fact s.1 [str s.1]), ((Ty.int .i64).fact (s.2 : Int) [.int .i64 (s.2 : Int)]), ((Ty.slice ty76).fact a0 [w1740])]⟩ : St)) (fun _ => rfl) _ (([] : Str), 0) () hl1749 ⟨⟨rfl, ⟨rfl, ⟨rfl, ⟨rfl, trivial⟩⟩⟩⟩, ⟨[], rfl⟩, ⟨[], rfl⟩, ⟨[1, 0, 2], rfl⟩⟩ ?_
      clear hr hl1749
      intro n s hr e
      obtain ⟨x1746, x1747⟩ := s
      skip
      change m23_l1 a0 (n + 1) x1746 x1747 = some x1748 at hr
      change At _ _ (⟨[(4, str x1746), (10, w1740), (11, .int .i64 (a0.length : Int)), (12, .int .i64 (x1747 : Int))], [], [], [(Ty.str.fact x1746 [str x1746]), ((Ty.int .i64).fact (x1747 : Int) [.int .i64 (x1747 : Int)]), ((Ty.slice ty76).fact a0 [w1740])]⟩ : St) _
      rw [m23_l1] at hr
      refine at_seq ?_
      refine at_region ?_
      refine at_lt (lt_lss rfl rfl) rfl ?_
      refine at_nil ?_
      refine at_then ?_
      refine at_seq ?_
      by_cases h1751 : x1747 < a0.length
      · replace hr := ipos h1751 hr
        refine at_true rfl (decide_eq_true (by omega)) ?_
        refine at_skip ?_
        refine at_then ?_
        refine at_seq ?_
        refine at_block ?_
        refine at_seq ?_
        refine at_region ?_
        replace hr := obind hr
        obtain ⟨x1752, h1753, hr⟩ := hr
        have := (List.getElem?_eq_some_iff.1 h1753).1
        refine at_elem 2 rfl (nat_at' h1753) (fun p1755 ec pa1756 => ?_)
        refine at_open (A := Value) 0 rfl _ _ (fun F w h => op76 h) ?_
        rintro s1754 rfl
        refine at_lt (lt_idx rfl rfl pa1756 und34 ti76) rfl ?_
        refine at_lt (lt_load_peek 4 rfl ti76 rfl rfl rfl rfl rfl) rfl ?_
        refine at_hv rfl ?_
        refine hv_alloc (cs := [str ([] : Str), str ([] : Str), (.slice none 0 0)]) ti76 rfl rfl (fun b1757 => ?_)
        refine at_one 2 rfl (fun ho1758 => ?_)
        refine at_hv rfl ?_
        refine hv_store_box 0 (cs' := [str x1752.From, str x1752.To, s1754]) rfl rfl ti76 rfl rfl rfl rfl (allc rfl (allc rfl (allc ho1758 rfl))) ?_
        refine at_nil ?_
        refine at_then ?_
        refine at_region ?_
        refine at_lt (lt_move rfl) rfl ?_
        refine at_lt (lt_load_box 0 rfl ti76 rfl rfl rfl rfl rfl) rfl ?_
        replace hr := obind hr
        obtain ⟨x1759, h1760, hr⟩ := hr
        refine at_derive [0, 1, 2] (ty76.fact (⟨x1752.From, x1752.To, x1752.Codes⟩ : D_crosswalk_Entry) [str x1752.From, str x1752.To, s1754]) rfl (fun F w h => mk76 (x := (⟨x1752.From, x1752.To, x1752.Codes⟩ : D_crosswalk_Entry)) h) ?_
        refine at_hv rfl ?_
        refine hv_call0 [0] (f54_spec h1760) rfl rfl rfl rfl ?_
        rintro _ _ ⟨rfl, rfl⟩
        replace hr := imust hr
        obtain ⟨h1761, hr⟩ := hr
        refine at_lt (lt_sadd rfl rfl h1761) rfl ?_
        replace hr := imust hr
        obtain ⟨h1762, hr⟩ := hr
        refine at_lt (lt_sadd rfl rfl h1762) rfl ?_
        refine at_lt (lt_assign rfl) rfl ?_
        refine at_nil ?_
        refine at_in ?_
        refine at_then ?_
        refine at_region ?_
        refine at_inv 0 rfl (fun l1763 => ?_)
        replace l1763 : x1759.length ≤ 9223372036854775807 := l1763
        refine at_inv 7 rfl (fun l1764 => ?_)
        replace l1764 : x1746.length ≤ 9223372036854775807 := l1764
        refine at_lt (lt_add rfl rfl (by simp only [lo, hi]; omega)) rfl ?_
        refine at_lt (lt_move rfl) rfl ?_
        refine at_nil ?_
        refine at_str (x1746 ++ (x1759 ++ ([10] : Str))) (by rw [List.length_append]; exact h1762) ?_
        refine at_int .i64 (x1747 + 1 : Int) (by simp only [lo, hi]; omega) ?_
        exact at_again (σ := (Str × Nat)) (V := Unit) (lp := fun n s => m23_l1 a0 n s.1 s.2) (S := fun s e => (⟨[(4, str s.1), (10, w1740), (11, .int .i64 (a0.length : Int)), (12, .int .i64 (s.2 : Int))], [], [], [(Ty.str.fact s.1 [str s.1]), ((Ty.int .i64).fact (s.2 : Int) [.int .i64 (s.2 : Int)]), ((Ty.slice ty76).fact a0 [w1740])]⟩ : St)) (x1746 ++ (x1759 ++ ([10] : Str)), x1747 + 1) () hr ⟨⟨rfl, ⟨rfl, ⟨rfl, ⟨rfl, trivial⟩⟩⟩⟩, ⟨[false], rfl⟩, ⟨[], rfl⟩, ⟨[1, 0, 11], rfl⟩⟩
      · replace hr := ineg h1751 hr
        refine at_false rfl (decide_eq_false (by omega)) ?_
        refine at_exit ?_
        refine at_then_exit ?_
        refine at_then_exit ?_
        refine at_in_exit ?_
        have hq := oinj hr
        clear hr
        subst hq
        exact at_leaf () ⟨⟨rfl, trivial⟩, ⟨[], rfl⟩, ⟨[], rfl⟩, ⟨[0], rfl⟩⟩
    · clear hl1749
      intro e
      change At _ _ (⟨[(4, str x1748)], [], [], [(Ty.str.fact x1748 [str x1748])]⟩ : St) _
      refine at_then ?_
      refine at_seq ?_
      refine at_region ?_
      refine at_lt (lt_move rfl) rfl ?_
      refine at_lt (lt_assign rfl) rfl ?_
      refine at_lt (lt_assign rfl) rfl ?_
      refine at_nil ?_
      refine at_then ?_
      refine at_ret ?_
      have hq := oinj hr
      clear hr
      subst hq
      refine at_int .i64 0 (by simp only [lo, hi]; omega) ?_
      exact at_return (.tuple #[str x1748, .int .i64 0]) [1, 0] hS Tryz.results23 (.cons (.tmp rfl) (.cons (.tmp rfl) .nil)) rfl rfl ⟨rfl, rfl⟩
  · replace hr := ineg h1743 hr
    refine at_true rfl (nf (bf h1743)) ?_
    refine at_seq ?_
    refine at_region ?_
    refine at_lt (lt_assign rfl) rfl ?_
    refine at_lt (lt_assign rfl) rfl ?_
    refine at_nil ?_
    refine at_then ?_
    refine at_ret ?_
    have hq := oinj hr
    clear hr
    subst hq
    refine at_then_ret ?_
    refine at_str ([] : Str) (by decide) ?_
    refine at_int .i64 1 (by simp only [lo, hi]; omega) ?_
    exact at_return (.tuple #[str ([] : Str), .int .i64 1]) [1, 0] hS Tryz.results23 (.cons (.tmp rfl) (.cons (.tmp rfl) .nil)) rfl rfl ⟨rfl, rfl⟩
end Go.WK.S
