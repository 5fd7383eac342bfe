
/- What functions of this program compute: a model of each, and the proof that it is kept. -/
import Derived.Test.YteljaomifdnkkaaGreatDoorCompareF03
import Derived.KernelRfl
set_option linter.unusedSimpArgs false
set_option linter.unusedVariables false
namespace Go.WK.S
open Go Go.Proofs Go.WK Go.RowKit
set_option linter.unusedVariables false
set_option maxRecDepth 100000
set_option maxHeartbeats 4000000
def m27_l1 (a0 : D_api_Record) : Nat → Nat → Option (Fl Bool Unit)
  | 0, _ => none
  | k + 1, x1332 =>
    if x1332 < a0.Fields.length then
     (a0.Fields[x1332]?).bind fun x1337 =>
     (m36 x1337).bind fun x1342 =>
     if x1342 = true then
      m27_l1 a0 k (x1332 + 1)
     else
      some (Fl.ret false)
    else
     some (Fl.go ())
def m27 (a0 : D_api_Record) : Option Bool :=
  if a0.ID < 1 then
   some false
  else
   if (1000000000 : Int) < a0.ID then
    some false
   else
    if a0.Fields.length < 1 then
     some false
    else
     if 60 < a0.Fields.length then
      some false
     else
      (m27_l1 a0 (a0.Fields.length + 1) 0).bind fun r => match r with
      | .ret x => some x
      | .go _ =>
       some true
def post27 (r : Bool) (v : Value) (fs : List Fact) : Prop := v = .bool r ∧ fs = []
theorem en27 : Enters Tryz.prog 27 := ⟨_, Tryz.func27, by kernel_rfl, rfl⟩
theorem f27_spec {a0 : D_api_Record} {s1323 : Value} {r : Bool} (hr : m27 a0 = some r) : Spec Tryz.prog 27 [.agg #[.int .i64 a0.ID, s1323]] [(ty24.fact a0 [.int .i64 a0.ID, s1323])] (post27 r) := by
 refine spec_start (N := 38) Tryz.func27 (by kernel_rfl) rfl rfl rfl ?_
 intro g hS
 unfold m27 at hr
 refine at_open (A := Unit) 0 rfl (fun _ => True) (fun _ => [((Ty.int .i64).fact a0.ID [.int .i64 a0.ID]), ((Ty.slice ty59).fact a0.Fields [s1323])]) (fun F w h => ⟨(), trivial, ex24 h⟩) (fun _ _ => ?_)
 refine at_inv 0 rfl (fun l1324 => ?_)
 replace l1324 : (-9223372036854775808) ≤ a0.ID ∧ a0.ID ≤ 9223372036854775807 := l1324
 refine s_sr (at_hv rfl ?_)
 refine hv_box (cs := [.int .i64 a0.ID, s1323]) rfl rfl rfl (fun b1325 => ?_)
 refine s_as rfl (s_nt (at_seq (s_sr (at_lt (lt_fieldAddr 0 rfl fld24_0 rfl) rfl (at_lt (lt_load_box 0 rfl ti3 rfl rfl rfl rfl rfl) rfl (at_lt (lt_lss rfl rfl) rfl (s_mv rfl ?_)))))))
 by_cases h1326 : a0.ID < 1
 ·replace hr := ipos h1326 hr
  refine at_off rfl rfl (decide_eq_true (by first | exact h1326 | omega)) rfl ?_
  refine at_off rfl rfl (decide_eq_true (by first | exact h1326 | omega)) rfl ?_
  refine at_off rfl rfl (decide_eq_true (by first | exact h1326 | omega)) rfl ?_
  refine at_lt (lt_pick true rfl (decide_eq_true (by first | exact h1326 | omega)) rfl) rfl ?_
  refine s_mv rfl (at_off rfl rfl rfl rfl (at_off rfl rfl rfl rfl (at_off rfl rfl rfl rfl (at_off rfl rfl rfl rfl (at_lt (lt_pick true rfl rfl rfl) rfl (s_mv rfl (at_off rfl rfl rfl rfl (at_off rfl rfl rfl rfl (at_off rfl rfl rfl rfl ?_)))))))))
  refine at_off rfl rfl rfl rfl (at_lt (lt_pick true rfl rfl rfl) rfl (s_nt (at_true rfl rfl (s_sr (s_as rfl (s_nt (at_ret ?_)))))))
  have hq := oinj hr
  clear hr
  subst hq
  refine at_then_ret ?_
  exact at_return (.bool false) [] hS Tryz.results27 (.cons (.tmp rfl) .nil) rfl rfl ⟨rfl, rfl⟩
 replace hr := ineg h1326 hr
 refine at_on rfl rfl (decide_eq_false (by first | exact h1326 | omega)) ?_
 refine at_lt (lt_fieldAddr 0 rfl fld24_0 rfl) rfl ?_
 refine at_on rfl rfl (decide_eq_false (by first | exact h1326 | omega)) ?_
 refine at_lt (lt_load_box 0 rfl ti3 rfl rfl rfl rfl rfl) rfl ?_
 refine at_on rfl rfl (decide_eq_false (by first | exact h1326 | omega)) ?_
 refine at_lt (lt_gtr rfl rfl) rfl ?_
 refine at_lt (lt_pick false rfl (decide_eq_false (by first | exact h1326 | omega)) rfl) rfl ?_
 refine s_mv rfl ?_
 by_cases h1327 : (1000000000 : Int) < a0.ID
 ·replace hr := ipos h1327 hr
  refine at_off rfl rfl (decide_eq_true (by first | exact h1327 | omega)) rfl ?_
  refine at_off rfl rfl (decide_eq_true (by first | exact h1327 | omega)) rfl ?_
  refine at_off rfl rfl (decide_eq_true (by first | exact h1327 | omega)) rfl ?_
  refine at_off rfl rfl (decide_eq_true (by first | exact h1327 | omega)) rfl ?_
  refine at_lt (lt_pick true rfl (decide_eq_true (by first | exact h1327 | omega)) rfl) rfl ?_
  refine s_mv rfl (at_off rfl rfl rfl rfl (at_off rfl rfl rfl rfl (at_off rfl rfl rfl rfl (at_off rfl rfl rfl rfl (at_lt (lt_pick true rfl rfl rfl) rfl (s_nt (at_true rfl rfl (s_sr (s_as rfl ?_)))))))))
  refine s_nt (at_ret ?_)
  have hq := oinj hr
  clear hr
  subst hq
  refine at_then_ret ?_
  exact at_return (.bool false) [] hS Tryz.results27 (.cons (.tmp rfl) .nil) rfl rfl ⟨rfl, rfl⟩
 replace hr := ineg h1327 hr
 refine at_on rfl rfl (decide_eq_false (by first | exact h1327 | omega)) ?_
 refine at_lt (lt_fieldAddr 1 rfl fld24_1 rfl) rfl ?_
 refine at_on rfl rfl (decide_eq_false (by first | exact h1327 | omega)) ?_
 refine at_lt (lt_load_box 0 rfl ti22 rfl rfl rfl rfl rfl) rfl ?_
 refine at_inv 1 rfl (fun i1328 => ?_)
 have l1329 := slice_len i1328
 refine at_on rfl rfl (decide_eq_false (by first | exact h1327 | omega)) ?_
 refine at_lt (lt_flen 1 rfl rfl und22) rfl ?_
 refine at_on rfl rfl (decide_eq_false (by first | exact h1327 | omega)) ?_
 refine at_lt (lt_lss rfl rfl) rfl ?_
 refine at_lt (lt_pick false rfl (decide_eq_false (by first | exact h1327 | omega)) rfl) rfl ?_
 refine s_mv rfl ?_
 by_cases h1330 : a0.Fields.length < 1
 ·replace hr := ipos h1330 hr
  refine at_off rfl rfl (decide_eq_true (by omega)) rfl ?_
  refine at_off rfl rfl (decide_eq_true (by omega)) rfl ?_
  refine at_off rfl rfl (decide_eq_true (by omega)) rfl ?_
  refine at_off rfl rfl (decide_eq_true (by omega)) rfl ?_
  refine at_lt (lt_pick true rfl (decide_eq_true (by omega)) rfl) rfl ?_
  refine s_nt (at_true rfl rfl (s_sr (s_as rfl (s_nt (at_ret ?_)))))
  have hq := oinj hr
  clear hr
  subst hq
  refine at_then_ret ?_
  exact at_return (.bool false) [] hS Tryz.results27 (.cons (.tmp rfl) .nil) rfl rfl ⟨rfl, rfl⟩
 replace hr := ineg h1330 hr
 refine at_on rfl rfl (decide_eq_false (by omega)) ?_
 refine at_lt (lt_fieldAddr 1 rfl fld24_1 rfl) rfl ?_
 refine at_on rfl rfl (decide_eq_false (by omega)) ?_
 refine at_lt (lt_load_box 0 rfl ti22 rfl rfl rfl rfl rfl) rfl ?_
 refine at_on rfl rfl (decide_eq_false (by omega)) ?_
 refine at_lt (lt_flen 1 rfl rfl und22) rfl ?_
 refine at_on rfl rfl (decide_eq_false (by omega)) ?_
 refine at_lt (lt_gtr rfl rfl) rfl ?_
 refine at_lt (lt_pick false rfl (decide_eq_false (by omega)) rfl) rfl ?_
 refine s_nt ?_
 by_cases h1331 : 60 < a0.Fields.length
 ·replace hr := ipos h1331 hr
  refine at_true rfl (decide_eq_true (by omega)) ?_
  refine s_sr (s_as rfl (s_nt (at_ret ?_)))
  have hq := oinj hr
  clear hr
  subst hq
  refine at_then_ret ?_
  exact at_return (.bool false) [] hS Tryz.results27 (.cons (.tmp rfl) .nil) rfl rfl ⟨rfl, rfl⟩
 replace hr := ineg h1331 hr
 refine at_false rfl (decide_eq_false (by omega)) ?_
 refine at_skip (at_then (at_seq (s_sr (s_as rfl (s_nt (at_int .i64 0 (by simp only [lo, hi]; omega) ?_))))))
 replace hr := obind hr
 obtain ⟨r1333, hl1334, hk1335⟩ := hr
 refine at_cutP (V := (Unit) × (Unit)) (fun v => r1333 = Fl.go v.1) (fun v => (⟨[], [], [], []⟩ : St)) ?_ ?_
 ·refine at_block ?_
  refine at_loopW (σ := Nat) (V := Unit) (r := r1333) (fun n s => m27_l1 a0 n s) (fun s e => (⟨[(1, .pointer (some (Addr.add ⟨b1325, 0, none⟩ 0))), (3, .int .i64 (s : Int))], [⟨b1325, [.int .i64 a0.ID, s1323], 24⟩], [], [((Ty.int .i64).fact (s : Int) [.int .i64 (s : Int)]), ((Ty.int .i64).fact a0.ID [.int .i64 a0.ID]), ((Ty.slice ty59).fact a0.Fields [s1323])]⟩ : St)) (fun _ => rfl) _ 0 () hl1334 ⟨⟨rfl, ⟨rfl, trivial⟩⟩, ⟨[true], rfl⟩, ⟨[], rfl⟩, ⟨[0, 1, 2], rfl⟩⟩ ?_
  clear hl1334
  intro n x1332 hr e
  skip
  skip
  change m27_l1 a0 (n + 1) x1332 = some r1333 at hr
  change At _ _ (⟨[(1, .pointer (some (Addr.add ⟨b1325, 0, none⟩ 0))), (3, .int .i64 (x1332 : Int))], [⟨b1325, [.int .i64 a0.ID, s1323], 24⟩], [], [((Ty.int .i64).fact (x1332 : Int) [.int .i64 (x1332 : Int)]), ((Ty.int .i64).fact a0.ID [.int .i64 a0.ID]), ((Ty.slice ty59).fact a0.Fields [s1323])]⟩ : St) _
  rw [m27_l1] at hr
  refine at_seq (s_sr (s_mv rfl (at_lt (lt_fieldAddr 1 rfl fld24_1 rfl) rfl (at_lt (lt_load_box 0 rfl ti22 rfl rfl rfl rfl rfl) rfl (at_lt (lt_flen 2 rfl rfl und22) rfl (at_lt (lt_lss rfl rfl) rfl (s_nt ?_)))))))
  by_cases h1336 : x1332 < a0.Fields.length
  ·replace hr := ipos h1336 hr
   refine at_true rfl (decide_eq_true (by omega)) ?_
   refine at_skip (at_then (at_seq (at_block (s_sr (at_lt (lt_fieldAddr 1 rfl fld24_1 rfl) rfl (at_lt (lt_load_box 0 rfl ti22 rfl rfl rfl rfl rfl) rfl (s_mv rfl ?_)))))))
   replace hr := obind hr
   obtain ⟨x1337, h1338, hr⟩ := hr
   have := (List.getElem?_eq_some_iff.1 h1338).1
   refine at_elem 2 rfl (nat_at' h1338) (fun p1340 ec pa1341 => ?_)
   refine at_open (A := Value) 0 rfl _ _ (fun F w h => op59 h) ?_
   rintro s1339 rfl
   refine at_lt (lt_idx rfl rfl pa1341 und22 ti59) rfl (at_lt (lt_load_peek 3 rfl ti59 rfl rfl rfl rfl rfl) rfl ?_)
   replace hr := obind hr
   obtain ⟨x1342, h1343, hr⟩ := hr
   refine at_hv rfl (hv_call0 [2] (f36_spec h1343) rfl rfl rfl rfl ?_)
   rintro _ _ ⟨rfl, rfl⟩
   refine at_lt (lt_not rfl) rfl (s_nt ?_)
   by_cases h1344 : x1342 = true
   ·replace hr := ipos h1344 hr
    refine at_false rfl (nt h1344) (at_skip (at_in (s_tr (s_mv rfl (at_lt (lt_add rfl rfl (by simp only [lo, hi]; omega)) rfl (s_as rfl (at_nil (at_int .i64 (x1332 + 1 : Int) (by simp only [lo, hi]; omega) ?_))))))))
    exact at_again (σ := Nat) (V := Unit) (lp := fun n s => m27_l1 a0 n s) (S := fun s e => (⟨[(1, .pointer (some (Addr.add ⟨b1325, 0, none⟩ 0))), (3, .int .i64 (s : Int))], [⟨b1325, [.int .i64 a0.ID, s1323], 24⟩], [], [((Ty.int .i64).fact (s : Int) [.int .i64 (s : Int)]), ((Ty.int .i64).fact a0.ID [.int .i64 a0.ID]), ((Ty.slice ty59).fact a0.Fields [s1323])]⟩ : St)) (x1332 + 1) () hr ⟨⟨rfl, ⟨rfl, trivial⟩⟩, ⟨[true], rfl⟩, ⟨[], rfl⟩, ⟨[0, 6, 7], rfl⟩⟩
   replace hr := ineg h1344 hr
   refine at_true rfl (nf (bf h1344)) (s_sr (s_as rfl (s_nt (at_ret ?_))))
   have hq := oinj hr
   clear hr
   subst hq
   have hq := oinj hk1335
   clear hk1335
   subst hq
   refine at_in_ret (at_then_ret (at_then_ret (at_in_ret (at_then_ret (at_then_ret ?_)))))
   exact at_return (.bool false) [] hS Tryz.results27 (.cons (.tmp rfl) .nil) rfl rfl ⟨rfl, rfl⟩
  replace hr := ineg h1336 hr
  refine at_false rfl (decide_eq_false (by omega)) ?_
  refine at_exit (at_then_exit (at_then_exit (at_in_exit ?_)))
  have hq := oinj hr
  clear hr
  subst hq
  exact at_leafP ((), ()) rfl ⟨trivial, ⟨[false], rfl⟩, ⟨[], rfl⟩, ⟨[], rfl⟩⟩
 rintro ⟨_, _⟩ hp
 replace hr := hk1335
 subst hp
 clear hl1334
 change At _ _ (⟨[], [], [], []⟩ : St) _
 refine s_tsr (s_as rfl (s_nt (at_ret ?_)))
 have hq := oinj hr
 clear hr
 subst hq
 exact at_return (.bool true) [] hS Tryz.results27 (.cons (.tmp rfl) .nil) rfl rfl ⟨rfl, rfl⟩
def m64_l2 (x1372 : D_api_Field) : Nat → (List UInt8) → Nat → Option (List UInt8)
  | 0, _, _ => none
  | k + 1, x1399, x1400 =>
    if x1400 < x1372.Subs.length then
     (x1372.Subs[x1400]?).bind fun x1411 =>
     if 0 ≤ (x1411.Code.toNat : Int) ∧ (x1411.Code.toNat : Int) ≤ 4611686018427387903 ∧ x1399.length + 10 ≤ 140737488355328 then
      if (x1399 ++ (encI (x1411.Code.toNat : Int))).length + x1411.Value.length + 20 ≤ 140737488355328 then
       m64_l2 x1372 k (x1399 ++ (encI (x1411.Code.toNat : Int)) ++ (encT x1411.Value)) (x1400 + 1)
      else none
     else none
    else
     some x1399
def m64_l1 (a0 : D_api_Record) : Nat → (List UInt8) → Nat → Option (List UInt8)
  | 0, _, _ => none
  | k + 1, x1360, x1361 =>
    if x1361 < a0.Fields.length then
     (a0.Fields[x1361]?).bind fun x1372 =>
     if x1360.length + x1372.Tag.length + 20 ≤ 140737488355328 then
      if 0 ≤ (x1372.Ind_0.toNat : Int) ∧ (x1372.Ind_0.toNat : Int) ≤ 4611686018427387903 ∧ (x1360 ++ (encT x1372.Tag)).length + 10 ≤ 140737488355328 then
       if 0 ≤ (x1372.Ind_1.toNat : Int) ∧ (x1372.Ind_1.toNat : Int) ≤ 4611686018427387903 ∧ (x1360 ++ (encT x1372.Tag) ++ (encI (x1372.Ind_0.toNat : Int))).length + 10 ≤ 140737488355328 then
        if 0 ≤ (x1372.Subs.length : Int) ∧ (x1372.Subs.length : Int) ≤ 4611686018427387903 ∧ (x1360 ++ (encT x1372.Tag) ++ (encI (x1372.Ind_0.toNat : Int)) ++ (encI (x1372.Ind_1.toNat : Int))).length + 10 ≤ 140737488355328 then
         (m64_l2 x1372 (x1372.Subs.length + 1) (x1360 ++ (encT x1372.Tag) ++ (encI (x1372.Ind_0.toNat : Int)) ++ (encI (x1372.Ind_1.toNat : Int)) ++ (encI (x1372.Subs.length : Int))) 0).bind fun x1404 =>
         m64_l1 a0 k x1404 (x1361 + 1)
        else none
       else none
      else none
     else none
    else
     some x1360
def m64 (a0 : D_api_Record) : Option (List UInt8) :=
  if 0 ≤ a0.ID ∧ a0.ID ≤ 4611686018427387903 ∧ 0 + 10 ≤ 140737488355328 then
   if 0 ≤ (a0.Fields.length : Int) ∧ (a0.Fields.length : Int) ≤ 4611686018427387903 ∧ (([] : Str) ++ (encI a0.ID)).length + 10 ≤ 140737488355328 then
    (m64_l1 a0 (a0.Fields.length + 1) (([] : Str) ++ (encI a0.ID) ++ (encI (a0.Fields.length : Int))) 0).bind fun x1365 =>
    some x1365
   else none
  else none
def post64 (r : (List UInt8)) (v : Value) (fs : List Fact) : Prop := ∃ s1428 : Value, v = s1428 ∧ fs = [((Ty.slice Ty.u8).fact r [s1428])]
theorem en64 : Enters Tryz.prog 64 := ⟨_, Tryz.func64, by kernel_rfl, rfl⟩
theorem f64_spec {a0 : D_api_Record} {s1345 : Value} {r : (List UInt8)} (hr : m64 a0 = some r) : Spec Tryz.prog 64 [.agg #[.int .i64 a0.ID, s1345]] [(ty24.fact a0 [.int .i64 a0.ID, s1345])] (post64 r) := by
 refine spec_start (N := 59) Tryz.func64 (by kernel_rfl) rfl rfl rfl ?_
 intro g hS
 unfold m64 at hr
 refine at_open (A := Unit) 0 rfl (fun _ => True) (fun _ => [((Ty.int .i64).fact a0.ID [.int .i64 a0.ID]), ((Ty.slice ty59).fact a0.Fields [s1345])]) (fun F w h => ⟨(), trivial, ex24 h⟩) (fun _ _ => ?_)
 refine at_inv 0 rfl (fun l1346 => ?_)
 replace l1346 : (-9223372036854775808) ≤ a0.ID ∧ a0.ID ≤ 9223372036854775807 := l1346
 refine s_sr (at_hv rfl ?_)
 refine hv_box (cs := [.int .i64 a0.ID, s1345]) rfl rfl rfl (fun b1347 => ?_)
 refine s_as rfl (s_nt (at_seq ?_))
 replace hr := imust hr
 obtain ⟨h1348, hr⟩ := hr
 refine at_inv 1 rfl (fun i1351 => ?_)
 have l1352 := slice_len i1351
 replace hr := imust hr
 obtain ⟨h1353, hr⟩ := hr
 refine aa_start 8 (by kernel_rfl) ?_
 refine aa_p 0 rfl (lt_fieldAddr 0 rfl fld24_0 rfl) (aa_l 1 rfl (lt_load_box 0 rfl ti3 rfl rfl rfl rfl rfl) (aa_p 3 rfl (lt_fieldAddr 1 rfl fld24_1 rfl) (aa_l 4 rfl (lt_load_box 0 rfl ti22 rfl rfl rfl rfl rfl) (aa_l 5 rfl (lt_flen 1 rfl rfl und22) (aa_one 2 (at_rownew none 5 1 (at_rownil Ty.u8 (aa_op rfl rfl (hv_callG0 [true] [0] (f118_specI h1348) rfl rfl rfl rfl rfl rfl ?_)))))))))
 rintro s1356 _ _ ⟨i1357, rfl, rfl⟩
 refine aa_all (rs := [6]) (by kernel_rfl) rfl (ts_in 0 2 rfl rfl) (List.forall_mem_singleton.2 ?_)
 refine aa_op rfl rfl (hv_callG0 [true] [0] (f118_specI h1353) rfl rfl rfl rfl rfl rfl ?_)
 rintro s1358 _ _ ⟨i1359, rfl, rfl⟩
 refine aa_pure 7 rfl (by kernel_rfl) rfl rfl (lt_assign rfl) rfl (ts_in 0 3 rfl rfl) ?_
 refine aa_done (by kernel_rfl) (ts_in 0 3 rfl rfl) ?_
 refine at_then (at_seq (s_sr (at_lt (lt_fieldAddr 1 rfl fld24_1 rfl) rfl (at_lt (lt_load_box 0 rfl ti22 rfl rfl rfl rfl rfl) rfl (at_lt (lt_flen 4 rfl rfl und22) rfl (s_mv rfl (s_nt (at_mkpure (q := ((([] : Str) ++ (encI a0.ID) ++ (encI (a0.Fields.length : Int))).length * Ty.u8.bytes ≤ 140737488355328)) (rowb118 h1353) (at_int .i64 0 (by simp only [lo, hi]; omega) ?_)))))))))
 replace hr := obind hr
 obtain ⟨x1365, hl1369, hr⟩ := hr
 refine at_cut (V := Value × Nat × (List Value)) (fun e => (⟨[(3, e.1)], [], [⟨e.1, 5, 1, e.2.1, e.2.2⟩], [(Ty.u8.row x1365 e.2.2), (pureF (x1365.length * Ty.u8.bytes ≤ 140737488355328))]⟩ : St)) ?_ ?_
 ·refine at_block ?_
  refine at_loopW (σ := ((List UInt8) × Nat)) (V := Value × Nat × (List Value)) (r := x1365) (fun n s => m64_l1 a0 n s.1 s.2) (fun s e => (⟨[(3, e.1), (16, s1345), (17, .int .i64 (a0.Fields.length : Int)), (18, .int .i64 (s.2 : Int))], [], [⟨e.1, 5, 1, e.2.1, e.2.2⟩], [(Ty.u8.row s.1 e.2.2), (pureF (s.1.length * Ty.u8.bytes ≤ 140737488355328)), ((Ty.int .i64).fact (s.2 : Int) [.int .i64 (s.2 : Int)]), ((Ty.slice ty59).fact a0.Fields [s1345])]⟩ : St)) (fun _ => rfl) _ (([] : Str) ++ (encI a0.ID) ++ (encI (a0.Fields.length : Int)), 0) (s1358, 0 + (encI a0.ID).length + (encI (a0.Fields.length : Int)).length, i1359) hl1369 ⟨⟨rfl, ⟨rfl, ⟨rfl, ⟨rfl, trivial⟩⟩⟩⟩, ⟨[false], rfl⟩, ⟨[true], rfl⟩, ⟨[2, 1, 0, 6], rfl⟩⟩ ?_
  clear hr hl1369
  intro n s hr e
  obtain ⟨x1360, x1361⟩ := s
  obtain ⟨v1362, n1363, i1364⟩ := e
  change m64_l1 a0 (n + 1) x1360 x1361 = some x1365 at hr
  change At _ _ (⟨[(3, v1362), (16, s1345), (17, .int .i64 (a0.Fields.length : Int)), (18, .int .i64 (x1361 : Int))], [], [⟨v1362, 5, 1, n1363, i1364⟩], [(Ty.u8.row x1360 i1364), (pureF (x1360.length * Ty.u8.bytes ≤ 140737488355328)), ((Ty.int .i64).fact (x1361 : Int) [.int .i64 (x1361 : Int)]), ((Ty.slice ty59).fact a0.Fields [s1345])]⟩ : St) _
  rw [m64_l1] at hr
  refine s_sr (at_lt (lt_lss rfl rfl) rfl (s_nt (at_seq ?_)))
  by_cases h1371 : x1361 < a0.Fields.length
  ·replace hr := ipos h1371 hr
   refine at_true rfl (decide_eq_true (by omega)) ?_
   refine at_skip (at_then (at_seq (at_block (s_sr ?_))))
   replace hr := obind hr
   obtain ⟨x1372, h1373, hr⟩ := hr
   have := (List.getElem?_eq_some_iff.1 h1373).1
   refine at_elem 3 rfl (nat_at' h1373) (fun p1375 ec pa1376 => ?_)
   refine at_open (A := Value) 0 rfl _ _ (fun F w h => op59 h) ?_
   rintro s1374 rfl
   refine at_lt (lt_idx rfl rfl pa1376 und22 ti59) rfl (at_lt (lt_load_peek 3 rfl ti59 rfl rfl rfl rfl rfl) rfl (at_hv rfl ?_))
   refine hv_alloc (cs := [str ([] : Str), .int .u8 0, .int .u8 0, (.slice none 0 0)]) ti59 rfl rfl (fun b1377 => ?_)
   refine at_one 1 rfl (fun ho1378 => ?_)
   refine at_hv rfl (hv_store_box 0 (cs' := [str x1372.Tag, .int .u8 (x1372.Ind_0.toNat : Int), .int .u8 (x1372.Ind_1.toNat : Int), s1374]) rfl rfl ti59 rfl rfl rfl rfl (allc rfl (allc rfl (allc rfl (allc ho1378 rfl)))) (s_nt (at_seq ?_)))
   replace hr := imust hr
   obtain ⟨h1379, hr⟩ := hr
   replace hr := imust hr
   obtain ⟨h1382, hr⟩ := hr
   replace hr := imust hr
   obtain ⟨h1385, hr⟩ := hr
   refine aa_start 15 (by kernel_rfl) ?_
   refine aa_p 0 rfl (lt_move rfl) (aa_p 1 rfl (lt_fieldAddr 0 rfl fld59_0 rfl) (aa_l 2 rfl (lt_load_box 0 rfl ti9 rfl rfl rfl rfl rfl) (aa_p 4 rfl (lt_fieldAddr 1 rfl fld59_1 rfl) (aa_p 5 rfl (lt_aidx 0 rfl rfl rfl rfl und56 ti5 rfl) (aa_l 6 rfl (lt_load_box 0 rfl ti5 rfl rfl rfl rfl rfl) (aa_p 7 rfl (lt_convint rfl (iso und5) und3 (u8_in_i64 x1372.Ind_0)) (aa_p 9 rfl (lt_fieldAddr 1 rfl fld59_1 rfl) (aa_p 10 rfl (lt_aidx 1 rfl rfl rfl rfl und56 ti5 rfl) (aa_l 11 rfl (lt_load_box 0 rfl ti5 rfl rfl rfl rfl rfl) ?_)))))))))
   refine aa_p 12 rfl (lt_convint rfl (iso und5) und3 (u8_in_i64 x1372.Ind_1)) (aa_one 3 (aa_op rfl rfl (hv_callG0 [true] [4] (f119_specI h1379) rfl rfl rfl rfl rfl rfl ?_)))
   rintro s1388 _ _ ⟨i1389, rfl, rfl⟩
   refine aa_all (rs := [8]) (by kernel_rfl) rfl (ts_in 0 1 rfl rfl) (List.forall_mem_singleton.2 ?_)
   refine aa_op rfl rfl (hv_callG0 [true] [0] (f118_specI h1382) rfl rfl rfl rfl rfl rfl ?_)
   rintro s1390 _ _ ⟨i1391, rfl, rfl⟩
   refine aa_all (rs := [13]) (by kernel_rfl) rfl (ts_in 0 2 rfl rfl) (List.forall_mem_singleton.2 ?_)
   refine aa_op rfl rfl (hv_callG0 [true] [0] (f118_specI h1385) rfl rfl rfl rfl rfl rfl ?_)
   rintro s1392 _ _ ⟨i1393, rfl, rfl⟩
   refine aa_pure 14 rfl (by kernel_rfl) rfl rfl (lt_assign rfl) rfl (ts_in 0 3 rfl rfl) ?_
   refine aa_done (by kernel_rfl) (ts_in 0 3 rfl rfl) ?_
   refine s_tsr (s_mv rfl (at_lt (lt_fieldAddr 3 rfl fld59_2 rfl) rfl (at_lt (lt_load_box 0 rfl ti57 rfl rfl rfl rfl rfl) rfl ?_)))
   refine at_inv 4 rfl (fun i1394 => ?_)
   have l1395 := slice_len i1394
   refine at_lt (lt_flen 4 rfl rfl und57) rfl ?_
   replace hr := imust hr
   obtain ⟨h1396, hr⟩ := hr
   refine at_hv rfl (hv_callG0 [true] [0] (f118_specI h1396) rfl rfl rfl rfl rfl rfl ?_)
   rintro s1397 _ _ ⟨i1398, rfl, rfl⟩
   refine s_as rfl (s_ntsr (at_lt (lt_fieldAddr 3 rfl fld59_2 rfl) rfl (at_lt (lt_load_box 0 rfl ti57 rfl rfl rfl rfl rfl) rfl (at_lt (lt_flen 5 rfl rfl und57) rfl (s_mv rfl (s_nt (at_mkpure (q := ((x1360 ++ (encT x1372.Tag) ++ (encI (x1372.Ind_0.toNat : Int)) ++ (encI (x1372.Ind_1.toNat : Int)) ++ (encI (x1372.Subs.length : Int))).length * Ty.u8.bytes ≤ 140737488355328)) (rowb118 h1396) (at_int .i64 0 (by simp only [lo, hi]; omega) ?_))))))))
   replace hr := obind hr
   obtain ⟨x1404, hl1408, hr⟩ := hr
   refine at_cut (V := Value × Nat × (List Value)) (fun e => (⟨[(3, e.1), (16, s1345), (17, .int .i64 (a0.Fields.length : Int)), (18, .int .i64 (x1361 : Int))], [], [⟨e.1, 5, 1, e.2.1, e.2.2⟩], [(Ty.u8.row x1404 e.2.2), (pureF (x1404.length * Ty.u8.bytes ≤ 140737488355328)), ((Ty.slice ty59).fact a0.Fields [s1345]), ((Ty.int .i64).fact (x1361 : Int) [.int .i64 (x1361 : Int)])]⟩ : St)) ?_ ?_
   ·refine at_block ?_
    refine at_loopW (σ := ((List UInt8) × Nat)) (V := Value × Nat × (List Value)) (r := x1404) (fun n s => m64_l2 x1372 n s.1 s.2) (fun s e => (⟨[(3, e.1), (16, s1345), (17, .int .i64 (a0.Fields.length : Int)), (18, .int .i64 (x1361 : Int)), (42, s1374), (43, .int .i64 (x1372.Subs.length : Int)), (44, .int .i64 (s.2 : Int))], [], [⟨e.1, 5, 1, e.2.1, e.2.2⟩], [(Ty.u8.row s.1 e.2.2), (pureF (s.1.length * Ty.u8.bytes ≤ 140737488355328)), ((Ty.int .i64).fact (s.2 : Int) [.int .i64 (s.2 : Int)]), ((Ty.slice ty59).fact a0.Fields [s1345]), ((Ty.int .i64).fact (x1361 : Int) [.int .i64 (x1361 : Int)]), ((Ty.slice ty67).fact x1372.Subs [s1374])]⟩ : St)) (fun _ => rfl) _ (x1360 ++ (encT x1372.Tag) ++ (encI (x1372.Ind_0.toNat : Int)) ++ (encI (x1372.Ind_1.toNat : Int)) ++ (encI (x1372.Subs.length : Int)), 0) (s1397, n1363 + (encT x1372.Tag).length + (encI (x1372.Ind_0.toNat : Int)).length + (encI (x1372.Ind_1.toNat : Int)).length + (encI (x1372.Subs.length : Int)).length, i1398) hl1408 ⟨⟨rfl, ⟨rfl, ⟨rfl, ⟨rfl, ⟨rfl, ⟨rfl, ⟨rfl, trivial⟩⟩⟩⟩⟩⟩⟩, ⟨[false], rfl⟩, ⟨[true], rfl⟩, ⟨[2, 1, 0, 13, 12, 7], rfl⟩⟩ ?_
    clear hr hl1408
    intro n s hr e
    obtain ⟨x1399, x1400⟩ := s
    obtain ⟨v1401, n1402, i1403⟩ := e
    change m64_l2 x1372 (n + 1) x1399 x1400 = some x1404 at hr
    change At _ _ (⟨[(3, v1401), (16, s1345), (17, .int .i64 (a0.Fields.length : Int)), (18, .int .i64 (x1361 : Int)), (42, s1374), (43, .int .i64 (x1372.Subs.length : Int)), (44, .int .i64 (x1400 : Int))], [], [⟨v1401, 5, 1, n1402, i1403⟩], [(Ty.u8.row x1399 i1403), (pureF (x1399.length * Ty.u8.bytes ≤ 140737488355328)), ((Ty.int .i64).fact (x1400 : Int) [.int .i64 (x1400 : Int)]), ((Ty.slice ty59).fact a0.Fields [s1345]), ((Ty.int .i64).fact (x1361 : Int) [.int .i64 (x1361 : Int)]), ((Ty.slice ty67).fact x1372.Subs [s1374])]⟩ : St) _
    rw [m64_l2] at hr
    refine s_sr (at_lt (lt_lss rfl rfl) rfl (s_nt (at_seq ?_)))
    by_cases h1410 : x1400 < x1372.Subs.length
    ·replace hr := ipos h1410 hr
     refine at_true rfl (decide_eq_true (by omega)) ?_
     refine at_skip (at_then (at_seq (at_block (s_sr ?_))))
     replace hr := obind hr
     obtain ⟨x1411, h1412, hr⟩ := hr
     have := (List.getElem?_eq_some_iff.1 h1412).1
     refine at_elem 5 rfl (nat_at' h1412) (fun p1413 ec pa1414 => ?_)
     refine at_open (A := Unit) 0 rfl _ _ (fun F w h => op67 h) ?_
     rintro _ rfl
     refine at_lt (lt_idx rfl rfl pa1414 und57 ti67) rfl (at_lt (lt_load_peek 2 rfl ti67 rfl rfl rfl rfl rfl) rfl (at_hv rfl ?_))
     refine hv_alloc (cs := [.int .u8 0, str ([] : Str)]) ti67 rfl rfl (fun b1415 => ?_)
     refine at_hv rfl (hv_store_box 0 (cs' := [.int .u8 (x1411.Code.toNat : Int), str x1411.Value]) rfl rfl ti67 rfl rfl rfl rfl rfl (s_nt ?_))
     replace hr := imust hr
     obtain ⟨h1416, hr⟩ := hr
     replace hr := imust hr
     obtain ⟨h1419, hr⟩ := hr
     refine aa_start 9 (by kernel_rfl) ?_
     refine aa_p 0 rfl (lt_move rfl) (aa_p 1 rfl (lt_fieldAddr 0 rfl fld67_0 rfl) (aa_l 2 rfl (lt_load_box 0 rfl ti5 rfl rfl rfl rfl rfl) (aa_p 3 rfl (lt_convint rfl (iso und5) und3 (u8_in_i64 x1411.Code)) (aa_p 5 rfl (lt_fieldAddr 1 rfl fld67_1 rfl) (aa_l 6 rfl (lt_load_box 0 rfl ti9 rfl rfl rfl rfl rfl) (aa_one 4 (aa_op rfl rfl (hv_callG0 [true] [3] (f118_specI h1416) rfl rfl rfl rfl rfl rfl ?_))))))))
     rintro s1422 _ _ ⟨i1423, rfl, rfl⟩
     refine aa_all (rs := [7]) (by kernel_rfl) rfl (ts_in 0 1 rfl rfl) (List.forall_mem_singleton.2 ?_)
     refine aa_op rfl rfl (hv_callG0 [true] [0] (f119_specI h1419) rfl rfl rfl rfl rfl rfl ?_)
     rintro s1424 _ _ ⟨i1425, rfl, rfl⟩
     refine aa_pure 8 rfl (by kernel_rfl) rfl rfl (lt_assign rfl) rfl (ts_in 0 2 rfl rfl) ?_
     refine aa_done (by kernel_rfl) (ts_in 0 2 rfl rfl) ?_
     refine at_in (s_tr ?_)
     refine at_inv 2 rfl (fun l1426 => ?_)
     replace l1426 : x1411.Value.length ≤ 9223372036854775807 := l1426
     refine at_lt (lt_add rfl rfl (by simp only [lo, hi]; omega)) rfl (s_mv rfl (at_nil (at_mkpure (q := ((x1399 ++ (encI (x1411.Code.toNat : Int)) ++ (encT x1411.Value)).length * Ty.u8.bytes ≤ 140737488355328)) (rowb119 h1419) (at_int .i64 (x1400 + 1 : Int) (by simp only [lo, hi]; omega) ?_))))
     exact at_again (σ := ((List UInt8) × Nat)) (V := Value × Nat × (List Value)) (lp := fun n s => m64_l2 x1372 n s.1 s.2) (S := fun s e => (⟨[(3, e.1), (16, s1345), (17, .int .i64 (a0.Fields.length : Int)), (18, .int .i64 (x1361 : Int)), (42, s1374), (43, .int .i64 (x1372.Subs.length : Int)), (44, .int .i64 (s.2 : Int))], [], [⟨e.1, 5, 1, e.2.1, e.2.2⟩], [(Ty.u8.row s.1 e.2.2), (pureF (s.1.length * Ty.u8.bytes ≤ 140737488355328)), ((Ty.int .i64).fact (s.2 : Int) [.int .i64 (s.2 : Int)]), ((Ty.slice ty59).fact a0.Fields [s1345]), ((Ty.int .i64).fact (x1361 : Int) [.int .i64 (x1361 : Int)]), ((Ty.slice ty67).fact x1372.Subs [s1374])]⟩ : St)) (x1399 ++ (encI (x1411.Code.toNat : Int)) ++ (encT x1411.Value), x1400 + 1) (s1424, n1402 + (encI (x1411.Code.toNat : Int)).length + (encT x1411.Value).length, i1425) hr ⟨⟨rfl, ⟨rfl, ⟨rfl, ⟨rfl, ⟨rfl, ⟨rfl, ⟨rfl, trivial⟩⟩⟩⟩⟩⟩⟩, ⟨[false], rfl⟩, ⟨[true], rfl⟩, ⟨[2, 1, 0, 10, 11, 12], rfl⟩⟩
    replace hr := ineg h1410 hr
    refine at_false rfl (decide_eq_false (by omega)) ?_
    refine at_exit (at_then_exit (at_then_exit (at_in_exit ?_)))
    have hq := oinj hr
    clear hr
    subst hq
    exact at_leaf (v1401, n1402, i1403) ⟨⟨rfl, ⟨rfl, ⟨rfl, ⟨rfl, trivial⟩⟩⟩⟩, ⟨[], rfl⟩, ⟨[true], rfl⟩, ⟨[0, 1, 3, 4], rfl⟩⟩
   clear hl1408
   intro e
   obtain ⟨v1405, n1406, i1407⟩ := e
   change At _ _ (⟨[(3, v1405), (16, s1345), (17, .int .i64 (a0.Fields.length : Int)), (18, .int .i64 (x1361 : Int))], [], [⟨v1405, 5, 1, n1406, i1407⟩], [(Ty.u8.row x1404 i1407), (pureF (x1404.length * Ty.u8.bytes ≤ 140737488355328)), ((Ty.slice ty59).fact a0.Fields [s1345]), ((Ty.int .i64).fact (x1361 : Int) [.int .i64 (x1361 : Int)])]⟩ : St) _
   refine at_in (s_tr (at_lt (lt_add rfl rfl (by simp only [lo, hi]; omega)) rfl (s_mv rfl (at_nil (at_int .i64 (x1361 + 1 : Int) (by simp only [lo, hi]; omega) ?_)))))
   exact at_again (σ := ((List UInt8) × Nat)) (V := Value × Nat × (List Value)) (lp := fun n s => m64_l1 a0 n s.1 s.2) (S := fun s e => (⟨[(3, e.1), (16, s1345), (17, .int .i64 (a0.Fields.length : Int)), (18, .int .i64 (s.2 : Int))], [], [⟨e.1, 5, 1, e.2.1, e.2.2⟩], [(Ty.u8.row s.1 e.2.2), (pureF (s.1.length * Ty.u8.bytes ≤ 140737488355328)), ((Ty.int .i64).fact (s.2 : Int) [.int .i64 (s.2 : Int)]), ((Ty.slice ty59).fact a0.Fields [s1345])]⟩ : St)) (x1404, x1361 + 1) (v1405, n1406, i1407) hr ⟨⟨rfl, ⟨rfl, ⟨rfl, ⟨rfl, trivial⟩⟩⟩⟩, ⟨[], rfl⟩, ⟨[true], rfl⟩, ⟨[1, 2, 0, 3], rfl⟩⟩
  replace hr := ineg h1371 hr
  refine at_false rfl (decide_eq_false (by omega)) ?_
  refine at_exit (at_then_exit (at_then_exit (at_in_exit ?_)))
  have hq := oinj hr
  clear hr
  subst hq
  exact at_leaf (v1362, n1363, i1364) ⟨⟨rfl, trivial⟩, ⟨[], rfl⟩, ⟨[true], rfl⟩, ⟨[0, 1], rfl⟩⟩
 clear hl1369
 intro e
 obtain ⟨v1366, n1367, i1368⟩ := e
 change At _ _ (⟨[(3, v1366)], [], [⟨v1366, 5, 1, n1367, i1368⟩], [(Ty.u8.row x1365 i1368), (pureF (x1365.length * Ty.u8.bytes ≤ 140737488355328))]⟩ : St) _
 refine s_tsr (s_mv rfl (s_as rfl (s_nt (at_ret ?_))))
 have hq := oinj hr
 clear hr
 subst hq
 refine at_pure 1 rfl (fun hb1427 => ?_)
 refine at_release 0 0 rfl rfl rfl hb1427 ?_
 exact at_return (v1366) [0] hS Tryz.results64 (.cons (.tmp rfl) .nil) rfl rfl ⟨v1366, rfl, rfl⟩
def m29 (a0 : D_api_Record) : Option ((List UInt8) × Int) :=
  (m37 (⟨a0.ID, a0.Fields⟩ : D_api_Record)).bind fun x1432 =>
  if x1432 = true then
   (m64 (⟨a0.ID, a0.Fields⟩ : D_api_Record)).bind fun x1435 =>
   some (x1435, 0)
  else
   some (([] : (List UInt8)), 1)
def post29 (r : ((List UInt8) × Int)) (v : Value) (fs : List Fact) : Prop := ∃ s1438 : Value, v = .tuple #[s1438, .int .i64 r.2] ∧ fs = [((Ty.slice Ty.u8).fact r.1 [s1438]), ((Ty.int .i64).fact r.2 [.int .i64 r.2])]
theorem en29 : Enters Tryz.prog 29 := ⟨_, Tryz.func29, by kernel_rfl, rfl⟩
theorem f29_spec {a0 : D_api_Record} {s1429 : Value} {r : ((List UInt8) × Int)} (hr : m29 a0 = some r) : Spec Tryz.prog 29 [.agg #[.int .i64 a0.ID, s1429]] [(ty24.fact a0 [.int .i64 a0.ID, s1429]), (tabsF Tryz.prog 4 5)] (post29 r) := by
 refine spec_start (N := 9) Tryz.func29 (by kernel_rfl) rfl rfl rfl ?_
 intro g hS
 unfold m29 at hr
 refine at_open (A := Unit) 0 rfl (fun _ => True) (fun _ => [((Ty.int .i64).fact a0.ID [.int .i64 a0.ID]), ((Ty.slice ty59).fact a0.Fields [s1429])]) (fun F w h => ⟨(), trivial, ex24 h⟩) (fun _ _ => ?_)
 refine at_inv 0 rfl (fun l1430 => ?_)
 replace l1430 : (-9223372036854775808) ≤ a0.ID ∧ a0.ID ≤ 9223372036854775807 := l1430
 refine s_sr (at_hv rfl ?_)
 refine hv_box (cs := [.int .i64 a0.ID, s1429]) rfl rfl rfl (fun b1431 => ?_)
 refine s_as rfl (s_as rfl (s_nt (at_seq (s_sr (at_lt (lt_load_box 0 rfl ti24 rfl rfl rfl rfl rfl) rfl ?_)))))
 replace hr := obind hr
 obtain ⟨x1432, h1433, hr⟩ := hr
 refine at_derive [0, 1] (ty24.fact (⟨a0.ID, a0.Fields⟩ : D_api_Record) [.int .i64 a0.ID, s1429]) rfl (fun F w h => mk24 (x := (⟨a0.ID, a0.Fields⟩ : D_api_Record)) h) ?_
 refine at_hv rfl (hv_call0 [0, 4] (f37_spec h1433) rfl rfl rfl rfl ?_)
 rintro _ _ ⟨rfl, rfl⟩
 refine at_lt (lt_not rfl) rfl (s_nt ?_)
 by_cases h1434 : x1432 = true
 ·replace hr := ipos h1434 hr
  refine at_false rfl (nt h1434) (at_skip (s_tsr (at_lt (lt_load_box 0 rfl ti24 rfl rfl rfl rfl rfl) rfl ?_)))
  replace hr := obind hr
  obtain ⟨x1435, h1436, hr⟩ := hr
  refine at_hv rfl (hv_call0 [0] (f64_spec h1436) rfl rfl rfl rfl ?_)
  rintro s1437 _ ⟨_, rfl, rfl⟩
  refine s_as rfl (s_as rfl (s_nt (at_ret ?_)))
  have hq := oinj hr
  clear hr
  subst hq
  refine at_int .i64 0 (by simp only [lo, hi]; omega) ?_
  exact at_return (.tuple #[s1437, .int .i64 0]) [1, 0] hS Tryz.results29 (.cons (.tmp rfl) (.cons (.tmp rfl) .nil)) rfl rfl ⟨s1437, rfl, rfl⟩
 replace hr := ineg h1434 hr
 refine at_true rfl (nf (bf h1434)) (s_sr (s_as rfl (s_as rfl (s_nt (at_ret ?_)))))
 have hq := oinj hr
 clear hr
 subst hq
 refine at_then_ret (at_fnil Ty.u8 none (at_int .i64 1 (by simp only [lo, hi]; omega) ?_))
 exact at_return (.tuple #[(.slice none 0 0), .int .i64 1]) [1, 0] hS Tryz.results29 (.cons (.tmp rfl) (.cons (.tmp rfl) .nil)) rfl rfl ⟨((.slice none 0 0)), rfl, rfl⟩
def m28 (a0 : D_api_Record) (a1 : D_api_Record) : Option Int :=
  (m29 (⟨a0.ID, a0.Fields⟩ : D_api_Record)).bind fun x1445 =>
  (m29 (⟨a1.ID, a1.Fields⟩ : D_api_Record)).bind fun x1449 =>
  (m63 x1445.1 x1449.1).bind fun x1453 =>
  some x1453
def post28 (r : Int) (v : Value) (fs : List Fact) : Prop := v = .int .i64 r ∧ fs = [((Ty.int .i64).fact r [.int .i64 r])]
theorem en28 : Enters Tryz.prog 28 := ⟨_, Tryz.func28, by kernel_rfl, rfl⟩
theorem f28_spec {a0 : D_api_Record} {a1 : D_api_Record} {s1439 : Value} {s1440 : Value} {r : Int} (hr : m28 a0 a1 = some r) : Spec Tryz.prog 28 [.agg #[.int .i64 a0.ID, s1439], .agg #[.int .i64 a1.ID, s1440]] [(ty24.fact a0 [.int .i64 a0.ID, s1439]), (ty24.fact a1 [.int .i64 a1.ID, s1440]), (tabsF Tryz.prog 4 5)] (post28 r) := by
 refine spec_start (N := 22) Tryz.func28 (by kernel_rfl) rfl rfl rfl ?_
 intro g hS
 unfold m28 at hr
 refine at_open (A := Unit) 0 rfl (fun _ => True) (fun _ => [((Ty.int .i64).fact a0.ID [.int .i64 a0.ID]), ((Ty.slice ty59).fact a0.Fields [s1439])]) (fun F w h => ⟨(), trivial, ex24 h⟩) (fun _ _ => ?_)
 refine at_inv 0 rfl (fun l1441 => ?_)
 replace l1441 : (-9223372036854775808) ≤ a0.ID ∧ a0.ID ≤ 9223372036854775807 := l1441
 refine at_open (A := Unit) 3 rfl (fun _ => True) (fun _ => [((Ty.int .i64).fact a1.ID [.int .i64 a1.ID]), ((Ty.slice ty59).fact a1.Fields [s1440])]) (fun F w h => ⟨(), trivial, ex24 h⟩) (fun _ _ => ?_)
 refine at_inv 0 rfl (fun l1442 => ?_)
 replace l1442 : (-9223372036854775808) ≤ a1.ID ∧ a1.ID ≤ 9223372036854775807 := l1442
 refine s_sr (at_hv rfl ?_)
 refine hv_box (cs := [.int .i64 a0.ID, s1439]) rfl rfl rfl (fun b1443 => ?_)
 refine at_hv rfl ?_
 refine hv_box (cs := [.int .i64 a1.ID, s1440]) rfl rfl rfl (fun b1444 => ?_)
 refine s_as rfl (s_ntsr (at_lt (lt_load_box 1 rfl ti24 rfl rfl rfl rfl rfl) rfl ?_))
 replace hr := obind hr
 obtain ⟨x1445, h1446, hr⟩ := hr
 refine at_derive [2, 3] (ty24.fact (⟨a0.ID, a0.Fields⟩ : D_api_Record) [.int .i64 a0.ID, s1439]) rfl (fun F w h => mk24 (x := (⟨a0.ID, a0.Fields⟩ : D_api_Record)) h) ?_
 refine at_hv rfl (hv_call0 [0, 7] (f29_spec h1446) rfl rfl rfl rfl ?_)
 rintro _ _ ⟨s1447, rfl, rfl⟩
 refine at_inv 1 rfl (fun l1448 => ?_)
 replace l1448 : (-9223372036854775808) ≤ x1445.2 ∧ x1445.2 ≤ 9223372036854775807 := l1448
 refine s_mv rfl (at_lt (lt_extract rfl rfl) rfl (at_lt (lt_extract rfl rfl) rfl (s_as rfl (s_as rfl (s_ntsr (at_lt (lt_load_box 0 rfl ti24 rfl rfl rfl rfl rfl) rfl ?_))))))
 replace hr := obind hr
 obtain ⟨x1449, h1450, hr⟩ := hr
 refine at_derive [3, 4] (ty24.fact (⟨a1.ID, a1.Fields⟩ : D_api_Record) [.int .i64 a1.ID, s1440]) rfl (fun F w h => mk24 (x := (⟨a1.ID, a1.Fields⟩ : D_api_Record)) h) ?_
 refine at_hv rfl (hv_call0 [0, 10] (f29_spec h1450) rfl rfl rfl rfl ?_)
 rintro _ _ ⟨s1451, rfl, rfl⟩
 refine at_inv 1 rfl (fun l1452 => ?_)
 replace l1452 : (-9223372036854775808) ≤ x1449.2 ∧ x1449.2 ≤ 9223372036854775807 := l1452
 refine s_mv rfl (at_lt (lt_extract rfl rfl) rfl (at_lt (lt_extract rfl rfl) rfl (s_as rfl (s_as rfl (s_ntsr (s_mv rfl (s_mv rfl ?_)))))))
 replace hr := obind hr
 obtain ⟨x1453, h1454, hr⟩ := hr
 refine at_hv rfl (hv_call0 [3, 0] (f63_spec h1454) rfl rfl rfl rfl ?_)
 rintro _ _ ⟨rfl, rfl⟩
 refine at_inv 0 rfl (fun l1455 => ?_)
 replace l1455 : (-9223372036854775808) ≤ x1453 ∧ x1453 ≤ 9223372036854775807 := l1455
 refine s_as rfl (s_nt (at_ret ?_))
 have hq := oinj hr
 clear hr
 subst hq
 exact at_return (.int .i64 x1453) [0] hS Tryz.results28 (.cons (.tmp rfl) .nil) rfl rfl ⟨rfl, rfl⟩
def m6 (a0 : D_api_Record) (a1 : D_api_Record) (a2 : D_api_Record) : Option Bool :=
  (m11).bind fun x1465 =>
  if x1465 = true then
   (m12 (⟨a0.ID, a0.Fields⟩ : D_api_Record) 12).bind fun x1468 =>
   if x1468 = true then
    (m12 (⟨a1.ID, a1.Fields⟩ : D_api_Record) 12).bind fun x1471 =>
    if x1471 = true then
     (m12 (⟨a2.ID, a2.Fields⟩ : D_api_Record) 12).bind fun x1474 =>
     if x1474 = true then
      (m27 (⟨a0.ID, a0.Fields⟩ : D_api_Record)).bind fun x1477 =>
      if x1477 = true then
       (m27 (⟨a1.ID, a1.Fields⟩ : D_api_Record)).bind fun x1480 =>
       if x1480 = true then
        (m27 (⟨a2.ID, a2.Fields⟩ : D_api_Record)).bind fun x1483 =>
        if x1483 = true then
         (m28 (⟨a0.ID, a0.Fields⟩ : D_api_Record) (⟨a1.ID, a1.Fields⟩ : D_api_Record)).bind fun x1486 =>
         (m28 (⟨a1.ID, a1.Fields⟩ : D_api_Record) (⟨a2.ID, a2.Fields⟩ : D_api_Record)).bind fun x1489 =>
         (m28 (⟨a0.ID, a0.Fields⟩ : D_api_Record) (⟨a2.ID, a2.Fields⟩ : D_api_Record)).bind fun x1492 =>
         (m28 (⟨a1.ID, a1.Fields⟩ : D_api_Record) (⟨a0.ID, a0.Fields⟩ : D_api_Record)).bind fun x1498 =>
         if x1498 = IntKind.i64.wrap (0 - x1486) then
          (m17 (⟨a0.ID, a0.Fields⟩ : D_api_Record) (⟨a1.ID, a1.Fields⟩ : D_api_Record)).bind fun x1502 =>
          if ((decide (x1486 = 0)) == x1502) = true then
           (m28 (⟨a0.ID, a0.Fields⟩ : D_api_Record) (⟨a0.ID, a0.Fields⟩ : D_api_Record)).bind fun x1505 =>
           if x1505 = 0 then
            if (0 : Int) < x1486 then
             if x1486 < 0 then
              some true
             else
              if x1489 < 0 then
               some true
              else
               some (decide ((0 : Int) ≤ x1492))
            else
             if (0 : Int) < x1489 then
              if x1486 < 0 then
               some true
              else
               if x1489 < 0 then
                some true
               else
                some (decide ((0 : Int) ≤ x1492))
             else
              if x1492 ≤ 0 then
               if x1486 < 0 then
                some true
               else
                if x1489 < 0 then
                 some true
                else
                 some (decide ((0 : Int) ≤ x1492))
              else
               some false
           else
            some false
          else
           some false
         else
          some false
        else
         some true
       else
        some true
      else
       some true
     else
      some true
    else
     some true
   else
    some true
  else
   some false
def post6 (r : Bool) (v : Value) (fs : List Fact) : Prop := v = .bool r ∧ fs = []
theorem en6 : Enters Tryz.prog 6 := ⟨_, Tryz.func6, by kernel_rfl, rfl⟩
theorem f6_spec {a0 : D_api_Record} {a1 : D_api_Record} {a2 : D_api_Record} {s1456 : Value} {s1457 : Value} {s1458 : Value} {r : Bool} (hr : m6 a0 a1 a2 = some r) : Spec Tryz.prog 6 [.agg #[.int .i64 a0.ID, s1456], .agg #[.int .i64 a1.ID, s1457], .agg #[.int .i64 a2.ID, s1458]] [(ty24.fact a0 [.int .i64 a0.ID, s1456]), (ty24.fact a1 [.int .i64 a1.ID, s1457]), (ty24.fact a2 [.int .i64 a2.ID, s1458]), (tabsF Tryz.prog 4 5)] (post6 r) := by
 refine spec_start (N := 93) Tryz.func6 (by kernel_rfl) rfl rfl rfl ?_
 intro g hS
 unfold m6 at hr
 refine at_open (A := Unit) 0 rfl (fun _ => True) (fun _ => [((Ty.int .i64).fact a0.ID [.int .i64 a0.ID]), ((Ty.slice ty59).fact a0.Fields [s1456])]) (fun F w h => ⟨(), trivial, ex24 h⟩) (fun _ _ => ?_)
 refine at_inv 0 rfl (fun l1459 => ?_)
 replace l1459 : (-9223372036854775808) ≤ a0.ID ∧ a0.ID ≤ 9223372036854775807 := l1459
 refine at_open (A := Unit) 3 rfl (fun _ => True) (fun _ => [((Ty.int .i64).fact a1.ID [.int .i64 a1.ID]), ((Ty.slice ty59).fact a1.Fields [s1457])]) (fun F w h => ⟨(), trivial, ex24 h⟩) (fun _ _ => ?_)
 refine at_inv 0 rfl (fun l1460 => ?_)
 replace l1460 : (-9223372036854775808) ≤ a1.ID ∧ a1.ID ≤ 9223372036854775807 := l1460
 refine at_open (A := Unit) 6 rfl (fun _ => True) (fun _ => [((Ty.int .i64).fact a2.ID [.int .i64 a2.ID]), ((Ty.slice ty59).fact a2.Fields [s1458])]) (fun F w h => ⟨(), trivial, ex24 h⟩) (fun _ _ => ?_)
 refine at_inv 0 rfl (fun l1461 => ?_)
 replace l1461 : (-9223372036854775808) ≤ a2.ID ∧ a2.ID ≤ 9223372036854775807 := l1461
 refine s_sr (at_hv rfl ?_)
 refine hv_box (cs := [.int .i64 a0.ID, s1456]) rfl rfl rfl (fun b1462 => ?_)
 refine at_hv rfl ?_
 refine hv_box (cs := [.int .i64 a1.ID, s1457]) rfl rfl rfl (fun b1463 => ?_)
 refine at_hv rfl ?_
 refine hv_box (cs := [.int .i64 a2.ID, s1458]) rfl rfl rfl (fun b1464 => ?_)
 refine s_as rfl (s_nt (at_seq (s_sr ?_)))
 replace hr := obind hr
 obtain ⟨x1465, h1466, hr⟩ := hr
 refine at_hv rfl (hv_call0 [9] (f11_spec h1466) rfl rfl rfl rfl ?_)
 rintro _ _ ⟨rfl, rfl⟩
 refine at_lt (lt_not rfl) rfl (s_nt ?_)
 by_cases h1467 : x1465 = true
 ·replace hr := ipos h1467 hr
  refine at_false rfl (nt h1467) (at_skip (at_then (at_seq (s_sr (at_lt (lt_load_box 2 rfl ti24 rfl rfl rfl rfl rfl) rfl ?_)))))
  replace hr := obind hr
  obtain ⟨x1468, h1469, hr⟩ := hr
  refine at_derive [4, 5] (ty24.fact (⟨a0.ID, a0.Fields⟩ : D_api_Record) [.int .i64 a0.ID, s1456]) rfl (fun F w h => mk24 (x := (⟨a0.ID, a0.Fields⟩ : D_api_Record)) h) ?_
  refine at_int .i64 12 (by simp only [lo, hi]; omega) (at_hv rfl (hv_call0 [1, 0] (f12_spec h1469) rfl rfl rfl rfl ?_))
  rintro _ _ ⟨rfl, rfl⟩
  refine at_lt (lt_not rfl) rfl (s_mv rfl ?_)
  by_cases h1470 : x1468 = true
  ·replace hr := ipos h1470 hr
   refine at_on rfl rfl (nt h1470) (at_lt (lt_load_box 1 rfl ti24 rfl rfl rfl rfl rfl) rfl ?_)
   replace hr := obind hr
   obtain ⟨x1471, h1472, hr⟩ := hr
   refine at_derive [4, 5] (ty24.fact (⟨a1.ID, a1.Fields⟩ : D_api_Record) [.int .i64 a1.ID, s1457]) rfl (fun F w h => mk24 (x := (⟨a1.ID, a1.Fields⟩ : D_api_Record)) h) ?_
   refine at_on rfl rfl (nt h1470) (at_hv rfl (hv_call0 [0, 1] (f12_spec h1472) rfl rfl rfl rfl ?_))
   rintro _ _ ⟨rfl, rfl⟩
   refine at_on rfl rfl (nt h1470) (at_lt (lt_not rfl) rfl (at_lt (lt_pick false rfl (nt h1470) rfl) rfl (s_mv rfl ?_)))
   by_cases h1473 : x1471 = true
   ·replace hr := ipos h1473 hr
    refine at_on rfl rfl (nt h1473) (at_lt (lt_load_box 0 rfl ti24 rfl rfl rfl rfl rfl) rfl ?_)
    replace hr := obind hr
    obtain ⟨x1474, h1475, hr⟩ := hr
    refine at_derive [3, 4] (ty24.fact (⟨a2.ID, a2.Fields⟩ : D_api_Record) [.int .i64 a2.ID, s1458]) rfl (fun F w h => mk24 (x := (⟨a2.ID, a2.Fields⟩ : D_api_Record)) h) ?_
    refine at_on rfl rfl (nt h1473) (at_hv rfl (hv_call0 [0, 2] (f12_spec h1475) rfl rfl rfl rfl ?_))
    rintro _ _ ⟨rfl, rfl⟩
    refine at_on rfl rfl (nt h1473) (at_lt (lt_not rfl) rfl (at_lt (lt_pick false rfl (nt h1473) rfl) rfl (s_mv rfl ?_)))
    by_cases h1476 : x1474 = true
    ·replace hr := ipos h1476 hr
     refine at_on rfl rfl (nt h1476) (at_lt (lt_load_box 2 rfl ti24 rfl rfl rfl rfl rfl) rfl ?_)
     replace hr := obind hr
     obtain ⟨x1477, h1478, hr⟩ := hr
     refine at_on rfl rfl (nt h1476) (at_hv rfl (hv_call0 [3] (f27_spec h1478) rfl rfl rfl rfl ?_))
     rintro _ _ ⟨rfl, rfl⟩
     refine at_on rfl rfl (nt h1476) (at_lt (lt_not rfl) rfl (at_lt (lt_pick false rfl (nt h1476) rfl) rfl (s_mv rfl ?_)))
     by_cases h1479 : x1477 = true
     ·replace hr := ipos h1479 hr
      refine at_on rfl rfl (nt h1479) (at_lt (lt_load_box 1 rfl ti24 rfl rfl rfl rfl rfl) rfl ?_)
      replace hr := obind hr
      obtain ⟨x1480, h1481, hr⟩ := hr
      refine at_on rfl rfl (nt h1479) (at_hv rfl (hv_call0 [1] (f27_spec h1481) rfl rfl rfl rfl ?_))
      rintro _ _ ⟨rfl, rfl⟩
      refine at_on rfl rfl (nt h1479) (at_lt (lt_not rfl) rfl (at_lt (lt_pick false rfl (nt h1479) rfl) rfl (s_mv rfl ?_)))
      by_cases h1482 : x1480 = true
      ·replace hr := ipos h1482 hr
       refine at_on rfl rfl (nt h1482) (at_lt (lt_load_box 0 rfl ti24 rfl rfl rfl rfl rfl) rfl ?_)
       replace hr := obind hr
       obtain ⟨x1483, h1484, hr⟩ := hr
       refine at_on rfl rfl (nt h1482) (at_hv rfl (hv_call0 [0] (f27_spec h1484) rfl rfl rfl rfl ?_))
       rintro _ _ ⟨rfl, rfl⟩
       refine at_on rfl rfl (nt h1482) (at_lt (lt_not rfl) rfl (at_lt (lt_pick false rfl (nt h1482) rfl) rfl (s_nt ?_)))
       by_cases h1485 : x1483 = true
       ·replace hr := ipos h1485 hr
        refine at_false rfl (nt h1485) (at_skip (at_then (at_seq ?_)))
        replace hr := obind hr
        obtain ⟨x1486, h1487, hr⟩ := hr
        replace hr := obind hr
        obtain ⟨x1489, h1490, hr⟩ := hr
        replace hr := obind hr
        obtain ⟨x1492, h1493, hr⟩ := hr
        refine aa_start 12 (by kernel_rfl) ?_
        refine aa_l 0 rfl (lt_load_box 2 rfl ti24 rfl rfl rfl rfl rfl) (aa_l 1 rfl (lt_load_box 1 rfl ti24 rfl rfl rfl rfl rfl) (aa_l 3 rfl (lt_load_box 1 rfl ti24 rfl rfl rfl rfl rfl) (aa_l 4 rfl (lt_load_box 0 rfl ti24 rfl rfl rfl rfl rfl) (aa_l 6 rfl (lt_load_box 2 rfl ti24 rfl rfl rfl rfl rfl) (aa_l 7 rfl (lt_load_box 0 rfl ti24 rfl rfl rfl rfl rfl) (aa_one 2 (aa_op rfl rfl (hv_call0 [3, 1, 13] (f28_spec h1487) rfl rfl rfl rfl ?_))))))))
        rintro _ _ ⟨rfl, rfl⟩
        refine at_inv 0 rfl (fun l1495 => ?_)
        replace l1495 : (-9223372036854775808) ≤ x1486 ∧ x1486 ≤ 9223372036854775807 := l1495
        refine aa_all (rs := [5]) (by kernel_rfl) rfl (ts_in 0 1 rfl rfl) (List.forall_mem_singleton.2 ?_)
        refine aa_op rfl rfl (hv_call0 [2, 1, 14] (f28_spec h1490) rfl rfl rfl rfl ?_)
        rintro _ _ ⟨rfl, rfl⟩
        refine at_inv 0 rfl (fun l1496 => ?_)
        replace l1496 : (-9223372036854775808) ≤ x1489 ∧ x1489 ≤ 9223372036854775807 := l1496
        refine aa_all (rs := [8]) (by kernel_rfl) rfl (ts_in 0 2 rfl rfl) (List.forall_mem_singleton.2 ?_)
        refine aa_op rfl rfl (hv_call0 [5, 2, 15] (f28_spec h1493) rfl rfl rfl rfl ?_)
        rintro _ _ ⟨rfl, rfl⟩
        refine at_inv 0 rfl (fun l1497 => ?_)
        replace l1497 : (-9223372036854775808) ≤ x1492 ∧ x1492 ≤ 9223372036854775807 := l1497
        refine aa_pure 9 rfl (by kernel_rfl) rfl rfl (lt_assign rfl) rfl (ts_in 0 3 rfl rfl) ?_
        refine aa_pure 10 rfl (by kernel_rfl) rfl rfl (lt_assign rfl) rfl (ts_in 0 3 rfl rfl) ?_
        refine aa_pure 11 rfl (by kernel_rfl) rfl rfl (lt_assign rfl) rfl (ts_in 0 3 rfl rfl) ?_
        refine aa_done (by kernel_rfl) (ts_in 0 3 rfl rfl) ?_
        refine s_tsr (at_lt (lt_load_box 1 rfl ti24 rfl rfl rfl rfl rfl) rfl (at_lt (lt_load_box 2 rfl ti24 rfl rfl rfl rfl rfl) rfl ?_))
        replace hr := obind hr
        obtain ⟨x1498, h1499, hr⟩ := hr
        refine at_hv rfl (hv_call0 [4, 6, 16] (f28_spec h1499) rfl rfl rfl rfl ?_)
        rintro _ _ ⟨rfl, rfl⟩
        refine at_inv 0 rfl (fun l1500 => ?_)
        replace l1500 : (-9223372036854775808) ≤ x1498 ∧ x1498 ≤ 9223372036854775807 := l1500
        refine s_mv rfl (at_lt (lt_neg rfl) rfl (at_lt (lt_eql rfl rfl) rfl (s_mv rfl ?_)))
        by_cases h1501 : x1498 = IntKind.i64.wrap (0 - x1486)
        ·replace hr := ipos h1501 hr
         refine at_on rfl rfl (decide_eq_true (by first | exact h1501 | omega)) ?_
         refine s_mv rfl ?_
         refine at_on rfl rfl (decide_eq_true (by first | exact h1501 | omega)) ?_
         refine at_lt (lt_eql rfl rfl) rfl ?_
         refine at_on rfl rfl (decide_eq_true (by first | exact h1501 | omega)) ?_
         refine at_lt (lt_load_box 2 rfl ti24 rfl rfl rfl rfl rfl) rfl ?_
         refine at_on rfl rfl (decide_eq_true (by first | exact h1501 | omega)) ?_
         refine at_lt (lt_load_box 1 rfl ti24 rfl rfl rfl rfl rfl) rfl ?_
         replace hr := obind hr
         obtain ⟨x1502, h1503, hr⟩ := hr
         refine at_on rfl rfl (decide_eq_true (by first | exact h1501 | omega)) ?_
         refine at_hv rfl (hv_call0 [7, 5] (f17_spec h1503) rfl rfl rfl rfl ?_)
         rintro _ _ ⟨rfl, rfl⟩
         refine at_on rfl rfl (decide_eq_true (by first | exact h1501 | omega)) ?_
         refine at_lt (lt_beq rfl rfl und4) rfl ?_
         refine at_lt (lt_pick true rfl (decide_eq_true (by first | exact h1501 | omega)) rfl) rfl ?_
         refine s_mv rfl ?_
         by_cases h1504 : ((decide (x1486 = 0)) == x1502) = true
         ·replace hr := ipos h1504 hr
          refine at_on rfl rfl h1504 (at_lt (lt_load_box 2 rfl ti24 rfl rfl rfl rfl rfl) rfl (at_on rfl rfl h1504 (at_lt (lt_load_box 2 rfl ti24 rfl rfl rfl rfl rfl) rfl ?_)))
          replace hr := obind hr
          obtain ⟨x1505, h1506, hr⟩ := hr
          refine at_on rfl rfl h1504 (at_hv rfl (hv_call0 [7, 7, 17] (f28_spec h1506) rfl rfl rfl rfl ?_))
          rintro _ _ ⟨rfl, rfl⟩
          refine at_inv 0 rfl (fun l1507 => ?_)
          replace l1507 : (-9223372036854775808) ≤ x1505 ∧ x1505 ≤ 9223372036854775807 := l1507
          refine at_on rfl rfl h1504 (at_lt (lt_eql rfl rfl) rfl (at_lt (lt_pick true rfl h1504 rfl) rfl (s_mv rfl ?_)))
          by_cases h1508 : x1505 = 0
          ·replace hr := ipos h1508 hr
           refine at_on rfl rfl (decide_eq_true (by first | exact h1508 | omega)) ?_
           refine s_mv rfl ?_
           refine at_on rfl rfl (decide_eq_true (by first | exact h1508 | omega)) ?_
           refine at_lt (lt_gtr rfl rfl) rfl ?_
           refine at_on rfl rfl (decide_eq_true (by first | exact h1508 | omega)) ?_
           refine s_mv rfl ?_
           by_cases h1509 : (0 : Int) < x1486
           ·replace hr := ipos h1509 hr
            refine at_off rfl rfl (decide_eq_true (by first | exact h1509 | omega)) rfl ?_
            refine at_off rfl rfl (decide_eq_true (by first | exact h1509 | omega)) rfl ?_
            refine at_on rfl rfl (decide_eq_true (by first | exact h1508 | omega)) ?_
            refine at_lt (lt_pick true rfl (decide_eq_true (by first | exact h1509 | omega)) rfl) rfl ?_
            refine at_on rfl rfl (decide_eq_true (by first | exact h1508 | omega)) ?_
            refine s_mv rfl (at_off rfl rfl rfl rfl (at_off rfl rfl rfl rfl ?_))
            refine at_on rfl rfl (decide_eq_true (by first | exact h1508 | omega)) ?_
            refine at_lt (lt_pick true rfl rfl rfl) rfl ?_
            refine at_lt (lt_pick true rfl (decide_eq_true (by first | exact h1508 | omega)) rfl) rfl ?_
            refine s_mv rfl (at_on rfl rfl rfl (s_mv rfl (at_on rfl rfl rfl (at_lt (lt_lss rfl rfl) rfl (at_on rfl rfl rfl (s_mv rfl ?_))))))
            by_cases h1510 : x1486 < 0
            ·replace hr := ipos h1510 hr
             refine at_off rfl rfl (decide_eq_true (by first | exact h1510 | omega)) rfl ?_
             refine at_off rfl rfl (decide_eq_true (by first | exact h1510 | omega)) rfl ?_
             refine at_on rfl rfl rfl ?_
             refine at_lt (lt_pick true rfl (decide_eq_true (by first | exact h1510 | omega)) rfl) rfl ?_
             refine at_on rfl rfl rfl (s_mv rfl (at_off rfl rfl rfl rfl (at_off rfl rfl rfl rfl (at_on rfl rfl rfl (at_lt (lt_pick true rfl rfl rfl) rfl (at_lt (lt_pick true rfl rfl rfl) rfl (s_as rfl (s_nt (at_ret ?_)))))))))
             have hq := oinj hr
             clear hr
             subst hq
             exact at_return (.bool true) [] hS Tryz.results6 (.cons (.tmp rfl) .nil) rfl rfl ⟨rfl, rfl⟩
            replace hr := ineg h1510 hr
            refine at_on rfl rfl (decide_eq_false (by first | exact h1510 | omega)) ?_
            refine s_mv rfl ?_
            refine at_on rfl rfl (decide_eq_false (by first | exact h1510 | omega)) ?_
            refine at_lt (lt_lss rfl rfl) rfl (at_on rfl rfl rfl ?_)
            refine at_lt (lt_pick false rfl (decide_eq_false (by first | exact h1510 | omega)) rfl) rfl ?_
            refine at_on rfl rfl rfl (s_mv rfl ?_)
            by_cases h1511 : x1489 < 0
            ·replace hr := ipos h1511 hr
             refine at_off rfl rfl (decide_eq_true (by first | exact h1511 | omega)) rfl ?_
             refine at_off rfl rfl (decide_eq_true (by first | exact h1511 | omega)) rfl ?_
             refine at_on rfl rfl rfl ?_
             refine at_lt (lt_pick true rfl (decide_eq_true (by first | exact h1511 | omega)) rfl) rfl ?_
             refine at_lt (lt_pick true rfl rfl rfl) rfl (s_as rfl (s_nt (at_ret ?_)))
             have hq := oinj hr
             clear hr
             subst hq
             exact at_return (.bool true) [] hS Tryz.results6 (.cons (.tmp rfl) .nil) rfl rfl ⟨rfl, rfl⟩
            replace hr := ineg h1511 hr
            refine at_on rfl rfl (decide_eq_false (by first | exact h1511 | omega)) ?_
            refine s_mv rfl ?_
            refine at_on rfl rfl (decide_eq_false (by first | exact h1511 | omega)) ?_
            refine at_lt (lt_geq rfl rfl) rfl (at_on rfl rfl rfl ?_)
            refine at_lt (lt_pick false rfl (decide_eq_false (by first | exact h1511 | omega)) rfl) rfl ?_
            refine at_lt (lt_pick true rfl rfl rfl) rfl (s_as rfl (s_nt (at_ret ?_)))
            have hq := oinj hr
            clear hr
            subst hq
            exact at_return (.bool (decide ((0 : Int) ≤ x1492))) [] hS Tryz.results6 (.cons (.tmp rfl) .nil) rfl rfl ⟨rfl, rfl⟩
           replace hr := ineg h1509 hr
           refine at_on rfl rfl (decide_eq_false (by first | exact h1509 | omega)) ?_
           refine s_mv rfl ?_
           refine at_on rfl rfl (decide_eq_false (by first | exact h1509 | omega)) ?_
           refine at_lt (lt_gtr rfl rfl) rfl ?_
           refine at_on rfl rfl (decide_eq_true (by first | exact h1508 | omega)) ?_
           refine at_lt (lt_pick false rfl (decide_eq_false (by first | exact h1509 | omega)) rfl) rfl ?_
           refine at_on rfl rfl (decide_eq_true (by first | exact h1508 | omega)) ?_
           refine s_mv rfl ?_
           by_cases h1512 : (0 : Int) < x1489
           ·replace hr := ipos h1512 hr
            refine at_off rfl rfl (decide_eq_true (by first | exact h1512 | omega)) rfl ?_
            refine at_off rfl rfl (decide_eq_true (by first | exact h1512 | omega)) rfl ?_
            refine at_on rfl rfl (decide_eq_true (by first | exact h1508 | omega)) ?_
            refine at_lt (lt_pick true rfl (decide_eq_true (by first | exact h1512 | omega)) rfl) rfl ?_
            refine at_lt (lt_pick true rfl (decide_eq_true (by first | exact h1508 | omega)) rfl) rfl ?_
            refine s_mv rfl (at_on rfl rfl rfl (s_mv rfl (at_on rfl rfl rfl (at_lt (lt_lss rfl rfl) rfl (at_on rfl rfl rfl (s_mv rfl ?_))))))
            by_cases h1513 : x1486 < 0
            ·replace hr := ipos h1513 hr
             refine at_off rfl rfl (decide_eq_true (by first | exact h1513 | omega)) rfl ?_
             refine at_off rfl rfl (decide_eq_true (by first | exact h1513 | omega)) rfl ?_
             refine at_on rfl rfl rfl ?_
             refine at_lt (lt_pick true rfl (decide_eq_true (by first | exact h1513 | omega)) rfl) rfl ?_
             refine at_on rfl rfl rfl (s_mv rfl (at_off rfl rfl rfl rfl (at_off rfl rfl rfl rfl (at_on rfl rfl rfl (at_lt (lt_pick true rfl rfl rfl) rfl (at_lt (lt_pick true rfl rfl rfl) rfl (s_as rfl (s_nt (at_ret ?_)))))))))
             have hq := oinj hr
             clear hr
             subst hq
             exact at_return (.bool true) [] hS Tryz.results6 (.cons (.tmp rfl) .nil) rfl rfl ⟨rfl, rfl⟩
            replace hr := ineg h1513 hr
            refine at_on rfl rfl (decide_eq_false (by first | exact h1513 | omega)) ?_
            refine s_mv rfl ?_
            refine at_on rfl rfl (decide_eq_false (by first | exact h1513 | omega)) ?_
            refine at_lt (lt_lss rfl rfl) rfl (at_on rfl rfl rfl ?_)
            refine at_lt (lt_pick false rfl (decide_eq_false (by first | exact h1513 | omega)) rfl) rfl ?_
            refine at_on rfl rfl rfl (s_mv rfl ?_)
            by_cases h1514 : x1489 < 0
            ·replace hr := ipos h1514 hr
             refine at_off rfl rfl (decide_eq_true (by first | exact h1514 | omega)) rfl ?_
             refine at_off rfl rfl (decide_eq_true (by first | exact h1514 | omega)) rfl ?_
             refine at_on rfl rfl rfl ?_
             refine at_lt (lt_pick true rfl (decide_eq_true (by first | exact h1514 | omega)) rfl) rfl ?_
             refine at_lt (lt_pick true rfl rfl rfl) rfl (s_as rfl (s_nt (at_ret ?_)))
             have hq := oinj hr
             clear hr
             subst hq
             exact at_return (.bool true) [] hS Tryz.results6 (.cons (.tmp rfl) .nil) rfl rfl ⟨rfl, rfl⟩
            replace hr := ineg h1514 hr
            refine at_on rfl rfl (decide_eq_false (by first | exact h1514 | omega)) ?_
            refine s_mv rfl ?_
            refine at_on rfl rfl (decide_eq_false (by first | exact h1514 | omega)) ?_
            refine at_lt (lt_geq rfl rfl) rfl (at_on rfl rfl rfl ?_)
            refine at_lt (lt_pick false rfl (decide_eq_false (by first | exact h1514 | omega)) rfl) rfl ?_
            refine at_lt (lt_pick true rfl rfl rfl) rfl (s_as rfl (s_nt (at_ret ?_)))
            have hq := oinj hr
            clear hr
            subst hq
            exact at_return (.bool (decide ((0 : Int) ≤ x1492))) [] hS Tryz.results6 (.cons (.tmp rfl) .nil) rfl rfl ⟨rfl, rfl⟩
           replace hr := ineg h1512 hr
           refine at_on rfl rfl (decide_eq_false (by first | exact h1512 | omega)) ?_
           refine s_mv rfl ?_
           refine at_on rfl rfl (decide_eq_false (by first | exact h1512 | omega)) ?_
           refine at_lt (lt_leq rfl rfl) rfl ?_
           refine at_on rfl rfl (decide_eq_true (by first | exact h1508 | omega)) ?_
           refine at_lt (lt_pick false rfl (decide_eq_false (by first | exact h1512 | omega)) rfl) rfl ?_
           refine at_lt (lt_pick true rfl (decide_eq_true (by first | exact h1508 | omega)) rfl) rfl ?_
           refine s_mv rfl ?_
           by_cases h1515 : x1492 ≤ 0
           ·replace hr := ipos h1515 hr
            refine at_on rfl rfl (decide_eq_true (by first | exact h1515 | omega)) ?_
            refine s_mv rfl ?_
            refine at_on rfl rfl (decide_eq_true (by first | exact h1515 | omega)) ?_
            refine at_lt (lt_lss rfl rfl) rfl ?_
            refine at_on rfl rfl (decide_eq_true (by first | exact h1515 | omega)) ?_
            refine s_mv rfl ?_
            by_cases h1516 : x1486 < 0
            ·replace hr := ipos h1516 hr
             refine at_off rfl rfl (decide_eq_true (by first | exact h1516 | omega)) rfl ?_
             refine at_off rfl rfl (decide_eq_true (by first | exact h1516 | omega)) rfl ?_
             refine at_on rfl rfl (decide_eq_true (by first | exact h1515 | omega)) ?_
             refine at_lt (lt_pick true rfl (decide_eq_true (by first | exact h1516 | omega)) rfl) rfl ?_
             refine at_on rfl rfl (decide_eq_true (by first | exact h1515 | omega)) ?_
             refine s_mv rfl (at_off rfl rfl rfl rfl (at_off rfl rfl rfl rfl ?_))
             refine at_on rfl rfl (decide_eq_true (by first | exact h1515 | omega)) ?_
             refine at_lt (lt_pick true rfl rfl rfl) rfl ?_
             refine at_lt (lt_pick true rfl (decide_eq_true (by first | exact h1515 | omega)) rfl) rfl ?_
             refine s_as rfl (s_nt (at_ret ?_))
             have hq := oinj hr
             clear hr
             subst hq
             exact at_return (.bool true) [] hS Tryz.results6 (.cons (.tmp rfl) .nil) rfl rfl ⟨rfl, rfl⟩
            replace hr := ineg h1516 hr
            refine at_on rfl rfl (decide_eq_false (by first | exact h1516 | omega)) ?_
            refine s_mv rfl ?_
            refine at_on rfl rfl (decide_eq_false (by first | exact h1516 | omega)) ?_
            refine at_lt (lt_lss rfl rfl) rfl ?_
            refine at_on rfl rfl (decide_eq_true (by first | exact h1515 | omega)) ?_
            refine at_lt (lt_pick false rfl (decide_eq_false (by first | exact h1516 | omega)) rfl) rfl ?_
            refine at_on rfl rfl (decide_eq_true (by first | exact h1515 | omega)) ?_
            refine s_mv rfl ?_
            by_cases h1517 : x1489 < 0
            ·replace hr := ipos h1517 hr
             refine at_off rfl rfl (decide_eq_true (by first | exact h1517 | omega)) rfl ?_
             refine at_off rfl rfl (decide_eq_true (by first | exact h1517 | omega)) rfl ?_
             refine at_on rfl rfl (decide_eq_true (by first | exact h1515 | omega)) ?_
             refine at_lt (lt_pick true rfl (decide_eq_true (by first | exact h1517 | omega)) rfl) rfl ?_
             refine at_lt (lt_pick true rfl (decide_eq_true (by first | exact h1515 | omega)) rfl) rfl ?_
             refine s_as rfl (s_nt (at_ret ?_))
             have hq := oinj hr
             clear hr
             subst hq
             exact at_return (.bool true) [] hS Tryz.results6 (.cons (.tmp rfl) .nil) rfl rfl ⟨rfl, rfl⟩
            replace hr := ineg h1517 hr
            refine at_on rfl rfl (decide_eq_false (by first | exact h1517 | omega)) ?_
            refine s_mv rfl ?_
            refine at_on rfl rfl (decide_eq_false (by first | exact h1517 | omega)) ?_
            refine at_lt (lt_geq rfl rfl) rfl ?_
            refine at_on rfl rfl (decide_eq_true (by first | exact h1515 | omega)) ?_
            refine at_lt (lt_pick false rfl (decide_eq_false (by first | exact h1517 | omega)) rfl) rfl ?_
            refine at_lt (lt_pick true rfl (decide_eq_true (by first | exact h1515 | omega)) rfl) rfl ?_
            refine s_as rfl (s_nt (at_ret ?_))
            have hq := oinj hr
            clear hr
            subst hq
            exact at_return (.bool (decide ((0 : Int) ≤ x1492))) [] hS Tryz.results6 (.cons (.tmp rfl) .nil) rfl rfl ⟨rfl, rfl⟩
           replace hr := ineg h1515 hr
           refine at_off rfl rfl (decide_eq_false (by first | exact h1515 | omega)) rfl ?_
           refine at_off rfl rfl (decide_eq_false (by first | exact h1515 | omega)) rfl ?_
           refine at_off rfl rfl (decide_eq_false (by first | exact h1515 | omega)) rfl ?_
           refine at_offu rfl rfl rfl (at_offu rfl rfl rfl ?_)
           refine at_off rfl rfl (decide_eq_false (by first | exact h1515 | omega)) rfl ?_
           refine at_off rfl rfl (decide_eq_false (by first | exact h1515 | omega)) rfl ?_
           refine at_offu rfl rfl rfl (at_offu rfl rfl rfl ?_)
           refine at_off rfl rfl (decide_eq_false (by first | exact h1515 | omega)) rfl ?_
           refine at_lt (lt_pick false rfl (decide_eq_false (by first | exact h1515 | omega)) rfl) rfl ?_
           refine s_as rfl (s_nt (at_ret ?_))
           have hq := oinj hr
           clear hr
           subst hq
           exact at_return (.bool false) [] hS Tryz.results6 (.cons (.tmp rfl) .nil) rfl rfl ⟨rfl, rfl⟩
          replace hr := ineg h1508 hr
          refine at_off rfl rfl (decide_eq_false (by first | exact h1508 | omega)) rfl ?_
          refine at_off rfl rfl (decide_eq_false (by first | exact h1508 | omega)) rfl ?_
          refine at_off rfl rfl (decide_eq_false (by first | exact h1508 | omega)) rfl ?_
          refine at_offu rfl rfl rfl (at_offu rfl rfl rfl ?_)
          refine at_off rfl rfl (decide_eq_false (by first | exact h1508 | omega)) rfl ?_
          refine at_off rfl rfl (decide_eq_false (by first | exact h1508 | omega)) rfl ?_
          refine at_offu rfl rfl rfl (at_offu rfl rfl rfl ?_)
          refine at_off rfl rfl (decide_eq_false (by first | exact h1508 | omega)) rfl ?_
          refine at_lt (lt_pick false rfl (decide_eq_false (by first | exact h1508 | omega)) rfl) rfl ?_
          refine s_mv rfl (at_off rfl rfl rfl rfl (at_off rfl rfl rfl rfl (at_off rfl rfl rfl rfl (at_offu rfl rfl rfl (at_offu rfl rfl rfl (at_off rfl rfl rfl rfl (at_off rfl rfl rfl rfl (at_offu rfl rfl rfl (at_offu rfl rfl rfl ?_)))))))))
          refine at_off rfl rfl rfl rfl (at_lt (lt_pick false rfl rfl rfl) rfl (s_as rfl (s_nt (at_ret ?_))))
          have hq := oinj hr
          clear hr
          subst hq
          exact at_return (.bool false) [] hS Tryz.results6 (.cons (.tmp rfl) .nil) rfl rfl ⟨rfl, rfl⟩
         replace hr := ineg h1504 hr
         refine at_off rfl rfl (bf h1504) rfl (at_off rfl rfl (bf h1504) rfl (at_off rfl rfl (bf h1504) rfl (at_off rfl rfl (bf h1504) rfl (at_lt (lt_pick false rfl (bf h1504) rfl) rfl (s_mv rfl (at_off rfl rfl rfl rfl (at_off rfl rfl rfl rfl (at_off rfl rfl rfl rfl (at_offu rfl rfl rfl ?_)))))))))
         refine at_offu rfl rfl rfl (at_off rfl rfl rfl rfl (at_off rfl rfl rfl rfl (at_offu rfl rfl rfl (at_offu rfl rfl rfl (at_off rfl rfl rfl rfl (at_lt (lt_pick false rfl rfl rfl) rfl (s_mv rfl (at_off rfl rfl rfl rfl (at_off rfl rfl rfl rfl ?_)))))))))
         refine at_off rfl rfl rfl rfl (at_offu rfl rfl rfl (at_offu rfl rfl rfl (at_off rfl rfl rfl rfl (at_off rfl rfl rfl rfl (at_offu rfl rfl rfl (at_offu rfl rfl rfl (at_off rfl rfl rfl rfl (at_lt (lt_pick false rfl rfl rfl) rfl (s_as rfl ?_)))))))))
         refine s_nt (at_ret ?_)
         have hq := oinj hr
         clear hr
         subst hq
         exact at_return (.bool false) [] hS Tryz.results6 (.cons (.tmp rfl) .nil) rfl rfl ⟨rfl, rfl⟩
        replace hr := ineg h1501 hr
        refine at_off rfl rfl (decide_eq_false (by first | exact h1501 | omega)) rfl ?_
        refine at_off rfl rfl (decide_eq_false (by first | exact h1501 | omega)) rfl ?_
        refine at_off rfl rfl (decide_eq_false (by first | exact h1501 | omega)) rfl ?_
        refine at_off rfl rfl (decide_eq_false (by first | exact h1501 | omega)) rfl ?_
        refine at_off rfl rfl (decide_eq_false (by first | exact h1501 | omega)) rfl ?_
        refine at_off rfl rfl (decide_eq_false (by first | exact h1501 | omega)) rfl ?_
        refine at_lt (lt_pick false rfl (decide_eq_false (by first | exact h1501 | omega)) rfl) rfl ?_
        refine s_mv rfl (at_off rfl rfl rfl rfl (at_off rfl rfl rfl rfl (at_off rfl rfl rfl rfl (at_off rfl rfl rfl rfl (at_lt (lt_pick false rfl rfl rfl) rfl (s_mv rfl (at_off rfl rfl rfl rfl (at_off rfl rfl rfl rfl (at_off rfl rfl rfl rfl ?_)))))))))
        refine at_offu rfl rfl rfl (at_offu rfl rfl rfl (at_off rfl rfl rfl rfl (at_off rfl rfl rfl rfl (at_offu rfl rfl rfl (at_offu rfl rfl rfl (at_off rfl rfl rfl rfl (at_lt (lt_pick false rfl rfl rfl) rfl (s_mv rfl (at_off rfl rfl rfl rfl ?_)))))))))
        refine at_off rfl rfl rfl rfl (at_off rfl rfl rfl rfl (at_offu rfl rfl rfl (at_offu rfl rfl rfl (at_off rfl rfl rfl rfl (at_off rfl rfl rfl rfl (at_offu rfl rfl rfl (at_offu rfl rfl rfl (at_off rfl rfl rfl rfl (at_lt (lt_pick false rfl rfl rfl) rfl ?_)))))))))
        refine s_as rfl (s_nt (at_ret ?_))
        have hq := oinj hr
        clear hr
        subst hq
        exact at_return (.bool false) [] hS Tryz.results6 (.cons (.tmp rfl) .nil) rfl rfl ⟨rfl, rfl⟩
       replace hr := ineg h1485 hr
       refine at_true rfl (nf (bf h1485)) (s_sr (s_as rfl (s_nt (at_ret ?_))))
       have hq := oinj hr
       clear hr
       subst hq
       refine at_then_ret ?_
       exact at_return (.bool true) [] hS Tryz.results6 (.cons (.tmp rfl) .nil) rfl rfl ⟨rfl, rfl⟩
      replace hr := ineg h1482 hr
      refine at_off rfl rfl (nf (bf h1482)) rfl (at_off rfl rfl (nf (bf h1482)) rfl (at_off rfl rfl (nf (bf h1482)) rfl (at_lt (lt_pick true rfl (nf (bf h1482)) rfl) rfl (s_nt (at_true rfl rfl (s_sr (s_as rfl (s_nt (at_ret ?_)))))))))
      have hq := oinj hr
      clear hr
      subst hq
      refine at_then_ret ?_
      exact at_return (.bool true) [] hS Tryz.results6 (.cons (.tmp rfl) .nil) rfl rfl ⟨rfl, rfl⟩
     replace hr := ineg h1479 hr
     refine at_off rfl rfl (nf (bf h1479)) rfl (at_off rfl rfl (nf (bf h1479)) rfl (at_off rfl rfl (nf (bf h1479)) rfl (at_lt (lt_pick true rfl (nf (bf h1479)) rfl) rfl (s_mv rfl (at_off rfl rfl rfl rfl (at_off rfl rfl rfl rfl (at_off rfl rfl rfl rfl (at_lt (lt_pick true rfl rfl rfl) rfl (s_nt ?_)))))))))
     refine at_true rfl rfl (s_sr (s_as rfl (s_nt (at_ret ?_))))
     have hq := oinj hr
     clear hr
     subst hq
     refine at_then_ret ?_
     exact at_return (.bool true) [] hS Tryz.results6 (.cons (.tmp rfl) .nil) rfl rfl ⟨rfl, rfl⟩
    replace hr := ineg h1476 hr
    refine at_off rfl rfl (nf (bf h1476)) rfl (at_off rfl rfl (nf (bf h1476)) rfl (at_off rfl rfl (nf (bf h1476)) rfl (at_lt (lt_pick true rfl (nf (bf h1476)) rfl) rfl (s_mv rfl (at_off rfl rfl rfl rfl (at_off rfl rfl rfl rfl (at_off rfl rfl rfl rfl (at_lt (lt_pick true rfl rfl rfl) rfl (s_mv rfl ?_)))))))))
    refine at_off rfl rfl rfl rfl (at_off rfl rfl rfl rfl (at_off rfl rfl rfl rfl (at_lt (lt_pick true rfl rfl rfl) rfl (s_nt (at_true rfl rfl (s_sr (s_as rfl (s_nt (at_ret ?_)))))))))
    have hq := oinj hr
    clear hr
    subst hq
    refine at_then_ret ?_
    exact at_return (.bool true) [] hS Tryz.results6 (.cons (.tmp rfl) .nil) rfl rfl ⟨rfl, rfl⟩
   replace hr := ineg h1473 hr
   refine at_off rfl rfl (nf (bf h1473)) rfl (at_off rfl rfl (nf (bf h1473)) rfl (at_off rfl rfl (nf (bf h1473)) rfl (at_lt (lt_pick true rfl (nf (bf h1473)) rfl) rfl (s_mv rfl (at_off rfl rfl rfl rfl (at_off rfl rfl rfl rfl (at_off rfl rfl rfl rfl (at_lt (lt_pick true rfl rfl rfl) rfl (s_mv rfl ?_)))))))))
   refine at_off rfl rfl rfl rfl (at_off rfl rfl rfl rfl (at_off rfl rfl rfl rfl (at_lt (lt_pick true rfl rfl rfl) rfl (s_mv rfl (at_off rfl rfl rfl rfl (at_off rfl rfl rfl rfl (at_off rfl rfl rfl rfl (at_lt (lt_pick true rfl rfl rfl) rfl (s_nt ?_)))))))))
   refine at_true rfl rfl (s_sr (s_as rfl (s_nt (at_ret ?_))))
   have hq := oinj hr
   clear hr
   subst hq
   refine at_then_ret ?_
   exact at_return (.bool true) [] hS Tryz.results6 (.cons (.tmp rfl) .nil) rfl rfl ⟨rfl, rfl⟩
  replace hr := ineg h1470 hr
  refine at_off rfl rfl (nf (bf h1470)) rfl (at_off rfl rfl (nf (bf h1470)) rfl (at_off rfl rfl (nf (bf h1470)) rfl (at_lt (lt_pick true rfl (nf (bf h1470)) rfl) rfl (s_mv rfl (at_off rfl rfl rfl rfl (at_off rfl rfl rfl rfl (at_off rfl rfl rfl rfl (at_lt (lt_pick true rfl rfl rfl) rfl (s_mv rfl ?_)))))))))
  refine at_off rfl rfl rfl rfl (at_off rfl rfl rfl rfl (at_off rfl rfl rfl rfl (at_lt (lt_pick true rfl rfl rfl) rfl (s_mv rfl (at_off rfl rfl rfl rfl (at_off rfl rfl rfl rfl (at_off rfl rfl rfl rfl (at_lt (lt_pick true rfl rfl rfl) rfl (s_mv rfl ?_)))))))))
  refine at_off rfl rfl rfl rfl (at_off rfl rfl rfl rfl (at_off rfl rfl rfl rfl (at_lt (lt_pick true rfl rfl rfl) rfl (s_nt (at_true rfl rfl (s_sr (s_as rfl (s_nt (at_ret ?_)))))))))
  have hq := oinj hr
  clear hr
  subst hq
  refine at_then_ret ?_
  exact at_return (.bool true) [] hS Tryz.results6 (.cons (.tmp rfl) .nil) rfl rfl ⟨rfl, rfl⟩
 replace hr := ineg h1467 hr
 refine at_true rfl (nf (bf h1467)) (s_sr (s_as rfl (s_nt (at_ret ?_))))
 have hq := oinj hr
 clear hr
 subst hq
 refine at_then_ret ?_
 exact at_return (.bool false) [] hS Tryz.results6 (.cons (.tmp rfl) .nil) rfl rfl ⟨rfl, rfl⟩
end Go.WK.S
