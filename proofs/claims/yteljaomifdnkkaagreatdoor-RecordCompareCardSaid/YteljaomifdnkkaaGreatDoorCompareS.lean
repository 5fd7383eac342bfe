/- The methods of strings.Builder, as contracts with the builder's variable and its row of bytes handed over; numbers to strings and back, by the shelf. -/
import Derived.Test.YteljaomifdnkkaaGreatDoorCompareT
import Derived.Test.YteljaomifdnkkaaGreatDoorCompareKT
set_option linter.unusedSimpArgs false
set_option linter.unusedVariables false
namespace Go.WK.S
open Go Go.Proofs Go.WK Go.RowKit Go.Shelf
set_option linter.unusedVariables false
set_option linter.unusedSimpArgs false
set_option maxRecDepth 100000
set_option maxHeartbeats 4000000
theorem kb_uP : Tryz.prog.underlying 113 = some (.pointer 115) := by kernel_rfl
theorem kb_uU : Tryz.prog.underlying 169 = some .unsafePointer := by kernel_rfl
theorem kb_uS : Tryz.prog.underlying 48 = some (.slice 5) := by kernel_rfl
theorem kb_uT : Tryz.prog.underlying 9 = some .string := by kernel_rfl
theorem kb_uEP : Tryz.prog.underlying 147 = some (.pointer 5) := by kernel_rfl
theorem kb_cE : Tryz.prog.cellsOf 5 = 1 := by kernel_rfl
theorem kb_tiP : tinf Tryz.prog 113 = some (.pointer none, 1, 8, false) := by kernel_rfl
theorem kb_tiS : tinf Tryz.prog 48 = some (.slice none 0 0, 1, 24, false) := by kernel_rfl
theorem kb_tiE : tinf Tryz.prog 5 = some (.int .u8 0, 1, 1, false) := by kernel_rfl
theorem kb_f0 : fldOff Tryz.prog 115 0 = some 0 := by kernel_rfl
theorem kb_f1 : fldOff Tryz.prog 115 1 = some 1 := by kernel_rfl
theorem kb_sz : (Tryz.prog.info? 115).map (·.size) = some 2 := by kernel_rfl
theorem kb_lies : liesAt Tryz.prog Tryz.prog.depth 115 (2 / Tryz.prog.cellsOf 115) 0 115 1 = true := by kernel_rfl
abbrev kbp (b : Nat) : Value := .pointer (some (Addr.add ⟨b, 0, none⟩ 0))
theorem f133_fresh {b : Nat} {v : Value} : SpecH Tryz.prog 133 [kbp b] [⟨b, [.pointer none, v], 115⟩] [] [] (fun u bx rw fs => u = .tuple #[] ∧ bx = [⟨b, [kbp b, v], 115⟩] ∧ rw = [] ∧ fs = []) := by
 refine specH_start (N := 20) Tryz.func133 (by kernel_rfl) rfl rfl rfl ?_
 intro g hS
 refine s_sr ?_
 refine s_mv rfl ?_
 refine at_lt (lt_nilCheck rfl) rfl ?_
 refine at_lt (lt_fieldAddr 0 rfl kb_f0 rfl) rfl ?_
 refine at_lt (lt_load_box 0 rfl kb_tiP rfl rfl rfl rfl rfl) rfl ?_
 refine at_lt (lt_eqp0 rfl kb_uP) rfl ?_
 refine s_nt ?_
 refine at_true rfl rfl ?_
 refine at_region ?_
 refine s_mv rfl ?_
 refine s_mv rfl ?_
 refine at_lt (lt_tounsafe 0 rfl rfl kb_uP kb_uU kb_sz rfl) rfl ?_
 refine at_hv rfl ?_
 refine hv_same Tryz.func161 (by kernel_rfl) rfl rfl rfl rfl rfl rfl ?_
 refine at_lt (lt_fromunsafe 0 rfl rfl kb_uU kb_uP kb_sz kb_lies) rfl ?_
 refine at_lt (lt_nilCheck rfl) rfl ?_
 refine at_lt (lt_fieldAddr 0 rfl kb_f0 rfl) rfl ?_
 refine at_hv rfl ?_
 refine hv_store_box 0 (cs' := [kbp b, v]) rfl rfl kb_tiP rfl rfl rfl rfl rfl ?_
 refine at_nil ?_
 exact at_returnH (.tuple #[]) [true] [] [] hS Tryz.results133 .nil rfl rfl rfl rfl ⟨rfl, rfl, rfl, rfl⟩
theorem f133_used {b : Nat} {v : Value} : SpecH Tryz.prog 133 [kbp b] [⟨b, [kbp b, v], 115⟩] [] [] (fun u bx rw fs => u = .tuple #[] ∧ bx = [⟨b, [kbp b, v], 115⟩] ∧ rw = [] ∧ fs = []) := by
 obtain ⟨j, hj, _⟩ := Option.map_eq_some_iff.1 kb_sz
 refine specH_start (N := 20) Tryz.func133 (by kernel_rfl) rfl rfl rfl ?_
 intro g hS
 refine s_sr ?_
 refine s_mv rfl ?_
 refine at_lt (lt_nilCheck rfl) rfl ?_
 refine at_lt (lt_fieldAddr 0 rfl kb_f0 rfl) rfl ?_
 refine at_lt (lt_load_box 0 rfl kb_tiP rfl rfl rfl rfl rfl) rfl ?_
 refine at_lt (lt_eqp1 rfl kb_uP) rfl ?_
 refine s_nt ?_
 refine at_false rfl rfl ?_
 refine s_sr ?_
 refine s_mv rfl ?_
 refine at_lt (lt_nilCheck rfl) rfl ?_
 refine at_lt (lt_fieldAddr 0 rfl kb_f0 rfl) rfl ?_
 refine at_lt (lt_load_box 0 rfl kb_tiP rfl rfl rfl rfl rfl) rfl ?_
 refine s_mv rfl ?_
 refine at_lt (lt_neqp rfl rfl kb_uP hj) rfl ?_
 refine s_nt ?_
 refine at_false rfl rfl ?_
 refine at_skip ?_
 exact at_returnH (.tuple #[]) [true] [] [] hS Tryz.results133 .nil rfl rfl rfl rfl ⟨rfl, rfl, rfl, rfl⟩
theorem f133_spec {b : Nat} {p v : Value} (hp : p = .pointer none ∨ p = kbp b) : SpecH Tryz.prog 133 [kbp b] [⟨b, [p, v], 115⟩] [] [] (fun u bx rw fs => u = .tuple #[] ∧ bx = [⟨b, [kbp b, v], 115⟩] ∧ rw = [] ∧ fs = []) := by
 rcases hp with rfl | rfl
 ·exact f133_fresh
 ·exact f133_used
def postKB (b n : Nat) (r : Value) (xs : Str) (u : Value) (bx : List Box) (rw : List Row) (fs : List Fact) : Prop :=
  u = r ∧ ∃ v i, bx = [⟨b, [kbp b, v], 115⟩] ∧ rw = [⟨v, 5, 1, n, i⟩] ∧ fs = [Ty.u8.row xs i]
theorem f104_spec {a1 xs : Str} {b n : Nat} {p v : Value} {i : List Value} (hp : p = .pointer none ∨ p = kbp b) (hl : xs.length + a1.length ≤ 140737488355328) :
  SpecH Tryz.prog 104 [kbp b, str a1] [⟨b, [p, v], 115⟩] [⟨v, 5, 1, n, i⟩] [Ty.u8.row xs i] (postKB b (n + a1.length) (.tuple #[.int .i64 (a1.length : Int), .nilIface]) (xs ++ a1)) := by
 refine specH_start (N := 19) Tryz.func104 (by kernel_rfl) rfl rfl rfl ?_
 intro g hS
 refine at_u8row 0 rfl (fun hi => ?_)
 refine at_rown 0 0 rfl rfl rfl (fun hn => ?_)
 refine s_sr ?_
 refine s_as rfl ?_
 refine s_as rfl ?_
 refine s_ntsr ?_
 refine s_mv rfl ?_
 refine at_hv rfl ?_
 refine hv_callH0 [true] [false] [] (f133_spec hp) rfl rfl rfl rfl rfl rfl rfl rfl ?_
 rintro _ _ _ _ ⟨rfl, rfl, rfl, rfl⟩
 refine s_ntsr ?_
 refine s_mv rfl ?_
 refine s_mv rfl ?_
 refine at_lt (lt_nilCheck rfl) rfl ?_
 refine at_lt (lt_fieldAddr 1 rfl kb_f1 rfl) rfl ?_
 refine at_lt (lt_load_box 0 rfl kb_tiS rfl rfl rfl rfl rfl) rfl ?_
 refine s_mv rfl ?_
 refine at_hv rfl ?_
 refine hv_append_s 0 rfl rfl rfl kb_uS kb_uT kb_tiE rfl (by omega) (by omega) rfl (fun v' => ?_)
 refine at_rowv 0 rfl (fun ho => ?_)
 replace ho := row_one (by obtain ⟨a, c, h⟩ := ho; exact ⟨a, _, c, h⟩)
 refine at_lt (lt_nilCheck rfl) rfl ?_
 refine at_lt (lt_fieldAddr 1 rfl kb_f1 rfl) rfl ?_
 refine at_hv rfl ?_
 refine hv_store1 0 (cs' := [kbp b, v']) rfl rfl kb_tiS rfl rfl rfl rfl ho ?_
 refine s_ntsr ?_
 refine s_mv rfl ?_
 refine at_lt (lt_slen rfl kb_uT) rfl ?_
 refine s_as rfl ?_
 refine s_as rfl ?_
 refine s_nt ?_
 refine at_ret ?_
 refine at_mkrow (inner := i ++ u8s a1) (xs ++ a1) (by rw [hi, u8s_app]) ?_
 exact at_returnH (.tuple #[.int .i64 (a1.length : Int), .nilIface]) [true] [true] [0] hS Tryz.results104 (.cons (.tmp rfl) (.cons (.tmp rfl) .nil)) rfl rfl rfl rfl ⟨rfl, v', _, rfl, rfl, rfl⟩
theorem f105_spec {a1 : UInt8} {xs : Str} {b n : Nat} {p v : Value} {i : List Value} (hp : p = .pointer none ∨ p = kbp b) (hl : xs.length + 1 ≤ 140737488355328) :
  SpecH Tryz.prog 105 [kbp b, .int .u8 (a1.toNat : Int)] [⟨b, [p, v], 115⟩] [⟨v, 5, 1, n, i⟩] [Ty.u8.row xs i] (postKB b (n + 1) .nilIface (xs ++ [a1])) := by
 refine specH_start (N := 17) Tryz.func105 (by kernel_rfl) rfl rfl rfl ?_
 intro g hS
 refine at_u8row 0 rfl (fun hi => ?_)
 refine at_rown 0 0 rfl rfl rfl (fun hn => ?_)
 refine s_sr ?_
 refine s_as rfl ?_
 refine s_ntsr ?_
 refine s_mv rfl ?_
 refine at_hv rfl ?_
 refine hv_callH0 [true] [false] [] (f133_spec hp) rfl rfl rfl rfl rfl rfl rfl rfl ?_
 rintro _ _ _ _ ⟨rfl, rfl, rfl, rfl⟩
 refine s_ntsr ?_
 refine s_mv rfl ?_
 refine s_mv rfl ?_
 refine at_lt (lt_nilCheck rfl) rfl ?_
 refine at_lt (lt_fieldAddr 1 rfl kb_f1 rfl) rfl ?_
 refine at_lt (lt_load_box 0 rfl kb_tiS rfl rfl rfl rfl rfl) rfl ?_
 refine s_mv rfl ?_
 refine at_hv rfl ?_
 refine hv_bslice (cs := [.int .u8 (a1.toNat : Int)]) rfl kb_uS kb_tiE rfl rfl rfl rfl rfl (fun s1 => ?_)
 refine at_hv rfl ?_
 refine hv_append 1 0 rfl rfl rfl rfl kb_uS kb_tiE rfl rfl rfl (by omega) (by omega) rfl (fun v' => ?_)
 refine at_rowv 1 rfl (fun ho => ?_)
 replace ho := row_one (by obtain ⟨a, c, h⟩ := ho; exact ⟨a, _, c, h⟩)
 refine at_lt (lt_nilCheck rfl) rfl ?_
 refine at_lt (lt_fieldAddr 1 rfl kb_f1 rfl) rfl ?_
 refine at_hv rfl ?_
 refine hv_store1 0 (cs' := [kbp b, v']) rfl rfl kb_tiS rfl rfl rfl rfl ho ?_
 refine s_ntsr ?_
 refine s_as rfl ?_
 refine s_nt ?_
 refine at_ret ?_
 refine at_mkrow (inner := i ++ [.int .u8 (a1.toNat : Int)]) (xs ++ [a1]) (by rw [hi, u8s_app]; rfl) ?_
 exact at_returnH .nilIface [true] [false, true] [0] hS Tryz.results105 (.cons (.tmp rfl) .nil) rfl rfl rfl rfl ⟨rfl, v', _, rfl, rfl, rfl⟩
theorem f107_spec {xs : Str} {b n : Nat} {p v : Value} {i : List Value} (h0 : xs ≠ []) (hl : xs.length ≤ 140737488355328) :
  SpecH Tryz.prog 107 [kbp b] [⟨b, [p, v], 115⟩] [⟨v, 5, 1, n, i⟩] [Ty.u8.row xs i] (fun u bx rw fs => u = str xs ∧ bx = [] ∧ rw = [] ∧ fs = [Ty.str.fact xs [str xs]]) := by
 refine specH_start (N := 14) Tryz.func107 (by kernel_rfl) rfl rfl rfl ?_
 intro g hS
 refine at_u8row 0 rfl (fun hi => ?_)
 refine at_rown 0 0 rfl rfl rfl (fun hn => ?_)
 have hpos := List.length_pos_iff.2 h0
 refine at_rowpos 0 rfl (by omega) (fun gb c hv => ?_)
 subst hn hv
 refine s_sr ?_
 refine s_as rfl ?_
 refine s_nt ?_
 refine at_seq ?_
 refine aa_start 12 (by kernel_rfl) ?_
 refine aa_p 0 rfl (lt_move rfl) ?_
 refine aa_p 1 rfl (lt_nilCheck rfl) ?_
 refine aa_p 2 rfl (lt_fieldAddr 1 rfl kb_f1 rfl) ?_
 refine aa_l 3 rfl (lt_load_box 0 rfl kb_tiS rfl rfl rfl rfl rfl) ?_
 refine aa_p 4 rfl (lt_usd rfl) ?_
 refine aa_p 5 rfl (lt_move rfl) ?_
 refine aa_p 6 rfl (lt_nilCheck rfl) ?_
 refine aa_p 7 rfl (lt_fieldAddr 1 rfl kb_f1 rfl) ?_
 refine aa_l 8 rfl (lt_load_box 0 rfl kb_tiS rfl rfl rfl rfl rfl) ?_
 refine aa_p 9 rfl (lt_len rfl kb_uS) ?_
 refine aa_one 10 ?_
 refine aa_op rfl rfl ?_
 refine hv_ustr 0 rfl rfl rfl rfl hi h0 kb_uEP kb_cE (by omega) rfl ?_
 refine aa_p 11 rfl (lt_assign rfl) ?_
 refine aa_done (by kernel_rfl) (ts_in 0 0 rfl rfl) ?_
 refine at_then ?_
 refine at_ret ?_
 refine at_str xs (by omega) ?_
 exact at_returnH (str xs) [false] [] [0] hS Tryz.results107 (.cons (.tmp rfl) .nil) rfl rfl rfl rfl ⟨rfl, rfl, rfl, rfl⟩
def layItoa_ren : Go.Shelf.Ren := ⟨fun | 171 => 49 | 243 => 103 | 246 => 132 | 283 => 157 | 284 => 158 | 285 => 159 | 286 => 160 | 129 => 181 | 317 => 180 | 318 => 182 | 319 => 183 | 320 => 184 | 337 => 199 | 338 => 200 | n => n, fun | 3 => 3 | 9 => 9 | 2 => 2 | 4 => 4 | 171 => 165 | 0 => 0 | 53 => 130 | 37 => 48 | 5 => 5 | 173 => 167 | 212 => 183 | 51 => 184 | 20 => 20 | 213 => 185 | 46 => 150 | 232 => 206 | 233 => 207 | n => n, fun | 17 => 1 | 18 => 6 | 19 => 7 | n => n⟩
theorem layItoa : Go.Proofs.LaysM.n171 Tryz.prog layItoa_ren where
 mixed := by kernel_rfl
 f129 := Tryz.func181.trans (congrArg some (by kernel_rfl))
 f171 := Tryz.func49.trans (congrArg some (by kernel_rfl))
 f243 := Tryz.func103.trans (congrArg some (by kernel_rfl))
 f246 := Tryz.func132.trans (congrArg some (by kernel_rfl))
 f283 := Tryz.func157.trans (congrArg some (by kernel_rfl))
 f284 := Tryz.func158.trans (congrArg some (by kernel_rfl))
 f285 := Tryz.func159.trans (congrArg some (by kernel_rfl))
 f286 := Tryz.func160.trans (congrArg some (by kernel_rfl))
 f317 := Tryz.func180.trans (congrArg some (by kernel_rfl))
 f318 := Tryz.func182.trans (congrArg some (by kernel_rfl))
 f319 := Tryz.func183.trans (congrArg some (by kernel_rfl))
 f320 := Tryz.func184.trans (congrArg some (by kernel_rfl))
 f337 := Tryz.func199.trans (congrArg some (by kernel_rfl))
 f338 := Tryz.func200.trans (congrArg some (by kernel_rfl))
 t0 := Tryz.underlying0
 a0 := Tryz.isAgg0
 z0 := Tryz.sizeOf0
 v0 := Tryz.zeroValue0
 t2 := Tryz.underlying2
 a2 := Tryz.isAgg2
 z2 := Tryz.sizeOf2
 v2 := Tryz.zeroValue2
 t3 := Tryz.underlying3
 a3 := Tryz.isAgg3
 z3 := Tryz.sizeOf3
 v3 := Tryz.zeroValue3
 t4 := Tryz.underlying4
 a4 := Tryz.isAgg4
 z4 := Tryz.sizeOf4
 v4 := Tryz.zeroValue4
 t5 := Tryz.underlying5
 a5 := Tryz.isAgg5
 z5 := Tryz.sizeOf5
 v5 := Tryz.zeroValue5
 t9 := Tryz.underlying9
 a9 := Tryz.isAgg9
 z9 := Tryz.sizeOf9
 v9 := Tryz.zeroValue9
 t20 := Tryz.underlying20
 a20 := Tryz.isAgg20
 z20 := Tryz.sizeOf20
 v20 := Tryz.zeroValue20
 t37 := Tryz.underlying48
 a37 := Tryz.isAgg48
 z37 := Tryz.sizeOf48
 v37 := Tryz.zeroValue48
 t46 := Tryz.underlying150
 a46 := Tryz.isAgg150
 z46 := Tryz.sizeOf150
 v46 := Tryz.zeroValue150
 t51 := Tryz.underlying184
 a51 := Tryz.isAgg184
 z51 := Tryz.sizeOf184
 v51 := Tryz.zeroValue184
 t53 := Tryz.underlying130
 a53 := Tryz.isAgg130
 z53 := Tryz.sizeOf130
 v53 := Tryz.zeroValue130
 t171 := Tryz.underlying165
 a171 := Tryz.isAgg165
 z171 := Tryz.sizeOf165
 v171 := Tryz.zeroValue165
 t173 := Tryz.underlying167
 a173 := Tryz.isAgg167
 z173 := Tryz.sizeOf167
 v173 := Tryz.zeroValue167
 t212 := Tryz.underlying183
 a212 := Tryz.isAgg183
 z212 := Tryz.sizeOf183
 v212 := Tryz.zeroValue183
 t213 := Tryz.underlying185
 a213 := Tryz.isAgg185
 z213 := Tryz.sizeOf185
 t232 := Tryz.underlying206
 a232 := Tryz.isAgg206
 z232 := Tryz.sizeOf206
 v232 := Tryz.zeroValue206
 t233 := Tryz.underlying207
 a233 := Tryz.isAgg207
 z233 := Tryz.sizeOf207
 v233 := Tryz.zeroValue207
 g17 := by kernel_rfl
 g18 := by kernel_rfl
 g19 := by kernel_rfl
 i0 := by kernel_rfl
 i2 := by kernel_rfl
 i3 := by kernel_rfl
 i4 := by kernel_rfl
 i5 := by kernel_rfl
 i9 := by kernel_rfl
 i20 := by kernel_rfl
 i37 := by kernel_rfl
 i46 := by kernel_rfl
 i51 := by kernel_rfl
 i53 := by kernel_rfl
 i171 := by kernel_rfl
 i173 := by kernel_rfl
 i212 := by kernel_rfl
 i232 := by kernel_rfl
 i233 := by kernel_rfl
 m17 := by kernel_rfl
 m18 := by kernel_rfl
 m19 := by kernel_rfl
def layAtoi_ren : Go.Shelf.Ren := ⟨fun | 172 => 110 | 244 => 136 | 245 => 137 | 247 => 166 | 279 => 167 | 280 => 168 | 281 => 169 | 282 => 170 | 287 => 187 | 316 => 188 | 171 => 49 | 205 => 189 | 321 => 201 | 322 => 202 | 243 => 103 | 246 => 132 | 283 => 157 | 284 => 158 | 285 => 159 | 286 => 160 | 129 => 181 | 317 => 180 | 318 => 182 | 319 => 183 | 320 => 184 | 337 => 199 | 338 => 200 | n => n, fun | 9 => 9 | 3 => 3 | 75 => 117 | 76 => 118 | 4 => 4 | 5 => 5 | 167 => 173 | 37 => 48 | 0 => 0 | 85 => 174 | 2 => 2 | 168 => 176 | 53 => 130 | 175 => 189 | 46 => 150 | 210 => 192 | 127 => 147 | 145 => 204 | 143 => 202 | 21 => 21 | 171 => 165 | 173 => 167 | 212 => 183 | 51 => 184 | 20 => 20 | 213 => 185 | 232 => 206 | 233 => 207 | 80 => 122 | n => n, fun | 15 => 2 | 16 => 3 | 17 => 1 | 18 => 6 | 19 => 7 | n => n⟩
theorem layAtoi : Go.Proofs.LaysC.n172 Tryz.prog layAtoi_ren where
 mixed := by kernel_rfl
 f129 := Tryz.func181.trans (congrArg some (by kernel_rfl))
 f171 := Tryz.func49.trans (congrArg some (by kernel_rfl))
 f172 := Tryz.func110.trans (congrArg some (by kernel_rfl))
 f205 := Tryz.func189.trans (congrArg some (by kernel_rfl))
 f243 := Tryz.func103.trans (congrArg some (by kernel_rfl))
 f244 := Tryz.func136.trans (congrArg some (by kernel_rfl))
 f245 := Tryz.func137.trans (congrArg some (by kernel_rfl))
 f246 := Tryz.func132.trans (congrArg some (by kernel_rfl))
 f247 := Tryz.func166.trans (congrArg some (by kernel_rfl))
 f279 := Tryz.func167.trans (congrArg some (by kernel_rfl))
 f280 := Tryz.func168.trans (congrArg some (by kernel_rfl))
 f281 := Tryz.func169.trans (congrArg some (by kernel_rfl))
 f282 := Tryz.func170.trans (congrArg some (by kernel_rfl))
 f283 := Tryz.func157.trans (congrArg some (by kernel_rfl))
 f284 := Tryz.func158.trans (congrArg some (by kernel_rfl))
 f285 := Tryz.func159.trans (congrArg some (by kernel_rfl))
 f286 := Tryz.func160.trans (congrArg some (by kernel_rfl))
 f287 := Tryz.func187.trans (congrArg some (by kernel_rfl))
 f316 := Tryz.func188.trans (congrArg some (by kernel_rfl))
 f317 := Tryz.func180.trans (congrArg some (by kernel_rfl))
 f318 := Tryz.func182.trans (congrArg some (by kernel_rfl))
 f319 := Tryz.func183.trans (congrArg some (by kernel_rfl))
 f320 := Tryz.func184.trans (congrArg some (by kernel_rfl))
 f321 := Tryz.func201.trans (congrArg some (by kernel_rfl))
 f322 := Tryz.func202.trans (congrArg some (by kernel_rfl))
 f337 := Tryz.func199.trans (congrArg some (by kernel_rfl))
 f338 := Tryz.func200.trans (congrArg some (by kernel_rfl))
 t0 := Tryz.underlying0
 a0 := Tryz.isAgg0
 z0 := Tryz.sizeOf0
 v0 := Tryz.zeroValue0
 t2 := Tryz.underlying2
 a2 := Tryz.isAgg2
 z2 := Tryz.sizeOf2
 v2 := Tryz.zeroValue2
 t3 := Tryz.underlying3
 a3 := Tryz.isAgg3
 z3 := Tryz.sizeOf3
 v3 := Tryz.zeroValue3
 t4 := Tryz.underlying4
 a4 := Tryz.isAgg4
 z4 := Tryz.sizeOf4
 v4 := Tryz.zeroValue4
 t5 := Tryz.underlying5
 a5 := Tryz.isAgg5
 z5 := Tryz.sizeOf5
 v5 := Tryz.zeroValue5
 t9 := Tryz.underlying9
 a9 := Tryz.isAgg9
 z9 := Tryz.sizeOf9
 v9 := Tryz.zeroValue9
 t20 := Tryz.underlying20
 a20 := Tryz.isAgg20
 z20 := Tryz.sizeOf20
 v20 := Tryz.zeroValue20
 t21 := Tryz.underlying21
 a21 := Tryz.isAgg21
 z21 := Tryz.sizeOf21
 v21 := Tryz.zeroValue21
 t37 := Tryz.underlying48
 a37 := Tryz.isAgg48
 z37 := Tryz.sizeOf48
 v37 := Tryz.zeroValue48
 t46 := Tryz.underlying150
 a46 := Tryz.isAgg150
 z46 := Tryz.sizeOf150
 v46 := Tryz.zeroValue150
 t51 := Tryz.underlying184
 a51 := Tryz.isAgg184
 z51 := Tryz.sizeOf184
 v51 := Tryz.zeroValue184
 t53 := Tryz.underlying130
 a53 := Tryz.isAgg130
 z53 := Tryz.sizeOf130
 v53 := Tryz.zeroValue130
 t75 := Tryz.underlying117
 a75 := Tryz.isAgg117
 z75 := Tryz.sizeOf117
 v75 := Tryz.zeroValue117
 t76 := Tryz.underlying118
 a76 := Tryz.isAgg118
 z76 := Tryz.sizeOf118
 v76 := Tryz.zeroValue118
 t85 := Tryz.underlying174
 a85 := Tryz.isAgg174
 z85 := Tryz.sizeOf174
 v85 := Tryz.zeroValue174
 t127 := Tryz.underlying147
 a127 := Tryz.isAgg147
 z127 := Tryz.sizeOf147
 v127 := Tryz.zeroValue147
 t143 := Tryz.underlying202
 a143 := Tryz.isAgg202
 z143 := Tryz.sizeOf202
 v143 := Tryz.zeroValue202
 t145 := Tryz.underlying204
 a145 := Tryz.isAgg204
 z145 := Tryz.sizeOf204
 v145 := Tryz.zeroValue204
 t167 := Tryz.underlying173
 a167 := Tryz.isAgg173
 z167 := Tryz.sizeOf173
 v167 := Tryz.zeroValue173
 t168 := Tryz.underlying176
 a168 := Tryz.isAgg176
 z168 := Tryz.sizeOf176
 v168 := Tryz.zeroValue176
 t171 := Tryz.underlying165
 a171 := Tryz.isAgg165
 z171 := Tryz.sizeOf165
 v171 := Tryz.zeroValue165
 t173 := Tryz.underlying167
 a173 := Tryz.isAgg167
 z173 := Tryz.sizeOf167
 v173 := Tryz.zeroValue167
 t175 := Tryz.underlying189
 a175 := Tryz.isAgg189
 z175 := Tryz.sizeOf189
 v175 := Tryz.zeroValue189
 t210 := Tryz.underlying192
 a210 := Tryz.isAgg192
 z210 := Tryz.sizeOf192
 v210 := Tryz.zeroValue192
 t212 := Tryz.underlying183
 a212 := Tryz.isAgg183
 z212 := Tryz.sizeOf183
 v212 := Tryz.zeroValue183
 t213 := Tryz.underlying185
 a213 := Tryz.isAgg185
 z213 := Tryz.sizeOf185
 t232 := Tryz.underlying206
 a232 := Tryz.isAgg206
 z232 := Tryz.sizeOf206
 v232 := Tryz.zeroValue206
 t233 := Tryz.underlying207
 a233 := Tryz.isAgg207
 z233 := Tryz.sizeOf207
 v233 := Tryz.zeroValue207
 g15 := by kernel_rfl
 g16 := by kernel_rfl
 g17 := by kernel_rfl
 g18 := by kernel_rfl
 g19 := by kernel_rfl
 t80 := Tryz.underlying122
 a80 := Tryz.isAgg122
 z80 := Tryz.sizeOf122
 v80 := Tryz.zeroValue122
 i0 := by kernel_rfl
 i2 := by kernel_rfl
 i3 := by kernel_rfl
 i4 := by kernel_rfl
 i5 := by kernel_rfl
 i9 := by kernel_rfl
 i20 := by kernel_rfl
 i21 := by kernel_rfl
 i37 := by kernel_rfl
 i46 := by kernel_rfl
 i51 := by kernel_rfl
 i53 := by kernel_rfl
 i75 := by kernel_rfl
 i76 := by kernel_rfl
 i80 := by kernel_rfl
 i85 := by kernel_rfl
 i127 := by kernel_rfl
 i143 := by kernel_rfl
 i145 := by kernel_rfl
 i167 := by kernel_rfl
 i168 := by kernel_rfl
 i171 := by kernel_rfl
 i173 := by kernel_rfl
 i175 := by kernel_rfl
 i210 := by kernel_rfl
 i212 := by kernel_rfl
 i232 := by kernel_rfl
 i233 := by kernel_rfl
 m15 := by kernel_rfl
 m16 := by kernel_rfl
 m17 := by kernel_rfl
 m18 := by kernel_rfl
 m19 := by kernel_rfl
 c0 := by kernel_rfl
 c2 := by kernel_rfl
 c3 := by kernel_rfl
 c4 := by kernel_rfl
 c5 := by kernel_rfl
 c9 := by kernel_rfl
 c20 := by kernel_rfl
 c21 := by kernel_rfl
 c37 := by kernel_rfl
 c46 := by kernel_rfl
 c51 := by kernel_rfl
 c53 := by kernel_rfl
 c75 := by kernel_rfl
 c76 := by kernel_rfl
 c80 := by kernel_rfl
 c85 := by kernel_rfl
 c127 := by kernel_rfl
 c143 := by kernel_rfl
 c145 := by kernel_rfl
 c167 := by kernel_rfl
 c168 := by kernel_rfl
 c171 := by kernel_rfl
 c173 := by kernel_rfl
 c175 := by kernel_rfl
 c210 := by kernel_rfl
 c212 := by kernel_rfl
 c213 := by kernel_rfl
 c232 := by kernel_rfl
 c233 := by kernel_rfl
theorem en49 : Enters Tryz.prog 49 := ⟨_, Tryz.func49, by kernel_rfl, rfl⟩
theorem en110 : Enters Tryz.prog 110 := ⟨_, Tryz.func110, by kernel_rfl, rfl⟩
def m49 (a0 : Int) : Option Str := some (Lib.itoa a0)
theorem f49_spec {a0 : Int} {r : Str} {g3 g4 : Nat} (hr : m49 a0 = some r) : Spec Tryz.prog 49 [.int .i64 a0] [(Ty.int .i64).fact a0 [.int .i64 a0], tabsF Tryz.prog g3 g4] (postItoa r) := by
 have hq := Option.some.inj hr
 subst hq
 exact itoa_spec layItoa rfl en49
def m110 (a0 : Str) : Option (Int × Bool) := atoiM a0
theorem f110_spec {a0 : Str} {r : Int × Bool} {g3 g4 : Nat} (hr : m110 a0 = some r) : Spec Tryz.prog 110 [str a0] [Ty.str.fact a0 [str a0], tabsF Tryz.prog g3 g4] (postAtoi r) := atoi_spec layAtoi rfl en110 hr
end Go.WK.S
