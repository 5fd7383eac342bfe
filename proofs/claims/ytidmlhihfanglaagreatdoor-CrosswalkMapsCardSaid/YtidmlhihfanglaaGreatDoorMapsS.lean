/- slices.SortFunc at rows of pairs and of entries: the shelf's sort, as contracts with a row that is handed over. -/
import Derived.Test.YtidmlhihfanglaaGreatDoorMapsT
import Derived.Test.YtidmlhihfanglaaGreatDoorMapsKP
import Derived.Shelf.SlSortCmp.NoneTotal
import Derived.Shelf.Small.Bits
import Derived.Sort.AssemblyPlain
import Derived.OwnWalk
set_option linter.unusedSimpArgs false
set_option linter.unusedVariables false
namespace Go.WK.S
open Go Go.Proofs Go.WK Go.RowKit Go.Sort Go.Lib Go.Shelf
set_option linter.unusedVariables false
set_option linter.unusedSimpArgs false
set_option maxRecDepth 100000
set_option maxHeartbeats 4000000
def sortE_ren : Go.Shelf.Ren := ⟨fun | 14 => 107 | 20 => 135 | 21 => 136 | 22 => 137 | 23 => 138 | 24 => 139 | 25 => 140 | 26 => 141 | 27 => 142 | 46 => 164 | 47 => 160 | 48 => 161 | 49 => 165 | 50 => 166 | 15 => 105 | 57 => 183 | 28 => 133 | 29 => 134 | n => n, fun | 24 => 76 | 22 => 33 | 3 => 3 | 25 => 110 | 4 => 4 | 0 => 0 | 46 => 146 | 45 => 145 | 50 => 150 | 66 => 171 | 39 => 133 | 55 => 155 | 70 => 175 | 76 => 192 | 77 => 166 | 53 => 153 | 5 => 5 | 9 => 9 | n => n, fun | n => n⟩
theorem sortE : SlLaysF0.n14 Tryz.prog sortE_ren := { mixed := by kernel_rfl, f14 := ⟨"slices.pdqsortCmpFunc[bookplate/crosswalk.Entry]", by decide, Tryz.func107.trans (congrArg some (by kernel_rfl))⟩, f15 := Tryz.func105.trans (congrArg some (by kernel_rfl)), f20 := ⟨"slices.insertionSortCmpFunc[bookplate/crosswalk.Entry]", by decide, Tryz.func135.trans (congrArg some (by kernel_rfl))⟩, f21 := ⟨"slices.heapSortCmpFunc[bookplate/crosswalk.Entry]", by decide, Tryz.func136.trans (congrArg some (by kernel_rfl))⟩, f22 := ⟨"slices.breakPatternsCmpFunc[bookplate/crosswalk.Entry]", by decide, Tryz.func137.trans (congrArg some (by kernel_rfl))⟩, f23 := ⟨"slices.choosePivotCmpFunc[bookplate/crosswalk.Entry]", by decide, Tryz.func138.trans (congrArg some (by kernel_rfl))⟩, f24 := ⟨"slices.reverseRangeCmpFunc[bookplate/crosswalk.Entry]", by decide, Tryz.func139.trans (congrArg some (by kernel_rfl))⟩, f25 := ⟨"slices.partialInsertionSortCmpFunc[bookplate/crosswalk.Entry]", by decide, Tryz.func140.trans (congrArg some (by kernel_rfl))⟩, f26 := ⟨"slices.partitionEqualCmpFunc[bookplate/crosswalk.Entry]", by decide, Tryz.func141.trans (congrArg some (by kernel_rfl))⟩, f27 := ⟨"slices.partitionCmpFunc[bookplate/crosswalk.Entry]", by decide, Tryz.func142.trans (congrArg some (by kernel_rfl))⟩, f28 := Tryz.func133.trans (congrArg some (by kernel_rfl)), f29 := Tryz.func134.trans (congrArg some (by kernel_rfl)), f46 := ⟨"slices.siftDownCmpFunc[bookplate/crosswalk.Entry]", by decide, Tryz.func164.trans (congrArg some (by kernel_rfl))⟩, f47 := Tryz.func160.trans (congrArg some (by kernel_rfl)), f48 := Tryz.func161.trans (congrArg some (by kernel_rfl)), f49 := ⟨"slices.medianAdjacentCmpFunc[bookplate/crosswalk.Entry]", by decide, Tryz.func165.trans (congrArg some (by kernel_rfl))⟩, f50 := ⟨"slices.medianCmpFunc[bookplate/crosswalk.Entry]", by decide, Tryz.func166.trans (congrArg some (by kernel_rfl))⟩, f57 := ⟨"slices.order2CmpFunc[bookplate/crosswalk.Entry]", by decide, Tryz.func183.trans (congrArg some (by kernel_rfl))⟩, t0 := Tryz.underlying0, a0 := Tryz.isAgg0, z0 := Tryz.sizeOf0, v0 := Tryz.zeroValue0, t3 := Tryz.underlying3, a3 := Tryz.isAgg3, z3 := Tryz.sizeOf3, v3 := Tryz.zeroValue3, t4 := Tryz.underlying4, a4 := Tryz.isAgg4, z4 := Tryz.sizeOf4, v4 := Tryz.zeroValue4, t5 := Tryz.underlying5, a5 := Tryz.isAgg5, z5 := Tryz.sizeOf5, v5 := Tryz.zeroValue5, t9 := Tryz.underlying9, a9 := Tryz.isAgg9, z9 := Tryz.sizeOf9, v9 := Tryz.zeroValue9, t22 := Tryz.underlying33, a22 := Tryz.isAgg33, z22 := Tryz.sizeOf33, v22 := Tryz.zeroValue33, t25 := Tryz.underlying110, a25 := Tryz.isAgg110, z25 := Tryz.sizeOf110, v25 := Tryz.zeroValue110, t39 := Tryz.underlying133, a39 := Tryz.isAgg133, z39 := Tryz.sizeOf133, v39 := Tryz.zeroValue133, t45 := Tryz.underlying145, a45 := Tryz.isAgg145, z45 := Tryz.sizeOf145, v45 := Tryz.zeroValue145, t46 := Tryz.underlying146, a46 := Tryz.isAgg146, z46 := Tryz.sizeOf146, v46 := Tryz.zeroValue146, t50 := Tryz.underlying150, a50 := Tryz.isAgg150, z50 := Tryz.sizeOf150, v50 := Tryz.zeroValue150, t53 := Tryz.underlying153, a53 := Tryz.isAgg153, z53 := Tryz.sizeOf153, v53 := Tryz.zeroValue153, t55 := Tryz.underlying155, a55 := Tryz.isAgg155, z55 := Tryz.sizeOf155, v55 := Tryz.zeroValue155, t66 := Tryz.underlying171, a66 := Tryz.isAgg171, z66 := Tryz.sizeOf171, v66 := Tryz.zeroValue171, t70 := Tryz.underlying175, a70 := Tryz.isAgg175, z70 := Tryz.sizeOf175, v70 := Tryz.zeroValue175, t76 := Tryz.underlying192, a76 := Tryz.isAgg192, z76 := Tryz.sizeOf192, v76 := Tryz.zeroValue192, t77 := Tryz.underlying166, a77 := Tryz.isAgg166, z77 := Tryz.sizeOf166, v77 := Tryz.zeroValue166 }
def sortP_ren : Go.Shelf.Ren := ⟨fun | 14 => 104 | 20 => 125 | 21 => 126 | 22 => 127 | 23 => 128 | 24 => 129 | 25 => 130 | 26 => 131 | 27 => 132 | 46 => 159 | 47 => 160 | 48 => 161 | 49 => 162 | 50 => 163 | 15 => 105 | 57 => 182 | 28 => 133 | 29 => 134 | n => n, fun | 24 => 82 | 22 => 74 | 3 => 3 | 25 => 107 | 4 => 4 | 0 => 0 | 46 => 146 | 45 => 145 | 50 => 150 | 66 => 171 | 39 => 133 | 55 => 155 | 70 => 175 | 76 => 192 | 77 => 166 | 53 => 153 | 5 => 5 | 9 => 9 | n => n, fun | n => n⟩
theorem sortP : SlLaysF0.n14 Tryz.prog sortP_ren := { mixed := by kernel_rfl, f14 := ⟨"slices.pdqsortCmpFunc[bookplate/crosswalk.Pair]", by decide, Tryz.func104.trans (congrArg some (by kernel_rfl))⟩, f15 := Tryz.func105.trans (congrArg some (by kernel_rfl)), f20 := ⟨"slices.insertionSortCmpFunc[bookplate/crosswalk.Pair]", by decide, Tryz.func125.trans (congrArg some (by kernel_rfl))⟩, f21 := ⟨"slices.heapSortCmpFunc[bookplate/crosswalk.Pair]", by decide, Tryz.func126.trans (congrArg some (by kernel_rfl))⟩, f22 := ⟨"slices.breakPatternsCmpFunc[bookplate/crosswalk.Pair]", by decide, Tryz.func127.trans (congrArg some (by kernel_rfl))⟩, f23 := ⟨"slices.choosePivotCmpFunc[bookplate/crosswalk.Pair]", by decide, Tryz.func128.trans (congrArg some (by kernel_rfl))⟩, f24 := ⟨"slices.reverseRangeCmpFunc[bookplate/crosswalk.Pair]", by decide, Tryz.func129.trans (congrArg some (by kernel_rfl))⟩, f25 := ⟨"slices.partialInsertionSortCmpFunc[bookplate/crosswalk.Pair]", by decide, Tryz.func130.trans (congrArg some (by kernel_rfl))⟩, f26 := ⟨"slices.partitionEqualCmpFunc[bookplate/crosswalk.Pair]", by decide, Tryz.func131.trans (congrArg some (by kernel_rfl))⟩, f27 := ⟨"slices.partitionCmpFunc[bookplate/crosswalk.Pair]", by decide, Tryz.func132.trans (congrArg some (by kernel_rfl))⟩, f28 := Tryz.func133.trans (congrArg some (by kernel_rfl)), f29 := Tryz.func134.trans (congrArg some (by kernel_rfl)), f46 := ⟨"slices.siftDownCmpFunc[bookplate/crosswalk.Pair]", by decide, Tryz.func159.trans (congrArg some (by kernel_rfl))⟩, f47 := Tryz.func160.trans (congrArg some (by kernel_rfl)), f48 := Tryz.func161.trans (congrArg some (by kernel_rfl)), f49 := ⟨"slices.medianAdjacentCmpFunc[bookplate/crosswalk.Pair]", by decide, Tryz.func162.trans (congrArg some (by kernel_rfl))⟩, f50 := ⟨"slices.medianCmpFunc[bookplate/crosswalk.Pair]", by decide, Tryz.func163.trans (congrArg some (by kernel_rfl))⟩, f57 := ⟨"slices.order2CmpFunc[bookplate/crosswalk.Pair]", by decide, Tryz.func182.trans (congrArg some (by kernel_rfl))⟩, t0 := Tryz.underlying0, a0 := Tryz.isAgg0, z0 := Tryz.sizeOf0, v0 := Tryz.zeroValue0, t3 := Tryz.underlying3, a3 := Tryz.isAgg3, z3 := Tryz.sizeOf3, v3 := Tryz.zeroValue3, t4 := Tryz.underlying4, a4 := Tryz.isAgg4, z4 := Tryz.sizeOf4, v4 := Tryz.zeroValue4, t5 := Tryz.underlying5, a5 := Tryz.isAgg5, z5 := Tryz.sizeOf5, v5 := Tryz.zeroValue5, t9 := Tryz.underlying9, a9 := Tryz.isAgg9, z9 := Tryz.sizeOf9, v9 := Tryz.zeroValue9, t22 := Tryz.underlying74, a22 := Tryz.isAgg74, z22 := Tryz.sizeOf74, v22 := Tryz.zeroValue74, t25 := Tryz.underlying107, a25 := Tryz.isAgg107, z25 := Tryz.sizeOf107, v25 := Tryz.zeroValue107, t39 := Tryz.underlying133, a39 := Tryz.isAgg133, z39 := Tryz.sizeOf133, v39 := Tryz.zeroValue133, t45 := Tryz.underlying145, a45 := Tryz.isAgg145, z45 := Tryz.sizeOf145, v45 := Tryz.zeroValue145, t46 := Tryz.underlying146, a46 := Tryz.isAgg146, z46 := Tryz.sizeOf146, v46 := Tryz.zeroValue146, t50 := Tryz.underlying150, a50 := Tryz.isAgg150, z50 := Tryz.sizeOf150, v50 := Tryz.zeroValue150, t53 := Tryz.underlying153, a53 := Tryz.isAgg153, z53 := Tryz.sizeOf153, v53 := Tryz.zeroValue153, t55 := Tryz.underlying155, a55 := Tryz.isAgg155, z55 := Tryz.sizeOf155, v55 := Tryz.zeroValue155, t66 := Tryz.underlying171, a66 := Tryz.isAgg171, z66 := Tryz.sizeOf171, v66 := Tryz.zeroValue171, t70 := Tryz.underlying175, a70 := Tryz.isAgg175, z70 := Tryz.sizeOf175, v70 := Tryz.zeroValue175, t76 := Tryz.underlying192, a76 := Tryz.isAgg192, z76 := Tryz.sizeOf192, v76 := Tryz.zeroValue192, t77 := Tryz.underlying166, a77 := Tryz.isAgg166, z77 := Tryz.sizeOf166, v77 := Tryz.zeroValue166 }
def bitsP_ren : Go.Shelf.Ren := ⟨fun | 15 => 105 | 28 => 133 | 29 => 134 | n => n, fun | 39 => 133 | 3 => 3 | 53 => 153 | 55 => 155 | 4 => 4 | 5 => 5 | 9 => 9 | n => n, fun | n => n⟩
theorem bitsP : SlLaysF0.n15 Tryz.prog bitsP_ren := { mixed := by kernel_rfl, f15 := Tryz.func105.trans (congrArg some (by kernel_rfl)), f28 := Tryz.func133.trans (congrArg some (by kernel_rfl)), f29 := Tryz.func134.trans (congrArg some (by kernel_rfl)), t3 := Tryz.underlying3, a3 := Tryz.isAgg3, z3 := Tryz.sizeOf3, v3 := Tryz.zeroValue3, t4 := Tryz.underlying4, a4 := Tryz.isAgg4, z4 := Tryz.sizeOf4, v4 := Tryz.zeroValue4, t5 := Tryz.underlying5, a5 := Tryz.isAgg5, z5 := Tryz.sizeOf5, v5 := Tryz.zeroValue5, t9 := Tryz.underlying9, a9 := Tryz.isAgg9, z9 := Tryz.sizeOf9, v9 := Tryz.zeroValue9, t39 := Tryz.underlying133, a39 := Tryz.isAgg133, z39 := Tryz.sizeOf133, v39 := Tryz.zeroValue133, t53 := Tryz.underlying153, a53 := Tryz.isAgg153, z53 := Tryz.sizeOf153, v53 := Tryz.zeroValue153, t55 := Tryz.underlying155, a55 := Tryz.isAgg155, z55 := Tryz.sizeOf155, v55 := Tryz.zeroValue155 }
theorem isNaN8 (x : Int) (w : World) : Calls Tryz.prog 106 #[.int .u8 x] w fun e w' => e = .returned (.bool false) ∧ w' = w := by
 go_enter Tryz.func106, Tryz.ntmps106
 go_wp2
 go_ret
 exact ⟨by simp, rfl⟩
theorem cmp8 (x y : Int) (w : World) : Calls Tryz.prog 68 #[.int .u8 x, .int .u8 y] w fun e w' => e = .returned (.int .i64 (Lib.compareInt x y)) ∧ w' = w := by
 go_enter Tryz.func68, Tryz.ntmps68
 go_wp2_with (go_at_call 106; refine (isNaN8 _ _).mono ?_; rintro e w' ⟨rfl, hw⟩; rw [hw])
 all_goals (go_ret; refine ⟨?_, rfl⟩; unfold Lib.compareInt; (repeat' split) <;> first | rfl | (exfalso; omega))
theorem clo67 (a b c d : Int) (W : World) : Calls Tryz.prog 67 #[.agg #[.int .u8 a, .int .u8 b], .agg #[.int .u8 c, .int .u8 d]] W fun e w' => e = .returned (.int .i64 (Lib.compareInt a c)) ∧ ∃ q os', w' = grow (W.drewN q) os' := by
 have hcon := fun W' => cmp8 a c W'
 generalize Lib.compareInt a c = r at hcon ⊢
 go_enter Tryz.func67, Tryz.ntmps67
 go_wp2_with (go_at_call 68; refine (hcon _).mono ?_; rintro e w' ⟨rfl, rfl⟩)
 go_ret
 exact ⟨rfl, 0, _, by rw [alloc_eq_grow, alloc_eq_grow, grow_grow]; rfl⟩
theorem isNaNs (x : ByteArray) (w : World) : Calls Tryz.prog 108 #[.string x] w fun e w' => e = .returned (.bool false) ∧ w' = w := by
 go_enter Tryz.func108, Tryz.ntmps108
 go_wp2
 go_ret
 exact ⟨by simp, rfl⟩
def cmpS (x y : Str) : Int := if Op.bytesLess x y then -1 else if Op.bytesLess y x then 1 else 0
theorem cmps (x y : Str) (w : World) : Calls Tryz.prog 71 #[str x, str y] w fun e w' => e = .returned (.int .i64 (cmpS x y)) ∧ w' = w := by
 unfold str
 go_enter Tryz.func71, Tryz.ntmps71
 go_wp2_with (go_at_call 108; refine (isNaNs _ _).mono ?_; rintro e w' ⟨rfl, hw⟩; rw [hw])
 all_goals (go_ret; refine ⟨?_, rfl⟩; unfold cmpS; have ht := less_total x y; have hb : ¬ x = y → (x == y) = false := (fun h => by simpa using h); simp_all)
theorem clo70 (a b : Str) (s : Value) (c d : Str) (t : Value) (W : World) : Calls Tryz.prog 70 #[.agg #[str a, str b, s], .agg #[str c, str d, t]] W fun e w' => e = .returned (.int .i64 (cmpS a c)) ∧ ∃ q os', w' = grow (W.drewN q) os' := by
 have hcon := fun W' => cmps a c W'
 generalize cmpS a c = r at hcon ⊢
 go_enter Tryz.func70, Tryz.ntmps70
 go_wp2_with (go_at_call 71; refine (hcon _).mono ?_; rintro e w' ⟨rfl, rfl⟩)
 go_ret
 exact ⟨rfl, 0, _, by rw [alloc_eq_grow, alloc_eq_grow, grow_grow]; rfl⟩

theorem len64 (n : Nat) (w : World) (h : n < 4611686018427387904) : Calls Tryz.prog 105 #[.int .u64 (n : Int)] w fun e w' => e = .returned (.int .i64 (Lib.bitLen n : Nat)) ∧ w' = w := by
 have h := Any.bits_Len (SlLaysF0.n15.bits (P := Tryz.prog) (ρ := bitsP_ren) bitsP) (n : Int) w (by omega) (by omega)
 rwa [Int.toNat_natCast] at h
theorem none66 (g : Nat) : SortsNone Tryz.prog 66 g := by
 intro p cap w
 have hp := fun lim W => AnyF.pdqsortCmpFunc_none (P := Tryz.prog) (ρ := sortP_ren) sortP p cap lim (.func (.func g) #[] #[]) W
 have hl := fun W => len64 0 W (by omega)
 go_enter Tryz.func66, Tryz.ntmps66
 go_wp2_with (first | (go_at_call 105; refine (hl _).mono ?_; rintro e w' ⟨rfl, rfl⟩) | (go_at_call 104; refine (hp _ _).mono ?_; rintro e w' ⟨rfl, rfl⟩))
 go_end0
 exact ⟨rfl, rfl⟩
theorem none69 (g : Nat) : SortsNone Tryz.prog 69 g := by
 intro p cap w
 have hp := fun lim W => AnyF.pdqsortCmpFunc_none (P := Tryz.prog) (ρ := sortE_ren) sortE p cap lim (.func (.func g) #[] #[]) W
 have hl := fun W => len64 0 W (by omega)
 go_enter Tryz.func69, Tryz.ntmps69
 go_wp2_with (first | (go_at_call 105; refine (hl _).mono ?_; rintro e w' ⟨rfl, rfl⟩) | (go_at_call 107; refine (hp _ _).mono ?_; rintro e w' ⟨rfl, rfl⟩))
 go_end0
 exact ⟨rfl, rfl⟩
theorem sorts66 {g : Nat} (eg : ∀ args w, (callFunc g args).run Tryz.prog w = .ok (.enter g args) w) : SortsK Tryz.prog 66 g 2 := by
 intro β _ enc hk h1 cf hO blk cap d w hcmp hH hblk hsz hT
 have hlim : Lib.bitLen d.size < 4611686018427387904 := Nat.lt_of_le_of_lt (Lib.bitLen_le d.size 62 (by omega) (by omega)) (by omega)
 have hp := AnyQ.pdqsortCmpFunc_all (P := Tryz.prog) (ρ := sortP_ren) sortP 2 Tryz.isAgg82 Tryz.sizeOf82 enc cf g #[] hO blk 0 cap d w eg hcmp ⟨hk, h1, hH, hblk⟩ (d.size + 1) 0 d.size (Lib.bitLen d.size) d w (by omega) rfl (SWK.start hH) (Nat.zero_le _) (Nat.le_refl _) hsz hlim (Or.inl rfl)
 have hl := len64 d.size w hsz
 have wr : IntKind.u64.wrap (d.size : Int) = d.size := by simp [IntKind.wrap, IntKind.bits, IntKind.signed]; omega
 have ps := pdq_sorts (ltOf cf) hO d 0 d.size (Lib.bitLen d.size) true true (Nat.zero_le _) (Nat.le_refl _) (Or.inl rfl)
 have hu := sorted_unique_holds hO hT d _ ps.1 ps.2
 clear hH hcmp hk h1
 go_enter Tryz.func66, Tryz.ntmps66
 go_wp2_with (first | (go_at_call 105; refine hl.mono ?_; rintro e w' ⟨rfl, rfl⟩) | (go_at_call 104; refine hp.mono ?_; rintro e w' ⟨rfl, n, os, rfl⟩))
 go_end0
 exact ⟨rfl, n, os, by rw [← hu]⟩
theorem sorts69 {g : Nat} (eg : ∀ args w, (callFunc g args).run Tryz.prog w = .ok (.enter g args) w) : SortsK Tryz.prog 69 g 3 := by
 intro β _ enc hk h1 cf hO blk cap d w hcmp hH hblk hsz hT
 have hlim : Lib.bitLen d.size < 4611686018427387904 := Nat.lt_of_le_of_lt (Lib.bitLen_le d.size 62 (by omega) (by omega)) (by omega)
 have hp := AnyQ.pdqsortCmpFunc_all (P := Tryz.prog) (ρ := sortE_ren) sortE 3 Tryz.isAgg76 Tryz.sizeOf76 enc cf g #[] hO blk 0 cap d w eg hcmp ⟨hk, h1, hH, hblk⟩ (d.size + 1) 0 d.size (Lib.bitLen d.size) d w (by omega) rfl (SWK.start hH) (Nat.zero_le _) (Nat.le_refl _) hsz hlim (Or.inl rfl)
 have hl := len64 d.size w hsz
 have wr : IntKind.u64.wrap (d.size : Int) = d.size := by simp [IntKind.wrap, IntKind.bits, IntKind.signed]; omega
 have ps := pdq_sorts (ltOf cf) hO d 0 d.size (Lib.bitLen d.size) true true (Nat.zero_le _) (Nat.le_refl _) (Or.inl rfl)
 have hu := sorted_unique_holds hO hT d _ ps.1 ps.2
 clear hH hcmp hk h1
 go_enter Tryz.func69, Tryz.ntmps69
 go_wp2_with (first | (go_at_call 105; refine hl.mono ?_; rintro e w' ⟨rfl, rfl⟩) | (go_at_call 107; refine hp.mono ?_; rintro e w' ⟨rfl, n, os, rfl⟩))
 go_end0
 exact ⟨rfl, n, os, by rw [← hu]⟩

/-! ### the contracts -/
theorem cmpS_lt (x y : Str) : cmpS x y < 0 ↔ Op.bytesLess x y = true := by
 unfold cmpS
 by_cases h1 : Op.bytesLess x y = true
 ·simp [h1]
 ·by_cases h2 : Op.bytesLess y x = true
  ·simp [h1, h2]
  ·simp [h1, h2]
theorem bl_trans : ∀ {a b c : Str}, Op.bytesLess a b = true → Op.bytesLess b c = true → Op.bytesLess a c = true
 | _, [], _, h, _ => by simp [Op.bytesLess] at h
 | _, _ :: _, [], _, h => by simp [Op.bytesLess] at h
 | [], _ :: _, _ :: _, _, _ => by simp [Op.bytesLess]
 | a :: x, b :: y, c :: z, h1, h2 => by
  simp only [Op.bytesLess, Bool.or_eq_true, Bool.and_eq_true, decide_eq_true_eq, beq_iff_eq] at h1 h2 ⊢
  rcases h1 with h1 | ⟨rfl, h1⟩
  ·rcases h2 with h2 | ⟨rfl, h2⟩
   ·exact .inl (UInt8.lt_trans h1 h2)
   ·exact .inl h1
  ·rcases h2 with h2 | ⟨rfl, h2⟩
   ·exact .inl h2
   ·exact .inr ⟨rfl, bl_trans (a := x) (b := y) (c := z) h1 h2⟩
theorem bl_irr : ∀ a : Str, Op.bytesLess a a = false
 | [] => rfl
 | a :: x => by simp [Op.bytesLess, bl_irr x]
theorem bl_tot {a b : Str} (h1 : Op.bytesLess a b = false) (h2 : Op.bytesLess b a = false) : a = b := by
 have := less_total a b
 rw [h1, h2] at this
 simpa using this
theorem bl_swo : SWO fun a b : Str => Op.bytesLess a b where
 irrefl := bl_irr
 trans _ _ _ := bl_trans
 ntrans x y z h1 h2 := by
  cases h : Op.bytesLess x z with
  | false => rfl
  | true =>
   cases h3 : Op.bytesLess y x with
   | true => have := bl_trans h3 h; rw [this] at h2; cases h2
   | false => have := bl_tot h1 h3; subst this; rw [h] at h2; cases h2
/-- The order of pairs, of entries: by From. -/
def ltP (a b : D_crosswalk_Pair) : Bool := decide (a.From.toNat < b.From.toNat)
def ltE (a b : D_crosswalk_Entry) : Bool := Op.bytesLess a.From b.From
theorem swoP : SWO ltP where
 irrefl x := by simp [ltP]
 trans x y z h1 h2 := by simp only [ltP, decide_eq_true_eq] at *; omega
 ntrans x y z h1 h2 := by simp only [ltP, decide_eq_false_iff_not] at *; omega
theorem swoE : SWO ltE := ⟨fun _ => bl_swo.irrefl _, fun _ _ _ => bl_swo.trans _ _ _, fun _ _ _ => bl_swo.ntrans _ _ _⟩
def m66 (a0 : List D_crosswalk_Pair) (p1 : D_crosswalk_Pair → D_crosswalk_Pair → Option Int) : Option (List D_crosswalk_Pair) :=
  if a0.Pairwise (fun a b => a.From ≠ b.From) then some (sorted ltP a0) else none
def m69 (a0 : List D_crosswalk_Entry) (p1 : D_crosswalk_Entry → D_crosswalk_Entry → Option Int) : Option (List D_crosswalk_Entry) :=
  if a0.Pairwise (fun a b => a.From ≠ b.From) then some (sorted ltE a0) else none
def post66 (v : Value) (n : Nat) (r : List D_crosswalk_Pair) (u : Value) (rw : List Row) (fs : List Fact) : Prop := u = .tuple #[] ∧ ∃ i, rw = [⟨v, 82, 2, n, i⟩] ∧ fs = [(ty82.row r i), (pureF (r.length * ty82.bytes ≤ 140737488355328))]
def post69 (v : Value) (n : Nat) (r : List D_crosswalk_Entry) (u : Value) (rw : List Row) (fs : List Fact) : Prop := u = .tuple #[] ∧ ∃ i, rw = [⟨v, 76, 3, n, i⟩] ∧ fs = [(ty76.row r i), (pureF (r.length * ty76.bytes ≤ 140737488355328))]
theorem en66 : Enters Tryz.prog 66 := ⟨_, Tryz.func66, by kernel_rfl, rfl⟩
theorem enS67 : Enters Tryz.prog 67 := ⟨_, Tryz.func67, by kernel_rfl, rfl⟩
theorem en69 : Enters Tryz.prog 69 := ⟨_, Tryz.func69, by kernel_rfl, rfl⟩
theorem enS70 : Enters Tryz.prog 70 := ⟨_, Tryz.func70, by kernel_rfl, rfl⟩
theorem f66_spec {a0 : List D_crosswalk_Pair} {p1 : D_crosswalk_Pair → D_crosswalk_Pair → Option Int} {v : Value} {n : Nat} {i : List Value} {r : List D_crosswalk_Pair} (hr : m66 a0 p1 = some r) :
  SpecG Tryz.prog 66 [v, .func (.func 67) #[] #[]] [⟨v, 82, 2, n, i⟩] [(ty82.row a0 i), (pureF (a0.length * ty82.bytes ≤ 140737488355328))] (post66 v n r) := by
 unfold m66 at hr
 split at hr
 ·rename_i hd
  obtain rfl := Option.some.inj hr
  exact sort_specG ty82 (sorts66 enS67.run) (none66 67) (by decide) (by decide) en66 ltP (fun a b => Lib.compareInt (a.From.toNat : Int) (b.From.toNat : Int))
   (fun a b => by
    unfold Lib.compareInt ltP
    by_cases h1 : (a.From.toNat : Int) < (b.From.toNat : Int)
    ·rw [if_pos h1]; simp; omega
    ·rw [if_neg h1]
     by_cases h2 : (b.From.toNat : Int) < (a.From.toNat : Int)
     ·rw [if_pos h2]; simp; omega
     ·rw [if_neg h2]; simp; omega) swoP
   (fun F w x y cx cy hx hy W => by
    obtain ⟨c1, c2, rfl, ⟨rfl, _⟩, ⟨rfl, _⟩⟩ := hx
    obtain ⟨d1, d2, rfl, ⟨rfl, _⟩, ⟨rfl, _⟩⟩ := hy
    exact clo67 _ _ _ _ W) a0
   (hd.imp (fun {a b} h hh => h (UInt8.toNat_inj.1 (by simp only [ltP, decide_eq_false_iff_not] at hh; omega)))) v 82 n i
 ·cases hr
theorem f69_spec {a0 : List D_crosswalk_Entry} {p1 : D_crosswalk_Entry → D_crosswalk_Entry → Option Int} {v : Value} {n : Nat} {i : List Value} {r : List D_crosswalk_Entry} (hr : m69 a0 p1 = some r) :
  SpecG Tryz.prog 69 [v, .func (.func 70) #[] #[]] [⟨v, 76, 3, n, i⟩] [(ty76.row a0 i), (pureF (a0.length * ty76.bytes ≤ 140737488355328))] (post69 v n r) := by
 unfold m69 at hr
 split at hr
 ·rename_i hd
  obtain rfl := Option.some.inj hr
  exact sort_specG ty76 (sorts69 enS70.run) (none69 70) (by decide) (by decide) en69 ltE (fun a b => cmpS a.From b.From) (fun a b => cmpS_lt _ _) swoE
   (fun F w x y cx cy hx hy W => by
    obtain ⟨s, hcs, _⟩ := op76 hx
    obtain ⟨t, hct, _⟩ := op76 hy
    rw [hcs, hct]
    exact clo70 _ _ _ _ _ _ W) a0
   (hd.imp (fun {a b} h hh => h (bl_tot hh.1 hh.2))) v 76 n i
 ·cases hr
end Go.WK.S
