/- The readers of the laws' arguments, and the tables and variables off the row's list. -/
import Derived.Test.YteljaomifdnkkaaGreatDoorRows
import Derived.Test.YteljaomifdnkkaaGreatDoorTie
import Derived.Test.YteljaomifdnkkaaGreatDoorCards
import Derived.Test.YteljaomifdnkkaaGreatDoorCompareF04
import Derived.Test.YteljaomifdnkkaaGreatDoorCompareKM
import Derived.Test.YteljaomifdnkkaaGreatDoorCompareKN
import Derived.Test.YteljaomifdnkkaaGreatDoorCompareKT
import Derived.WalkKit
import Derived.ProofKit
import Derived.OpenShut
import Derived.LaidMore
import Derived.Lay
import Derived.Below
import Derived.SevenTiedAt
import Derived.Stop.Joined
import Derived.Stop.LaidErr
import Derived.Lib.LaidU8
import Derived.Lib.LaidTab
set_option linter.unusedSimpArgs false
set_option linter.unusedVariables false
namespace Go.Proofs.YteljaomifdnkkaaGreatDoor.CP
open Go.ChangeShapes Go.WideShapes Go.ChangeAt Go.RowKit Go.WK Go.WK.S
set_option maxRecDepth 100000
set_option linter.unusedVariables false
set_option linter.unusedSimpArgs false

theorem own : ownKnob Tryz.prog.godebug = none := by kernel_rfl
theorem laidOut : laidOutB Tryz.prog = true := by kernel_rfl
theorem rd9 : Rdr Tryz.prog 9 1 (Is Ty.str) := rdr_str Tryz.underlying9 (by kernel_rfl)
theorem rd5 : Rdr Tryz.prog 5 1 (Is Ty.u8) := rdr_u8 Tryz.underlying5 (by kernel_rfl)
theorem rd3 : Rdr Tryz.prog 3 1 (Is (Ty.int .i64)) := rdr_int Tryz.underlying3 (by kernel_rfl)
theorem rd56 : Rdr Tryz.prog 56 2 (Cat [Is Ty.u8, Is Ty.u8]) := rdr_array (k := 2) (n := 1) Tryz.underlying56 (by kernel_rfl) rd5
theorem rd67 : Rdr Tryz.prog 67 2 (Is ty67) := (rdr_struct Tryz.underlying67 (by kernel_rfl) (.cons rfl rd5 (.cons rfl rd9 .nil))).imp fun W cs h => by
 obtain ⟨c1, r1, rfl, ⟨x1, h1⟩, c2, r2, rfl, ⟨x2, h2⟩, rfl⟩ := h
 exact ⟨⟨x1, x2⟩, c1, c2, by simp, h1, h2⟩
theorem rd57 : Rdr Tryz.prog 57 1 (Is (Ty.slice ty67)) := rdr_slice Tryz.underlying57 (by kernel_rfl) rd67 (by kernel_rfl)
theorem rd59 : Rdr Tryz.prog 59 4 (Is ty59) := (rdr_struct Tryz.underlying59 (by kernel_rfl) (.cons rfl rd9 (.cons rfl rd56 (.cons rfl rd57 .nil)))).imp fun W cs h => by
 obtain ⟨c1, r1, rfl, ⟨x1, h1⟩, c2, r2, rfl, ⟨a1, s1, rfl, ⟨y1, k1⟩, a2, s2, rfl, ⟨y2, k2⟩, rfl⟩, c3, r3, rfl, ⟨x3, h3⟩, rfl⟩ := h
 exact ⟨⟨x1, y1, y2, x3⟩, c1, a1 ++ (a2 ++ c3), by simp, h1, a1, a2 ++ c3, rfl, k1, a2, c3, rfl, k2, h3⟩
theorem rd22 : Rdr Tryz.prog 22 1 (Is (Ty.slice ty59)) := rdr_slice Tryz.underlying22 (by kernel_rfl) rd59 (by kernel_rfl)
theorem rd24 : Rdr Tryz.prog 24 2 (Is ty24) := (rdr_struct Tryz.underlying24 (by kernel_rfl) (.cons rfl rd3 (.cons rfl rd22 .nil))).imp fun W cs h => by
 obtain ⟨c1, r1, rfl, ⟨x1, h1⟩, c2, r2, rfl, ⟨x2, h2⟩, rfl⟩ := h
 exact ⟨⟨x1, x2⟩, c1, c2, by simp, h1, h2⟩

theorem first_eq : Go.Pinned.utf8First = Lib.firstData := by kernel_rfl
theorem accept_eq : Rows.laid_unicode_utf8_acceptRanges (H := Unit) = Lib.acceptData := by kernel_rfl
theorem pow_eq : Rows.laid_internal_strconv_uint64pow10 (H := Unit) = Lib.tabData .u64 Lib.pow10Tab := by kernel_rfl
theorem extra : U8Extra Tryz.prog ren172 := ⟨by kernel_rfl, by kernel_rfl, by kernel_rfl, by kernel_rfl, by kernel_rfl, by kernel_rfl, by kernel_rfl⟩
theorem gPow : Tryz.prog.globalNamed "internal/strconv.uint64pow10" = some 1 := by kernel_rfl
theorem gSyn : Tryz.prog.globalNamed "strconv.ErrSyntax" = some 2 := by kernel_rfl
theorem gRan : Tryz.prog.globalNamed "strconv.ErrRange" = some 3 := by kernel_rfl
theorem tPow : (Tryz.prog.globals[1]?).map (·.type) = some 183 := by kernel_rfl
theorem tSyn : (Tryz.prog.globals[2]?).map (·.type) = some 117 := by kernel_rfl
theorem tRan : (Tryz.prog.globals[3]?).map (·.type) = some 117 := by kernel_rfl
theorem star : "*" ++ "errors.errorString" = "*errors.errorString" := by decide
theorem row202 (u : TypeId) (h : Tryz.prog.typeName? 3 u = some "*errors.errorString") : u = 202 :=
 typeName_ptr_named (nm := "errors.errorString") (by rw [star]; kernel_rfl) (by kernel_rfl) (by decide) u (by rw [star]; exact h)
theorem var_lt {P : Program} {W : World} {n : String} {g : Nat} {cs : Array Value} (hg : P.globalNamed n = some g) (h : W.var? P n = some cs) : g < W.heap.size := by
 rcases Nat.lt_or_ge g W.heap.size with hl | hl
 ·exact hl
 ·simp [World.var?, hg, Array.getElem?_eq_none hl] at h
theorem tabs {W : World} (h : laidMetH Tryz.prog Rows.recordTextRow.laid W) : (tabsF Tryz.prog 4 5).P (inW W) W := by
 rw [MakeChecks.laidMetH_plain _ _ _ (by kernel_rfl)] at h
 refine ⟨?_, ?_, ?_, ?_⟩
 ·refine utf8F_of (utf8Tabs_of_reads lays172 extra ?_ ?_)
  ·rw [← first_eq]; exact Lib.laidMet.reads h (.tail _ (.tail _ (.tail _ (.tail _ (.tail _ (.tail _ (.head _)))))))
  ·rw [← accept_eq]; exact Lib.laidMet.reads h (.tail _ (.tail _ (.tail _ (.head _))))
 ·obtain ⟨g, t, cs, fuel, p, h1, h2, h3, h4⟩ := Lib.laidMet.reads h (.tail _ (.tail _ (.head _)))
  obtain rfl := Option.some.inj (gPow.symm.trans h1)
  obtain rfl := Option.some.inj (tPow.symm.trans h2)
  rw [pow_eq] at h4
  have hc := Lib.cells_of_tab (n := 20) (e := 130) (k := .u64) Tryz.underlying183 Tryz.underlying130 (by kernel_rfl) (by kernel_rfl) h4
  exact ⟨1, cs, gPow, var_lt gPow h3, h3, by unfold isPow; rw [← hc]⟩
 ·obtain ⟨a0, s0, hv0, -, -, -⟩ := laid_sentinel h.tail.tail.tail.tail.tail gSyn tSyn Tryz.underlying117 row202 Tryz.underlying202 Tryz.underlying204 rfl rfl Tryz.underlying9 (by kernel_rfl) (by kernel_rfl)
  exact ⟨2, _, gSyn, var_lt gSyn hv0, hv0, _, _, rfl⟩
 ·obtain ⟨a0, s0, hv0, -, -, -⟩ := laid_sentinel h.tail.tail.tail.tail gRan tRan Tryz.underlying117 row202 Tryz.underlying202 Tryz.underlying204 rfl rfl Tryz.underlying9 (by kernel_rfl) (by kernel_rfl)
  exact ⟨3, _, gRan, var_lt gRan hv0, hv0, _, _, rfl⟩
end Go.Proofs.YteljaomifdnkkaaGreatDoor.CP
