/- The readers of the laws' arguments, and the tables of unicode/utf8 off the row's list. -/
import Derived.Test.YtidmlhihfanglaaGreatDoorRows
import Derived.Test.YtidmlhihfanglaaGreatDoorTie
import Derived.Test.YtidmlhihfanglaaGreatDoorCards
import Derived.Test.YtidmlhihfanglaaGreatDoorMapsF05
import Derived.Test.YtidmlhihfanglaaGreatDoorMapsKM
import Derived.Test.YtidmlhihfanglaaGreatDoorMapsKN
import Derived.WalkKit
import Derived.ProofKit
import Derived.OpenShut
import Derived.LaidMore
import Derived.Lay
import Derived.Below
import Derived.SevenTiedAt
import Derived.Stop.Joined
import Derived.Lib.LaidU8
set_option linter.unusedSimpArgs false
set_option linter.unusedVariables false
namespace Go.Proofs.YtidmlhihfanglaaGreatDoor.CP
open Go.ChangeShapes Go.WideShapes Go.ChangeAt Go.RowKit Go.WK Go.WK.S
set_option maxRecDepth 100000
set_option linter.unusedVariables false
set_option linter.unusedSimpArgs false

theorem own : ownKnob Tryz.prog.godebug = none := by kernel_rfl
theorem laidOut : laidOutB Tryz.prog = true := by kernel_rfl
theorem rd9 : Rdr Tryz.prog 9 1 (Is Ty.str) := rdr_str Tryz.underlying9 (by kernel_rfl)
theorem rd5 : Rdr Tryz.prog 5 1 (Is Ty.u8) := rdr_u8 Tryz.underlying5 (by kernel_rfl)
theorem rd83 : Rdr Tryz.prog 83 2 (Is ty83) := (rdr_struct Tryz.underlying83 (by kernel_rfl) (.cons rfl rd5 (.cons rfl rd5 .nil))).imp fun W cs h => by
 obtain ⟨c1, r1, rfl, ⟨x1, h1⟩, c2, r2, rfl, ⟨x2, h2⟩, rfl⟩ := h
 exact ⟨⟨x1, x2⟩, c1, c2, by simp, h1, h2⟩
theorem rd48 : Rdr Tryz.prog 48 1 (Is (Ty.slice ty83)) := rdr_slice Tryz.underlying48 (by kernel_rfl) rd83 (by kernel_rfl)
theorem rd50 : Rdr Tryz.prog 50 3 (Is ty50) := (rdr_struct Tryz.underlying50 (by kernel_rfl) (.cons rfl rd9 (.cons rfl rd9 (.cons rfl rd48 .nil)))).imp fun W cs h => by
 obtain ⟨c1, r1, rfl, ⟨x1, h1⟩, c2, r2, rfl, ⟨x2, h2⟩, c3, r3, rfl, ⟨x3, h3⟩, rfl⟩ := h
 exact ⟨⟨x1, x2, x3⟩, c1, c2 ++ c3, by simp, h1, c2, c3, rfl, h2, h3⟩
theorem rd22 : Rdr Tryz.prog 22 1 (Is (Ty.slice ty50)) := rdr_slice Tryz.underlying22 (by kernel_rfl) rd50 (by kernel_rfl)

theorem first_eq : Go.Pinned.utf8First = Lib.firstData := by kernel_rfl
theorem accept_eq : Rows.laid_unicode_utf8_acceptRanges (H := Unit) = Lib.acceptData := by kernel_rfl
theorem extra : U8Extra Tryz.prog ren185 := ⟨by kernel_rfl, by kernel_rfl, by kernel_rfl, by kernel_rfl, by kernel_rfl, by kernel_rfl, by kernel_rfl⟩
theorem tabs {W : World} (h : laidMetH Tryz.prog Rows.crosswalkBackRow.laid W) : (utf8F 1 2).P (inW W) W := by
 rw [MakeChecks.laidMetH_plain _ _ _ (by kernel_rfl)] at h
 refine utf8F_of (utf8Tabs_of_reads lays185 extra ?_ ?_)
 ·rw [← first_eq]; exact Lib.laidMet.reads h (.tail _ (.head _))
 ·rw [← accept_eq]; exact Lib.laidMet.reads h (.head _)
end Go.Proofs.YtidmlhihfanglaaGreatDoor.CP
