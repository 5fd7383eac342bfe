/-
  NARROWER THAN 'FOR EVERY INPUT', by the rows' own cells (each row's printed sentence says how): CrosswalkBack: laid · CrosswalkText: laid · CrosswalkCompose: laid · CrosswalkConvert: laid · CrosswalkLoss: laid · CrosswalkInverse: laid · CrosswalkMaps: laid.
  DERIVED. THE GIVEN ROWS OF THIS SEAT. 7 by the template 'for every input the law returns true; each argument reads behind the call as it read before'; 0 by the template 'total and deterministic' (their statements: YtidmlhihfanglaaGreatDoorTotals.lean).
  GIVEN WITH THE SEED: the statements are not yours to turn. If you find one false, say at which input.
  Laid BY PROGRAM, IN A SANDBOX (cutbox-rows.mjs): the forced cells as the released guide's own fill.sh prints them over the translation 75c8b996f5ffced0… (all of the seat's roots in one cut). By AI agents, Wed Nov 11 2026. No macro, syntax, notation, axiom, sorry.
-/
import Derived.Test.YtidmlhihfanglaaGreatDoorChecked
import GoSem.PinnedTables
import GoSem.Claim
import GoSem.ClaimJoined
import GoSem.ClaimMapViews
import Derived.JoinedTies
import Derived.KernelRfl
namespace Go.Proofs.YtidmlhihfanglaaGreatDoor
/- THE CELL 'sum', in the pinned program and in every row, IS THE sha256 OF THE DUMP (.gsa) THAT YtidmlhihfanglaaGreatDoorProg.lean LOADS. Nothing in Lean hashes anything: it is a label: what it is worth is what the hold of that sum in a sandbox is worth. -/
noncomputable def Tryz.pinned : Pinned := { name := "ytidmlhihfanglaagreatdoor", sum := "75c8b996f5ffced0095ba7c90962c3054ce864a8ca8f7d6a86d880250cb9d093", checked := Tryz.checked }
namespace Rows
def none {H : Type} : Left H := { results := [], args := [] }

/- WHAT THE LISTED PACKAGE-LEVEL VARIABLES READ AS WHEN THE CALL BEGINS. Each datum BY PROGRAM (the guide's laid-datum.mjs) off the statement by which the dump's own 'gosem.cut.vars' lays the variable. In a bare row this is a premise. The card (YtidmlhihfanglaaGreatDoorCards.lean) ties it to the program's text. -/
def laid_unicode_utf8_acceptRanges {H : Type} : DataW H := .agg [.agg [.lit (.int .u8 128), .lit (.int .u8 191)], .agg [.lit (.int .u8 160), .lit (.int .u8 191)], .agg [.lit (.int .u8 128), .lit (.int .u8 159)], .agg [.lit (.int .u8 144), .lit (.int .u8 191)], .agg [.lit (.int .u8 128), .lit (.int .u8 143)], .agg [.lit (.int .u8 0), .lit (.int .u8 0)], .agg [.lit (.int .u8 0), .lit (.int .u8 0)], .agg [.lit (.int .u8 0), .lit (.int .u8 0)], .agg [.lit (.int .u8 0), .lit (.int .u8 0)], .agg [.lit (.int .u8 0), .lit (.int .u8 0)], .agg [.lit (.int .u8 0), .lit (.int .u8 0)], .agg [.lit (.int .u8 0), .lit (.int .u8 0)], .agg [.lit (.int .u8 0), .lit (.int .u8 0)], .agg [.lit (.int .u8 0), .lit (.int .u8 0)], .agg [.lit (.int .u8 0), .lit (.int .u8 0)], .agg [.lit (.int .u8 0), .lit (.int .u8 0)]]
/-- One of Go's own tables, pinned by name: the form's constant. -/
def laid_unicode_utf8_first : DataW Unit := Go.Pinned.utf8First

/-- 'bookplatelaw16.CrosswalkBack': WHATEVER THE INPUT: true; the input reads as it did. -/
def crosswalkBackSpec : ChangeSpec := { name := "crosswalkBack", fn := fun _ => fun
  | [d1, d2] => { results := [.lit (.bool true)], args := [d1, d2] }
  | _ => none }
def crosswalkBackRow : OpenClaim := { program := "ytidmlhihfanglaagreatdoor", sum := "75c8b996f5ffced0095ba7c90962c3054ce864a8ca8f7d6a86d880250cb9d093", func := "bookplate/bookplatelaw16.CrosswalkBack", spec := "crosswalkBack", inPlace := ["internal/bytealg.IndexByteString", "internal/bytealg.IndexString", "internal/bytealg.CountString"], unfollowed := true, recurses := true, named := ["internal/bytealg.MaxLen", "unicode/utf8.first", "unicode/utf8.acceptRanges"], apart := false, laid := [("unicode/utf8.acceptRanges", laid_unicode_utf8_acceptRanges), ("unicode/utf8.first", laid_unicode_utf8_first)] }
def CrosswalkBackSaid : Prop := crosswalkBackRow.holds Tryz.pinned (OpenSpec.ofChange crosswalkBackSpec)

/-- ITS FALSE NEIGHBOUR: 'it returns false'. Refute it at one input. -/
def crosswalkBackWrong : ChangeSpec := { name := "crosswalkBack", fn := fun _ => fun
  | [d1, d2] => { results := [.lit (.bool false)], args := [d1, d2] }
  | _ => none }
def CrosswalkBackWrongFalsely : Prop := crosswalkBackRow.holds Tryz.pinned (OpenSpec.ofChange crosswalkBackWrong)

/-- 'bookplatelaw16.CrosswalkText': WHATEVER THE INPUT: true; the input reads as it did. -/
def crosswalkTextSpec : ChangeSpec := { name := "crosswalkText", fn := fun _ => fun
  | [d1, d2] => { results := [.lit (.bool true)], args := [d1, d2] }
  | _ => none }
def crosswalkTextRow : OpenClaim := { program := "ytidmlhihfanglaagreatdoor", sum := "75c8b996f5ffced0095ba7c90962c3054ce864a8ca8f7d6a86d880250cb9d093", func := "bookplate/bookplatelaw16.CrosswalkText", spec := "crosswalkText", inPlace := ["internal/bytealg.IndexByteString", "internal/bytealg.IndexString", "internal/bytealg.CountString"], unfollowed := true, recurses := true, named := ["internal/bytealg.MaxLen", "unicode/utf8.first", "unicode/utf8.acceptRanges"], apart := false, laid := [("unicode/utf8.acceptRanges", laid_unicode_utf8_acceptRanges), ("unicode/utf8.first", laid_unicode_utf8_first)] }
def CrosswalkTextSaid : Prop := crosswalkTextRow.holds Tryz.pinned (OpenSpec.ofChange crosswalkTextSpec)

/-- ITS FALSE NEIGHBOUR: 'it returns false'. Refute it at one input. -/
def crosswalkTextWrong : ChangeSpec := { name := "crosswalkText", fn := fun _ => fun
  | [d1, d2] => { results := [.lit (.bool false)], args := [d1, d2] }
  | _ => none }
def CrosswalkTextWrongFalsely : Prop := crosswalkTextRow.holds Tryz.pinned (OpenSpec.ofChange crosswalkTextWrong)

/-- 'bookplatelaw16.CrosswalkCompose': WHATEVER THE INPUT: true; the input reads as it did. -/
def crosswalkComposeSpec : ChangeSpec := { name := "crosswalkCompose", fn := fun _ => fun
  | [d1, d2, d3] => { results := [.lit (.bool true)], args := [d1, d2, d3] }
  | _ => none }
def crosswalkComposeRow : OpenClaim := { program := "ytidmlhihfanglaagreatdoor", sum := "75c8b996f5ffced0095ba7c90962c3054ce864a8ca8f7d6a86d880250cb9d093", func := "bookplate/bookplatelaw16.CrosswalkCompose", spec := "crosswalkCompose", inPlace := ["internal/bytealg.IndexByteString", "internal/bytealg.IndexString", "internal/bytealg.CountString"], unfollowed := true, recurses := true, named := ["internal/bytealg.MaxLen", "unicode/utf8.first", "unicode/utf8.acceptRanges"], apart := false, laid := [("unicode/utf8.acceptRanges", laid_unicode_utf8_acceptRanges), ("unicode/utf8.first", laid_unicode_utf8_first)] }
def CrosswalkComposeSaid : Prop := crosswalkComposeRow.holds Tryz.pinned (OpenSpec.ofChange crosswalkComposeSpec)

/-- ITS FALSE NEIGHBOUR: 'it returns false'. Refute it at one input. -/
def crosswalkComposeWrong : ChangeSpec := { name := "crosswalkCompose", fn := fun _ => fun
  | [d1, d2, d3] => { results := [.lit (.bool false)], args := [d1, d2, d3] }
  | _ => none }
def CrosswalkComposeWrongFalsely : Prop := crosswalkComposeRow.holds Tryz.pinned (OpenSpec.ofChange crosswalkComposeWrong)

/-- 'bookplatelaw16.CrosswalkConvert': WHATEVER THE INPUT: true; the input reads as it did. -/
def crosswalkConvertSpec : ChangeSpec := { name := "crosswalkConvert", fn := fun _ => fun
  | [d1, d2] => { results := [.lit (.bool true)], args := [d1, d2] }
  | _ => none }
def crosswalkConvertRow : OpenClaim := { program := "ytidmlhihfanglaagreatdoor", sum := "75c8b996f5ffced0095ba7c90962c3054ce864a8ca8f7d6a86d880250cb9d093", func := "bookplate/bookplatelaw16.CrosswalkConvert", spec := "crosswalkConvert", inPlace := ["internal/bytealg.IndexByteString", "internal/bytealg.IndexString", "internal/bytealg.CountString", "internal/bytealg.abigen_runtime_cmpstring"], unfollowed := true, recurses := true, named := ["internal/bytealg.MaxLen", "unicode/utf8.first", "unicode/utf8.acceptRanges"], apart := false, laid := [("unicode/utf8.acceptRanges", laid_unicode_utf8_acceptRanges), ("unicode/utf8.first", laid_unicode_utf8_first)] }
def CrosswalkConvertSaid : Prop := crosswalkConvertRow.holds Tryz.pinned (OpenSpec.ofChange crosswalkConvertSpec)

/-- ITS FALSE NEIGHBOUR: 'it returns false'. Refute it at one input. -/
def crosswalkConvertWrong : ChangeSpec := { name := "crosswalkConvert", fn := fun _ => fun
  | [d1, d2] => { results := [.lit (.bool false)], args := [d1, d2] }
  | _ => none }
def CrosswalkConvertWrongFalsely : Prop := crosswalkConvertRow.holds Tryz.pinned (OpenSpec.ofChange crosswalkConvertWrong)

/-- 'bookplatelaw16.CrosswalkLoss': WHATEVER THE INPUT: true; the input reads as it did. -/
def crosswalkLossSpec : ChangeSpec := { name := "crosswalkLoss", fn := fun _ => fun
  | [d] => { results := [.lit (.bool true)], args := [d] }
  | _ => none }
def crosswalkLossRow : OpenClaim := { program := "ytidmlhihfanglaagreatdoor", sum := "75c8b996f5ffced0095ba7c90962c3054ce864a8ca8f7d6a86d880250cb9d093", func := "bookplate/bookplatelaw16.CrosswalkLoss", spec := "crosswalkLoss", inPlace := ["internal/bytealg.IndexByteString", "internal/bytealg.IndexString", "internal/bytealg.CountString", "internal/bytealg.abigen_runtime_cmpstring"], unfollowed := true, recurses := true, named := ["internal/bytealg.MaxLen", "unicode/utf8.first", "unicode/utf8.acceptRanges"], apart := false, laid := [("unicode/utf8.acceptRanges", laid_unicode_utf8_acceptRanges), ("unicode/utf8.first", laid_unicode_utf8_first)] }
def CrosswalkLossSaid : Prop := crosswalkLossRow.holds Tryz.pinned (OpenSpec.ofChange crosswalkLossSpec)

/-- ITS FALSE NEIGHBOUR: 'it returns false'. Refute it at one input. -/
def crosswalkLossWrong : ChangeSpec := { name := "crosswalkLoss", fn := fun _ => fun
  | [d] => { results := [.lit (.bool false)], args := [d] }
  | _ => none }
def CrosswalkLossWrongFalsely : Prop := crosswalkLossRow.holds Tryz.pinned (OpenSpec.ofChange crosswalkLossWrong)

/-- 'bookplatelaw16.CrosswalkInverse': WHATEVER THE INPUT: true; the input reads as it did. -/
def crosswalkInverseSpec : ChangeSpec := { name := "crosswalkInverse", fn := fun _ => fun
  | [d1, d2] => { results := [.lit (.bool true)], args := [d1, d2] }
  | _ => none }
def crosswalkInverseRow : OpenClaim := { program := "ytidmlhihfanglaagreatdoor", sum := "75c8b996f5ffced0095ba7c90962c3054ce864a8ca8f7d6a86d880250cb9d093", func := "bookplate/bookplatelaw16.CrosswalkInverse", spec := "crosswalkInverse", inPlace := ["internal/bytealg.IndexByteString", "internal/bytealg.IndexString", "internal/bytealg.CountString"], unfollowed := true, recurses := true, named := ["internal/bytealg.MaxLen", "unicode/utf8.first", "unicode/utf8.acceptRanges"], apart := false, laid := [("unicode/utf8.acceptRanges", laid_unicode_utf8_acceptRanges), ("unicode/utf8.first", laid_unicode_utf8_first)] }
def CrosswalkInverseSaid : Prop := crosswalkInverseRow.holds Tryz.pinned (OpenSpec.ofChange crosswalkInverseSpec)

/-- ITS FALSE NEIGHBOUR: 'it returns false'. Refute it at one input. -/
def crosswalkInverseWrong : ChangeSpec := { name := "crosswalkInverse", fn := fun _ => fun
  | [d1, d2] => { results := [.lit (.bool false)], args := [d1, d2] }
  | _ => none }
def CrosswalkInverseWrongFalsely : Prop := crosswalkInverseRow.holds Tryz.pinned (OpenSpec.ofChange crosswalkInverseWrong)

/-- 'bookplatelaw16.CrosswalkMaps': WHATEVER THE INPUT: true; the input reads as it did. -/
def crosswalkMapsSpec : ChangeSpec := { name := "crosswalkMaps", fn := fun _ => fun
  | [d1, d2] => { results := [.lit (.bool true)], args := [d1, d2] }
  | _ => none }
def crosswalkMapsRow : OpenClaim := { program := "ytidmlhihfanglaagreatdoor", sum := "75c8b996f5ffced0095ba7c90962c3054ce864a8ca8f7d6a86d880250cb9d093", func := "bookplate/bookplatelaw16.CrosswalkMaps", spec := "crosswalkMaps", inPlace := ["internal/bytealg.IndexByteString", "internal/bytealg.IndexString", "internal/bytealg.CountString"], unfollowed := true, recurses := true, named := ["internal/bytealg.MaxLen", "unicode/utf8.first", "unicode/utf8.acceptRanges"], apart := false, laid := [("unicode/utf8.acceptRanges", laid_unicode_utf8_acceptRanges), ("unicode/utf8.first", laid_unicode_utf8_first)] }
def CrosswalkMapsSaid : Prop := crosswalkMapsRow.holds Tryz.pinned (OpenSpec.ofChange crosswalkMapsSpec)

/-- ITS FALSE NEIGHBOUR: 'it returns false'. Refute it at one input. -/
def crosswalkMapsWrong : ChangeSpec := { name := "crosswalkMaps", fn := fun _ => fun
  | [d1, d2] => { results := [.lit (.bool false)], args := [d1, d2] }
  | _ => none }
def CrosswalkMapsWrongFalsely : Prop := crosswalkMapsRow.holds Tryz.pinned (OpenSpec.ofChange crosswalkMapsWrong)

/- THE SECOND FORM. 'bulk': how many values and letters a reading holds, each counted each time it is reached (what is shared counts as often as it is met; a slice's spare places count too). A statement '..UptoSaid' is the law's where the arguments, and the package variables that the reading takes, are together of bulk at most 1048576: NARROWER than '..Said'. Prove '..Said' where nothing that the law and all that it calls make is longer than what came in: it says more and counts as full. Else prove '..UptoSaid'. A law counts once. -/
mutual
def uptoBulk {H : Type} : DataW H → Nat
  | .lit (.string bytes) => bytes.length + 1
  | .lit _ => 1
  | .nil => 1
  | .ptr d => uptoBulk d + 1
  | .slice elems spare => uptoBulkAll elems + uptoBulkAll spare + 1
  | .agg parts => uptoBulkAll parts + 1
  | .iface _ d => uptoBulk d + 1
  | .map entries => uptoBulkEntries entries + 1
  | .held _ => 1
def uptoBulkAll {H : Type} : List (DataW H) → Nat
  | [] => 0
  | d :: r => uptoBulk d + uptoBulkAll r
def uptoBulkEntries {H : Type} : List (Lit × DataW H) → Nat
  | [] => 0
  | x :: r => uptoBulkEntry x + uptoBulkEntries r
def uptoBulkEntry {H : Type} : Lit × DataW H → Nat
  | (.string bytes, d) => bytes.length + uptoBulk d + 1
  | (_, d) => uptoBulk d + 1
 end
def uptoSmall : (H : Type) → List (DataW H) → Bool := fun _ ds => decide (uptoBulkAll ds ≤ 1048576)
def OpenSpec.upto (s : _root_.Go.ChangeSpec) : _root_.Go.OpenSpec := { _root_.Go.OpenSpec.ofChange s with cond := some uptoSmall }

/-- 'bookplatelaw16.CrosswalkBack', WHERE WHAT IT READS IS OF BULK AT MOST 1048576: true; the input reads as it did. -/
def crosswalkBackUptoRow : OpenClaim := { program := "ytidmlhihfanglaagreatdoor", sum := "75c8b996f5ffced0095ba7c90962c3054ce864a8ca8f7d6a86d880250cb9d093", func := "bookplate/bookplatelaw16.CrosswalkBack", spec := "crosswalkBack", inPlace := ["internal/bytealg.IndexByteString", "internal/bytealg.IndexString", "internal/bytealg.CountString"], unfollowed := true, recurses := true, named := ["internal/bytealg.MaxLen", "unicode/utf8.first", "unicode/utf8.acceptRanges"], apart := false, laid := [("unicode/utf8.acceptRanges", laid_unicode_utf8_acceptRanges), ("unicode/utf8.first", laid_unicode_utf8_first)], narrowed := true }
def CrosswalkBackUptoSaid : Prop := crosswalkBackUptoRow.holds Tryz.pinned (OpenSpec.upto crosswalkBackSpec)

/-- 'bookplatelaw16.CrosswalkText', WHERE WHAT IT READS IS OF BULK AT MOST 1048576: true; the input reads as it did. -/
def crosswalkTextUptoRow : OpenClaim := { program := "ytidmlhihfanglaagreatdoor", sum := "75c8b996f5ffced0095ba7c90962c3054ce864a8ca8f7d6a86d880250cb9d093", func := "bookplate/bookplatelaw16.CrosswalkText", spec := "crosswalkText", inPlace := ["internal/bytealg.IndexByteString", "internal/bytealg.IndexString", "internal/bytealg.CountString"], unfollowed := true, recurses := true, named := ["internal/bytealg.MaxLen", "unicode/utf8.first", "unicode/utf8.acceptRanges"], apart := false, laid := [("unicode/utf8.acceptRanges", laid_unicode_utf8_acceptRanges), ("unicode/utf8.first", laid_unicode_utf8_first)], narrowed := true }
def CrosswalkTextUptoSaid : Prop := crosswalkTextUptoRow.holds Tryz.pinned (OpenSpec.upto crosswalkTextSpec)

/-- 'bookplatelaw16.CrosswalkCompose', WHERE WHAT IT READS IS OF BULK AT MOST 1048576: true; the input reads as it did. -/
def crosswalkComposeUptoRow : OpenClaim := { program := "ytidmlhihfanglaagreatdoor", sum := "75c8b996f5ffced0095ba7c90962c3054ce864a8ca8f7d6a86d880250cb9d093", func := "bookplate/bookplatelaw16.CrosswalkCompose", spec := "crosswalkCompose", inPlace := ["internal/bytealg.IndexByteString", "internal/bytealg.IndexString", "internal/bytealg.CountString"], unfollowed := true, recurses := true, named := ["internal/bytealg.MaxLen", "unicode/utf8.first", "unicode/utf8.acceptRanges"], apart := false, laid := [("unicode/utf8.acceptRanges", laid_unicode_utf8_acceptRanges), ("unicode/utf8.first", laid_unicode_utf8_first)], narrowed := true }
def CrosswalkComposeUptoSaid : Prop := crosswalkComposeUptoRow.holds Tryz.pinned (OpenSpec.upto crosswalkComposeSpec)

/-- 'bookplatelaw16.CrosswalkConvert', WHERE WHAT IT READS IS OF BULK AT MOST 1048576: true; the input reads as it did. -/
def crosswalkConvertUptoRow : OpenClaim := { program := "ytidmlhihfanglaagreatdoor", sum := "75c8b996f5ffced0095ba7c90962c3054ce864a8ca8f7d6a86d880250cb9d093", func := "bookplate/bookplatelaw16.CrosswalkConvert", spec := "crosswalkConvert", inPlace := ["internal/bytealg.IndexByteString", "internal/bytealg.IndexString", "internal/bytealg.CountString", "internal/bytealg.abigen_runtime_cmpstring"], unfollowed := true, recurses := true, named := ["internal/bytealg.MaxLen", "unicode/utf8.first", "unicode/utf8.acceptRanges"], apart := false, laid := [("unicode/utf8.acceptRanges", laid_unicode_utf8_acceptRanges), ("unicode/utf8.first", laid_unicode_utf8_first)], narrowed := true }
def CrosswalkConvertUptoSaid : Prop := crosswalkConvertUptoRow.holds Tryz.pinned (OpenSpec.upto crosswalkConvertSpec)

/-- 'bookplatelaw16.CrosswalkLoss', WHERE WHAT IT READS IS OF BULK AT MOST 1048576: true; the input reads as it did. -/
def crosswalkLossUptoRow : OpenClaim := { program := "ytidmlhihfanglaagreatdoor", sum := "75c8b996f5ffced0095ba7c90962c3054ce864a8ca8f7d6a86d880250cb9d093", func := "bookplate/bookplatelaw16.CrosswalkLoss", spec := "crosswalkLoss", inPlace := ["internal/bytealg.IndexByteString", "internal/bytealg.IndexString", "internal/bytealg.CountString", "internal/bytealg.abigen_runtime_cmpstring"], unfollowed := true, recurses := true, named := ["internal/bytealg.MaxLen", "unicode/utf8.first", "unicode/utf8.acceptRanges"], apart := false, laid := [("unicode/utf8.acceptRanges", laid_unicode_utf8_acceptRanges), ("unicode/utf8.first", laid_unicode_utf8_first)], narrowed := true }
def CrosswalkLossUptoSaid : Prop := crosswalkLossUptoRow.holds Tryz.pinned (OpenSpec.upto crosswalkLossSpec)

/-- 'bookplatelaw16.CrosswalkInverse', WHERE WHAT IT READS IS OF BULK AT MOST 1048576: true; the input reads as it did. -/
def crosswalkInverseUptoRow : OpenClaim := { program := "ytidmlhihfanglaagreatdoor", sum := "75c8b996f5ffced0095ba7c90962c3054ce864a8ca8f7d6a86d880250cb9d093", func := "bookplate/bookplatelaw16.CrosswalkInverse", spec := "crosswalkInverse", inPlace := ["internal/bytealg.IndexByteString", "internal/bytealg.IndexString", "internal/bytealg.CountString"], unfollowed := true, recurses := true, named := ["internal/bytealg.MaxLen", "unicode/utf8.first", "unicode/utf8.acceptRanges"], apart := false, laid := [("unicode/utf8.acceptRanges", laid_unicode_utf8_acceptRanges), ("unicode/utf8.first", laid_unicode_utf8_first)], narrowed := true }
def CrosswalkInverseUptoSaid : Prop := crosswalkInverseUptoRow.holds Tryz.pinned (OpenSpec.upto crosswalkInverseSpec)

/-- 'bookplatelaw16.CrosswalkMaps', WHERE WHAT IT READS IS OF BULK AT MOST 1048576: true; the input reads as it did. -/
def crosswalkMapsUptoRow : OpenClaim := { program := "ytidmlhihfanglaagreatdoor", sum := "75c8b996f5ffced0095ba7c90962c3054ce864a8ca8f7d6a86d880250cb9d093", func := "bookplate/bookplatelaw16.CrosswalkMaps", spec := "crosswalkMaps", inPlace := ["internal/bytealg.IndexByteString", "internal/bytealg.IndexString", "internal/bytealg.CountString"], unfollowed := true, recurses := true, named := ["internal/bytealg.MaxLen", "unicode/utf8.first", "unicode/utf8.acceptRanges"], apart := false, laid := [("unicode/utf8.acceptRanges", laid_unicode_utf8_acceptRanges), ("unicode/utf8.first", laid_unicode_utf8_first)], narrowed := true }
def CrosswalkMapsUptoSaid : Prop := crosswalkMapsUptoRow.holds Tryz.pinned (OpenSpec.upto crosswalkMapsSpec)

end Rows
end Go.Proofs.YtidmlhihfanglaaGreatDoor
