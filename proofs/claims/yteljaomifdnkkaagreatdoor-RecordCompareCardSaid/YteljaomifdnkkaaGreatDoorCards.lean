/-
  DERIVED. GIVEN WITH THE SEED: THE CARDS: each row of YteljaomifdnkkaaGreatDoorRows.lean that lists a variable, with what it lists TIED to the program's text (the seventh form; the later family's looks); each row that meets fmt, with fmt's text TOLD by the authors' own Lean function (tested against real Go, not proved from fmt's source: count such statements apart). THE CARD IS WHAT COUNTS. Prove the row's statement (the work); the ties are given (YteljaomifdnkkaaGreatDoorTie.lean); close each card by the builder's one call (the guide's Derived/Test/ToyasCard.lean, 'card_holds'). Laid BY PROGRAM, IN A SANDBOX (cutbox-door.mjs). By AI agents, Wed Nov 11 2026. No macro, syntax, notation, axiom, sorry.
-/
import Derived.Test.YteljaomifdnkkaaGreatDoorRows
import GoSem.ClaimSeven
namespace Go.Proofs.YteljaomifdnkkaaGreatDoor
namespace Rows

/-- THE TIED CARD OF 'bookplatelaw12.RecordText'. -/
def recordTextCard : Claim7 := { stood := { row := recordTextRow, standIns := [], harness := (true, "d43a6c8994df462c311e2f9e5198f37be45320e824a7cd0403fa17790842f781"), looks := true }, kinds := [], alts := [], laidByText := true, laidKinds := [.data, .data, .data, .data, .sentinel, .sentinel, .pinned], laidTests := true, laidLooks := .later }
def RecordTextCardSaid : Prop := Claim7.holds Tryz.pinned (.plain (OpenSpec.ofChange recordTextSpec)) recordTextCard

/-- THE TIED CARD OF 'bookplatelaw12.RecordLines'. -/
def recordLinesCard : Claim7 := { stood := { row := recordLinesRow, standIns := [], harness := (true, "d43a6c8994df462c311e2f9e5198f37be45320e824a7cd0403fa17790842f781"), looks := true }, kinds := [], alts := [], laidByText := true, laidKinds := [.data, .data, .data, .data, .sentinel, .sentinel, .pinned], laidTests := true, laidLooks := .later }
def RecordLinesCardSaid : Prop := Claim7.holds Tryz.pinned (.plain (OpenSpec.ofChange recordLinesSpec)) recordLinesCard

/-- THE TIED CARD OF 'bookplatelaw12.RecordRead'. -/
def recordReadCard : Claim7 := { stood := { row := recordReadRow, standIns := [], harness := (true, "d43a6c8994df462c311e2f9e5198f37be45320e824a7cd0403fa17790842f781"), looks := true }, kinds := [], alts := [], laidByText := true, laidKinds := [.data, .data, .data, .data, .sentinel, .sentinel, .pinned], laidTests := true, laidLooks := .later }
def RecordReadCardSaid : Prop := Claim7.holds Tryz.pinned (.plain (OpenSpec.ofChange recordReadSpec)) recordReadCard

/-- THE TIED CARD OF 'bookplatelaw12.RecordCompare'. -/
def recordCompareCard : Claim7 := { stood := { row := recordCompareRow, standIns := [], harness := (true, "d43a6c8994df462c311e2f9e5198f37be45320e824a7cd0403fa17790842f781"), looks := true }, kinds := [], alts := [], laidByText := true, laidKinds := [.data, .data, .data, .data, .sentinel, .sentinel, .pinned], laidTests := true, laidLooks := .later }
def RecordCompareCardSaid : Prop := Claim7.holds Tryz.pinned (.plain (OpenSpec.ofChange recordCompareSpec)) recordCompareCard

/-- THE TIED CARD OF 'bookplatelaw12.RecordCode'. -/
def recordCodeCard : Claim7 := { stood := { row := recordCodeRow, standIns := [], harness := (true, "d43a6c8994df462c311e2f9e5198f37be45320e824a7cd0403fa17790842f781"), looks := true }, kinds := [], alts := [], laidByText := true, laidKinds := [.data, .data, .data, .data, .sentinel, .sentinel, .pinned], laidTests := true, laidLooks := .later }
def RecordCodeCardSaid : Prop := Claim7.holds Tryz.pinned (.plain (OpenSpec.ofChange recordCodeSpec)) recordCodeCard

/-- THE TIED CARD OF 'bookplatelaw12.RecordValid'. -/
def recordValidCard : Claim7 := { stood := { row := recordValidRow, standIns := [], harness := (true, "d43a6c8994df462c311e2f9e5198f37be45320e824a7cd0403fa17790842f781"), looks := true }, kinds := [], alts := [], laidByText := true, laidKinds := [.data, .data, .data, .data, .sentinel, .sentinel, .pinned], laidTests := true, laidLooks := .later }
def RecordValidCardSaid : Prop := Claim7.holds Tryz.pinned (.plain (OpenSpec.ofChange recordValidSpec)) recordValidCard

/-- THE TIED CARD OF 'bookplatelaw12.RecordSets'. -/
def recordSetsCard : Claim7 := { stood := { row := recordSetsRow, standIns := [], harness := (true, "d43a6c8994df462c311e2f9e5198f37be45320e824a7cd0403fa17790842f781"), looks := true }, kinds := [], alts := [], laidByText := true, laidKinds := [.data, .data, .data, .data, .sentinel, .sentinel, .pinned], laidTests := true, laidLooks := .later }
def RecordSetsCardSaid : Prop := Claim7.holds Tryz.pinned (.plain (OpenSpec.ofChange recordSetsSpec)) recordSetsCard

/-- THE TIED CARD OF 'bookplatelaw12.RecordCanonical'. -/
def recordCanonicalCard : Claim7 := { stood := { row := recordCanonicalRow, standIns := [], harness := (true, "d43a6c8994df462c311e2f9e5198f37be45320e824a7cd0403fa17790842f781"), looks := true }, kinds := [], alts := [], laidByText := true, laidKinds := [.data, .data, .data, .data, .sentinel, .sentinel, .pinned], laidTests := true, laidLooks := .later }
def RecordCanonicalCardSaid : Prop := Claim7.holds Tryz.pinned (.plain (OpenSpec.ofChange recordCanonicalSpec)) recordCanonicalCard

/-- THE SECOND FORM's CARD OF 'bookplatelaw12.RecordText'. -/
def recordTextUptoCard : Claim7 := { stood := { row := recordTextUptoRow, standIns := [], harness := (true, "d43a6c8994df462c311e2f9e5198f37be45320e824a7cd0403fa17790842f781"), looks := true }, kinds := [], alts := [], laidByText := true, laidKinds := [.data, .data, .data, .data, .sentinel, .sentinel, .pinned], laidTests := true, laidLooks := .later }
def RecordTextUptoCardSaid : Prop := Claim7.holds Tryz.pinned (.plain (OpenSpec.upto recordTextSpec)) recordTextUptoCard

/-- THE SECOND FORM's CARD OF 'bookplatelaw12.RecordLines'. -/
def recordLinesUptoCard : Claim7 := { stood := { row := recordLinesUptoRow, standIns := [], harness := (true, "d43a6c8994df462c311e2f9e5198f37be45320e824a7cd0403fa17790842f781"), looks := true }, kinds := [], alts := [], laidByText := true, laidKinds := [.data, .data, .data, .data, .sentinel, .sentinel, .pinned], laidTests := true, laidLooks := .later }
def RecordLinesUptoCardSaid : Prop := Claim7.holds Tryz.pinned (.plain (OpenSpec.upto recordLinesSpec)) recordLinesUptoCard

/-- THE SECOND FORM's CARD OF 'bookplatelaw12.RecordRead'. -/
def recordReadUptoCard : Claim7 := { stood := { row := recordReadUptoRow, standIns := [], harness := (true, "d43a6c8994df462c311e2f9e5198f37be45320e824a7cd0403fa17790842f781"), looks := true }, kinds := [], alts := [], laidByText := true, laidKinds := [.data, .data, .data, .data, .sentinel, .sentinel, .pinned], laidTests := true, laidLooks := .later }
def RecordReadUptoCardSaid : Prop := Claim7.holds Tryz.pinned (.plain (OpenSpec.upto recordReadSpec)) recordReadUptoCard

/-- THE SECOND FORM's CARD OF 'bookplatelaw12.RecordCompare'. -/
def recordCompareUptoCard : Claim7 := { stood := { row := recordCompareUptoRow, standIns := [], harness := (true, "d43a6c8994df462c311e2f9e5198f37be45320e824a7cd0403fa17790842f781"), looks := true }, kinds := [], alts := [], laidByText := true, laidKinds := [.data, .data, .data, .data, .sentinel, .sentinel, .pinned], laidTests := true, laidLooks := .later }
def RecordCompareUptoCardSaid : Prop := Claim7.holds Tryz.pinned (.plain (OpenSpec.upto recordCompareSpec)) recordCompareUptoCard

/-- THE SECOND FORM's CARD OF 'bookplatelaw12.RecordCode'. -/
def recordCodeUptoCard : Claim7 := { stood := { row := recordCodeUptoRow, standIns := [], harness := (true, "d43a6c8994df462c311e2f9e5198f37be45320e824a7cd0403fa17790842f781"), looks := true }, kinds := [], alts := [], laidByText := true, laidKinds := [.data, .data, .data, .data, .sentinel, .sentinel, .pinned], laidTests := true, laidLooks := .later }
def RecordCodeUptoCardSaid : Prop := Claim7.holds Tryz.pinned (.plain (OpenSpec.upto recordCodeSpec)) recordCodeUptoCard

/-- THE SECOND FORM's CARD OF 'bookplatelaw12.RecordValid'. -/
def recordValidUptoCard : Claim7 := { stood := { row := recordValidUptoRow, standIns := [], harness := (true, "d43a6c8994df462c311e2f9e5198f37be45320e824a7cd0403fa17790842f781"), looks := true }, kinds := [], alts := [], laidByText := true, laidKinds := [.data, .data, .data, .data, .sentinel, .sentinel, .pinned], laidTests := true, laidLooks := .later }
def RecordValidUptoCardSaid : Prop := Claim7.holds Tryz.pinned (.plain (OpenSpec.upto recordValidSpec)) recordValidUptoCard

/-- THE SECOND FORM's CARD OF 'bookplatelaw12.RecordSets'. -/
def recordSetsUptoCard : Claim7 := { stood := { row := recordSetsUptoRow, standIns := [], harness := (true, "d43a6c8994df462c311e2f9e5198f37be45320e824a7cd0403fa17790842f781"), looks := true }, kinds := [], alts := [], laidByText := true, laidKinds := [.data, .data, .data, .data, .sentinel, .sentinel, .pinned], laidTests := true, laidLooks := .later }
def RecordSetsUptoCardSaid : Prop := Claim7.holds Tryz.pinned (.plain (OpenSpec.upto recordSetsSpec)) recordSetsUptoCard

/-- THE SECOND FORM's CARD OF 'bookplatelaw12.RecordCanonical'. -/
def recordCanonicalUptoCard : Claim7 := { stood := { row := recordCanonicalUptoRow, standIns := [], harness := (true, "d43a6c8994df462c311e2f9e5198f37be45320e824a7cd0403fa17790842f781"), looks := true }, kinds := [], alts := [], laidByText := true, laidKinds := [.data, .data, .data, .data, .sentinel, .sentinel, .pinned], laidTests := true, laidLooks := .later }
def RecordCanonicalUptoCardSaid : Prop := Claim7.holds Tryz.pinned (.plain (OpenSpec.upto recordCanonicalSpec)) recordCanonicalUptoCard
end Rows
end Go.Proofs.YteljaomifdnkkaaGreatDoor
