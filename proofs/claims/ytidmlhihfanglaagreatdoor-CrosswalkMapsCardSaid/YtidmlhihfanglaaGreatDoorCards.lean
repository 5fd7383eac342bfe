/-
  DERIVED. GIVEN WITH THE SEED: THE CARDS: each row of YtidmlhihfanglaaGreatDoorRows.lean that lists a variable, with what it lists TIED to the program's text (the seventh form; the later family's looks); each row that meets fmt, with fmt's text TOLD by the authors' own Lean function (tested against real Go, not proved from fmt's source: count such statements apart). THE CARD IS WHAT COUNTS. Prove the row's statement (the work); the ties are given (YtidmlhihfanglaaGreatDoorTie.lean); close each card by the builder's one call (the guide's Derived/Test/ToyasCard.lean, 'card_holds'). Laid BY PROGRAM, IN A SANDBOX (cutbox-door.mjs). By AI agents, Wed Nov 11 2026. No macro, syntax, notation, axiom, sorry.
-/
import Derived.Test.YtidmlhihfanglaaGreatDoorRows
import GoSem.ClaimSeven
namespace Go.Proofs.YtidmlhihfanglaaGreatDoor
namespace Rows

/-- THE TIED CARD OF 'bookplatelaw16.CrosswalkBack'. -/
def crosswalkBackCard : Claim7 := { stood := { row := crosswalkBackRow, standIns := [], harness := (true, "b51539c91879ec4d38396b6d5a412dac17c0dbd311ff94de4a9d5724e940a2a1"), looks := false }, kinds := [], alts := [], laidByText := true, laidKinds := [.data, .pinned], laidTests := true, laidLooks := .later }
def CrosswalkBackCardSaid : Prop := Claim7.holds Tryz.pinned (.plain (OpenSpec.ofChange crosswalkBackSpec)) crosswalkBackCard

/-- THE TIED CARD OF 'bookplatelaw16.CrosswalkText'. -/
def crosswalkTextCard : Claim7 := { stood := { row := crosswalkTextRow, standIns := [], harness := (true, "b51539c91879ec4d38396b6d5a412dac17c0dbd311ff94de4a9d5724e940a2a1"), looks := false }, kinds := [], alts := [], laidByText := true, laidKinds := [.data, .pinned], laidTests := true, laidLooks := .later }
def CrosswalkTextCardSaid : Prop := Claim7.holds Tryz.pinned (.plain (OpenSpec.ofChange crosswalkTextSpec)) crosswalkTextCard

/-- THE TIED CARD OF 'bookplatelaw16.CrosswalkCompose'. -/
def crosswalkComposeCard : Claim7 := { stood := { row := crosswalkComposeRow, standIns := [], harness := (true, "b51539c91879ec4d38396b6d5a412dac17c0dbd311ff94de4a9d5724e940a2a1"), looks := false }, kinds := [], alts := [], laidByText := true, laidKinds := [.data, .pinned], laidTests := true, laidLooks := .later }
def CrosswalkComposeCardSaid : Prop := Claim7.holds Tryz.pinned (.plain (OpenSpec.ofChange crosswalkComposeSpec)) crosswalkComposeCard

/-- THE TIED CARD OF 'bookplatelaw16.CrosswalkConvert'. -/
def crosswalkConvertCard : Claim7 := { stood := { row := crosswalkConvertRow, standIns := [], harness := (true, "b51539c91879ec4d38396b6d5a412dac17c0dbd311ff94de4a9d5724e940a2a1"), looks := false }, kinds := [], alts := [], laidByText := true, laidKinds := [.data, .pinned], laidTests := true, laidLooks := .later }
def CrosswalkConvertCardSaid : Prop := Claim7.holds Tryz.pinned (.plain (OpenSpec.ofChange crosswalkConvertSpec)) crosswalkConvertCard

/-- THE TIED CARD OF 'bookplatelaw16.CrosswalkLoss'. -/
def crosswalkLossCard : Claim7 := { stood := { row := crosswalkLossRow, standIns := [], harness := (true, "b51539c91879ec4d38396b6d5a412dac17c0dbd311ff94de4a9d5724e940a2a1"), looks := false }, kinds := [], alts := [], laidByText := true, laidKinds := [.data, .pinned], laidTests := true, laidLooks := .later }
def CrosswalkLossCardSaid : Prop := Claim7.holds Tryz.pinned (.plain (OpenSpec.ofChange crosswalkLossSpec)) crosswalkLossCard

/-- THE TIED CARD OF 'bookplatelaw16.CrosswalkInverse'. -/
def crosswalkInverseCard : Claim7 := { stood := { row := crosswalkInverseRow, standIns := [], harness := (true, "b51539c91879ec4d38396b6d5a412dac17c0dbd311ff94de4a9d5724e940a2a1"), looks := false }, kinds := [], alts := [], laidByText := true, laidKinds := [.data, .pinned], laidTests := true, laidLooks := .later }
def CrosswalkInverseCardSaid : Prop := Claim7.holds Tryz.pinned (.plain (OpenSpec.ofChange crosswalkInverseSpec)) crosswalkInverseCard

/-- THE TIED CARD OF 'bookplatelaw16.CrosswalkMaps'. -/
def crosswalkMapsCard : Claim7 := { stood := { row := crosswalkMapsRow, standIns := [], harness := (true, "b51539c91879ec4d38396b6d5a412dac17c0dbd311ff94de4a9d5724e940a2a1"), looks := false }, kinds := [], alts := [], laidByText := true, laidKinds := [.data, .pinned], laidTests := true, laidLooks := .later }
def CrosswalkMapsCardSaid : Prop := Claim7.holds Tryz.pinned (.plain (OpenSpec.ofChange crosswalkMapsSpec)) crosswalkMapsCard

/-- THE SECOND FORM's CARD OF 'bookplatelaw16.CrosswalkBack'. -/
def crosswalkBackUptoCard : Claim7 := { stood := { row := crosswalkBackUptoRow, standIns := [], harness := (true, "b51539c91879ec4d38396b6d5a412dac17c0dbd311ff94de4a9d5724e940a2a1"), looks := false }, kinds := [], alts := [], laidByText := true, laidKinds := [.data, .pinned], laidTests := true, laidLooks := .later }
def CrosswalkBackUptoCardSaid : Prop := Claim7.holds Tryz.pinned (.plain (OpenSpec.upto crosswalkBackSpec)) crosswalkBackUptoCard

/-- THE SECOND FORM's CARD OF 'bookplatelaw16.CrosswalkText'. -/
def crosswalkTextUptoCard : Claim7 := { stood := { row := crosswalkTextUptoRow, standIns := [], harness := (true, "b51539c91879ec4d38396b6d5a412dac17c0dbd311ff94de4a9d5724e940a2a1"), looks := false }, kinds := [], alts := [], laidByText := true, laidKinds := [.data, .pinned], laidTests := true, laidLooks := .later }
def CrosswalkTextUptoCardSaid : Prop := Claim7.holds Tryz.pinned (.plain (OpenSpec.upto crosswalkTextSpec)) crosswalkTextUptoCard

/-- THE SECOND FORM's CARD OF 'bookplatelaw16.CrosswalkCompose'. -/
def crosswalkComposeUptoCard : Claim7 := { stood := { row := crosswalkComposeUptoRow, standIns := [], harness := (true, "b51539c91879ec4d38396b6d5a412dac17c0dbd311ff94de4a9d5724e940a2a1"), looks := false }, kinds := [], alts := [], laidByText := true, laidKinds := [.data, .pinned], laidTests := true, laidLooks := .later }
def CrosswalkComposeUptoCardSaid : Prop := Claim7.holds Tryz.pinned (.plain (OpenSpec.upto crosswalkComposeSpec)) crosswalkComposeUptoCard

/-- THE SECOND FORM's CARD OF 'bookplatelaw16.CrosswalkConvert'. -/
def crosswalkConvertUptoCard : Claim7 := { stood := { row := crosswalkConvertUptoRow, standIns := [], harness := (true, "b51539c91879ec4d38396b6d5a412dac17c0dbd311ff94de4a9d5724e940a2a1"), looks := false }, kinds := [], alts := [], laidByText := true, laidKinds := [.data, .pinned], laidTests := true, laidLooks := .later }
def CrosswalkConvertUptoCardSaid : Prop := Claim7.holds Tryz.pinned (.plain (OpenSpec.upto crosswalkConvertSpec)) crosswalkConvertUptoCard

/-- THE SECOND FORM's CARD OF 'bookplatelaw16.CrosswalkLoss'. -/
def crosswalkLossUptoCard : Claim7 := { stood := { row := crosswalkLossUptoRow, standIns := [], harness := (true, "b51539c91879ec4d38396b6d5a412dac17c0dbd311ff94de4a9d5724e940a2a1"), looks := false }, kinds := [], alts := [], laidByText := true, laidKinds := [.data, .pinned], laidTests := true, laidLooks := .later }
def CrosswalkLossUptoCardSaid : Prop := Claim7.holds Tryz.pinned (.plain (OpenSpec.upto crosswalkLossSpec)) crosswalkLossUptoCard

/-- THE SECOND FORM's CARD OF 'bookplatelaw16.CrosswalkInverse'. -/
def crosswalkInverseUptoCard : Claim7 := { stood := { row := crosswalkInverseUptoRow, standIns := [], harness := (true, "b51539c91879ec4d38396b6d5a412dac17c0dbd311ff94de4a9d5724e940a2a1"), looks := false }, kinds := [], alts := [], laidByText := true, laidKinds := [.data, .pinned], laidTests := true, laidLooks := .later }
def CrosswalkInverseUptoCardSaid : Prop := Claim7.holds Tryz.pinned (.plain (OpenSpec.upto crosswalkInverseSpec)) crosswalkInverseUptoCard

/-- THE SECOND FORM's CARD OF 'bookplatelaw16.CrosswalkMaps'. -/
def crosswalkMapsUptoCard : Claim7 := { stood := { row := crosswalkMapsUptoRow, standIns := [], harness := (true, "b51539c91879ec4d38396b6d5a412dac17c0dbd311ff94de4a9d5724e940a2a1"), looks := false }, kinds := [], alts := [], laidByText := true, laidKinds := [.data, .pinned], laidTests := true, laidLooks := .later }
def CrosswalkMapsUptoCardSaid : Prop := Claim7.holds Tryz.pinned (.plain (OpenSpec.upto crosswalkMapsSpec)) crosswalkMapsUptoCard
end Rows
end Go.Proofs.YtidmlhihfanglaaGreatDoor
