/-
  DERIVED. GIVEN WITH THE SEED: THE CARDS: each row of YtbfbgfpghkijdaaGreatDoorRows.lean that lists a variable, with what it lists TIED to the program's text (the seventh form; the later family's looks); each row that meets fmt, with fmt's text TOLD by the authors' own Lean function (tested against real Go, not proved from fmt's source: count such statements apart). THE CARD IS WHAT COUNTS. Prove the row's statement (the work); the ties are given (YtbfbgfpghkijdaaGreatDoorTie.lean); close each card by the builder's one call (the guide's Derived/Test/ToyasCard.lean, 'card_holds'). Laid BY PROGRAM, IN A SANDBOX (cutbox-door.mjs). By AI agents, Wed Nov 11 2026. No macro, syntax, notation, axiom, sorry.
-/
import Derived.Test.YtbfbgfpghkijdaaGreatDoorRows
import GoSem.ClaimSeven
namespace Go.Proofs.YtbfbgfpghkijdaaGreatDoor
namespace Rows

/-- THE TIED CARD OF 'lemmalaw21.SyntaxFresh'. -/
def syntaxFreshCard : Claim7 := { stood := { row := syntaxFreshRow, standIns := [], harness := (true, "f18b84d5fef323805245d82e57124240885c8a9f23fc4bc4baee3c654ec92192"), looks := true }, kinds := [], alts := [], laidByText := true, laidKinds := [.data], laidTests := true, laidLooks := .later }
def SyntaxFreshCardSaid : Prop := Claim7.holds Tryz.pinned (.plain (OpenSpec.ofChange syntaxFreshSpec)) syntaxFreshCard

/-- THE TIED CARD OF 'lemmalaw21.SyntaxAlone'. -/
def syntaxAloneCard : Claim7 := { stood := { row := syntaxAloneRow, standIns := [], harness := (true, "f18b84d5fef323805245d82e57124240885c8a9f23fc4bc4baee3c654ec92192"), looks := true }, kinds := [], alts := [], laidByText := true, laidKinds := [.data], laidTests := true, laidLooks := .later }
def SyntaxAloneCardSaid : Prop := Claim7.holds Tryz.pinned (.plain (OpenSpec.ofChange syntaxAloneSpec)) syntaxAloneCard

/-- THE TIED CARD OF 'lemmalaw14.VerifyFirst'. -/
def verifyFirstCard : Claim7 := { stood := { row := verifyFirstRow, standIns := [], harness := (true, "f18b84d5fef323805245d82e57124240885c8a9f23fc4bc4baee3c654ec92192"), looks := true }, kinds := [], alts := [], laidByText := true, laidKinds := [.data, .data, .pinned], laidTests := true, laidLooks := .later }
def VerifyFirstCardSaid : Prop := Claim7.holds Tryz.pinned (.plain (OpenSpec.ofChange verifyFirstSpec)) verifyFirstCard

/-- THE TIED CARD OF 'lemmalaw14.VerifyCounts'. -/
def verifyCountsCard : Claim7 := { stood := { row := verifyCountsRow, standIns := [], harness := (true, "f18b84d5fef323805245d82e57124240885c8a9f23fc4bc4baee3c654ec92192"), looks := true }, kinds := [], alts := [], laidByText := true, laidKinds := [.data, .data, .pinned], laidTests := true, laidLooks := .later }
def VerifyCountsCardSaid : Prop := Claim7.holds Tryz.pinned (.plain (OpenSpec.ofChange verifyCountsSpec)) verifyCountsCard

/-- THE SECOND FORM's CARD OF 'lemmalaw21.SyntaxFresh'. -/
def syntaxFreshUptoCard : Claim7 := { stood := { row := syntaxFreshUptoRow, standIns := [], harness := (true, "f18b84d5fef323805245d82e57124240885c8a9f23fc4bc4baee3c654ec92192"), looks := true }, kinds := [], alts := [], laidByText := true, laidKinds := [.data], laidTests := true, laidLooks := .later }
def SyntaxFreshUptoCardSaid : Prop := Claim7.holds Tryz.pinned (.plain (OpenSpec.upto syntaxFreshSpec)) syntaxFreshUptoCard

/-- THE SECOND FORM's CARD OF 'lemmalaw21.SyntaxAlone'. -/
def syntaxAloneUptoCard : Claim7 := { stood := { row := syntaxAloneUptoRow, standIns := [], harness := (true, "f18b84d5fef323805245d82e57124240885c8a9f23fc4bc4baee3c654ec92192"), looks := true }, kinds := [], alts := [], laidByText := true, laidKinds := [.data], laidTests := true, laidLooks := .later }
def SyntaxAloneUptoCardSaid : Prop := Claim7.holds Tryz.pinned (.plain (OpenSpec.upto syntaxAloneSpec)) syntaxAloneUptoCard

/-- THE SECOND FORM's CARD OF 'lemmalaw14.VerifyFirst'. -/
def verifyFirstUptoCard : Claim7 := { stood := { row := verifyFirstUptoRow, standIns := [], harness := (true, "f18b84d5fef323805245d82e57124240885c8a9f23fc4bc4baee3c654ec92192"), looks := true }, kinds := [], alts := [], laidByText := true, laidKinds := [.data, .data, .pinned], laidTests := true, laidLooks := .later }
def VerifyFirstUptoCardSaid : Prop := Claim7.holds Tryz.pinned (.plain (OpenSpec.upto verifyFirstSpec)) verifyFirstUptoCard

/-- THE SECOND FORM's CARD OF 'lemmalaw14.VerifyCounts'. -/
def verifyCountsUptoCard : Claim7 := { stood := { row := verifyCountsUptoRow, standIns := [], harness := (true, "f18b84d5fef323805245d82e57124240885c8a9f23fc4bc4baee3c654ec92192"), looks := true }, kinds := [], alts := [], laidByText := true, laidKinds := [.data, .data, .pinned], laidTests := true, laidLooks := .later }
def VerifyCountsUptoCardSaid : Prop := Claim7.holds Tryz.pinned (.plain (OpenSpec.upto verifyCountsSpec)) verifyCountsUptoCard
end Rows
end Go.Proofs.YtbfbgfpghkijdaaGreatDoor
