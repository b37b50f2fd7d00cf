/-
  DERIVED. GIVEN WITH THE SEED: THE CARDS: each row of YtdhkmfpfbjcdiaaGreatDoorRows.lean that lists a variable, with what it lists TIED to the program's text (the seventh form; the later family's looks); each row that meets fmt, with fmt's text TOLD by the authors' own Lean function (tested against real Go, not proved from fmt's source: count such statements apart). THE CARD IS WHAT COUNTS. Prove the row's statement (the work); the ties are given (YtdhkmfpfbjcdiaaGreatDoorTie.lean); close each card by the builder's one call (the guide's Derived/Test/ToyasCard.lean, 'card_holds'). Laid BY PROGRAM, IN A SANDBOX (cutbox-door.mjs). By AI agents, Wed Nov 11 2026. No macro, syntax, notation, axiom, sorry.
-/
import Derived.Test.YtdhkmfpfbjcdiaaGreatDoorRows
import GoSem.ClaimSeven
namespace Go.Proofs.YtdhkmfpfbjcdiaaGreatDoor
namespace Rows

/-- THE TIED CARD OF 'lemmalaw18.PruneAsks'. -/
def pruneAsksCard : Claim7 := { stood := { row := pruneAsksRow, standIns := [], harness := (true, "29a666b2635a076b2daab0c20b12d2ae1926eb8587cb7a5ec752b4c264fb9d20"), looks := true }, kinds := [], alts := [], laidByText := true, laidKinds := [.data, .data, .pinned], laidTests := true, laidLooks := .later }
def PruneAsksCardSaid : Prop := Claim7.holds Tryz.pinned (.plain (OpenSpec.ofChange pruneAsksSpec)) pruneAsksCard

/-- THE TIED CARD OF 'lemmalaw18.PruneFresh'. -/
def pruneFreshCard : Claim7 := { stood := { row := pruneFreshRow, standIns := [], harness := (true, "29a666b2635a076b2daab0c20b12d2ae1926eb8587cb7a5ec752b4c264fb9d20"), looks := true }, kinds := [], alts := [], laidByText := true, laidKinds := [.data, .data, .pinned], laidTests := true, laidLooks := .later }
def PruneFreshCardSaid : Prop := Claim7.holds Tryz.pinned (.plain (OpenSpec.ofChange pruneFreshSpec)) pruneFreshCard

/-- THE TIED CARD OF 'lemmalaw18.PruneOrder'. -/
def pruneOrderCard : Claim7 := { stood := { row := pruneOrderRow, standIns := [], harness := (true, "29a666b2635a076b2daab0c20b12d2ae1926eb8587cb7a5ec752b4c264fb9d20"), looks := true }, kinds := [], alts := [], laidByText := true, laidKinds := [.data, .data, .pinned], laidTests := true, laidLooks := .later }
def PruneOrderCardSaid : Prop := Claim7.holds Tryz.pinned (.plain (OpenSpec.ofChange pruneOrderSpec)) pruneOrderCard

/-- THE SECOND FORM's CARD OF 'lemmalaw18.PruneAsks'. -/
def pruneAsksUptoCard : Claim7 := { stood := { row := pruneAsksUptoRow, standIns := [], harness := (true, "29a666b2635a076b2daab0c20b12d2ae1926eb8587cb7a5ec752b4c264fb9d20"), looks := true }, kinds := [], alts := [], laidByText := true, laidKinds := [.data, .data, .pinned], laidTests := true, laidLooks := .later }
def PruneAsksUptoCardSaid : Prop := Claim7.holds Tryz.pinned (.plain (OpenSpec.upto pruneAsksSpec)) pruneAsksUptoCard

/-- THE SECOND FORM's CARD OF 'lemmalaw18.PruneFresh'. -/
def pruneFreshUptoCard : Claim7 := { stood := { row := pruneFreshUptoRow, standIns := [], harness := (true, "29a666b2635a076b2daab0c20b12d2ae1926eb8587cb7a5ec752b4c264fb9d20"), looks := true }, kinds := [], alts := [], laidByText := true, laidKinds := [.data, .data, .pinned], laidTests := true, laidLooks := .later }
def PruneFreshUptoCardSaid : Prop := Claim7.holds Tryz.pinned (.plain (OpenSpec.upto pruneFreshSpec)) pruneFreshUptoCard

/-- THE SECOND FORM's CARD OF 'lemmalaw18.PruneOrder'. -/
def pruneOrderUptoCard : Claim7 := { stood := { row := pruneOrderUptoRow, standIns := [], harness := (true, "29a666b2635a076b2daab0c20b12d2ae1926eb8587cb7a5ec752b4c264fb9d20"), looks := true }, kinds := [], alts := [], laidByText := true, laidKinds := [.data, .data, .pinned], laidTests := true, laidLooks := .later }
def PruneOrderUptoCardSaid : Prop := Claim7.holds Tryz.pinned (.plain (OpenSpec.upto pruneOrderSpec)) pruneOrderUptoCard
end Rows
end Go.Proofs.YtdhkmfpfbjcdiaaGreatDoor
