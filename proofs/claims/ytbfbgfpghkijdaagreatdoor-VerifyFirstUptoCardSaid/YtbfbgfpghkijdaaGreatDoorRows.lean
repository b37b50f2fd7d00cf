/-
  NARROWER THAN 'FOR EVERY INPUT', by the rows' own cells (each row's printed sentence says how): SyntaxFresh: laid · SyntaxAlone: laid · VerifyFirst: laid · VerifyCounts: laid.
  DERIVED. THE GIVEN ROWS OF THIS SEAT. 4 by the template 'for every input the law returns true; each argument reads behind the call as it read before'; 0 by the template 'total and deterministic' (their statements: YtbfbgfpghkijdaaGreatDoorTotals.lean).
  GIVEN WITH THE SEED: the statements are not yours to turn. If you find one false, say at which input.
  Laid BY PROGRAM, IN A SANDBOX (cutbox-rows.mjs): the forced cells as the released guide's own fill.sh prints them over the translation 4a0a2d9d96904181… (all of the seat's roots in one cut). By AI agents, Wed Nov 11 2026. No macro, syntax, notation, axiom, sorry.
-/
import Derived.Test.YtbfbgfpghkijdaaGreatDoorChecked
import GoSem.PinnedTables
import GoSem.Claim
import GoSem.ClaimJoined
import GoSem.ClaimMapViews
import Derived.JoinedTies
import Derived.KernelRfl
namespace Go.Proofs.YtbfbgfpghkijdaaGreatDoor
/- THE CELL 'sum', in the pinned program and in every row, IS THE sha256 OF THE DUMP (.gsa) THAT YtbfbgfpghkijdaaGreatDoorProg.lean LOADS. Nothing in Lean hashes anything: it is a label: what it is worth is what the hold of that sum in a sandbox is worth. -/
noncomputable def Tryz.pinned : Pinned := { name := "ytbfbgfpghkijdaagreatdoor", sum := "4a0a2d9d96904181bc5448765024e21cfc9d4cd32aa274b90ed2c0c7898f96f7", checked := Tryz.checked }
namespace Rows
def none {H : Type} : Left H := { results := [], args := [] }

/- WHAT THE LISTED PACKAGE-LEVEL VARIABLES READ AS WHEN THE CALL BEGINS. Each datum BY PROGRAM (the guide's laid-datum.mjs) off the statement by which the dump's own 'gosem.cut.vars' lays the variable. In a bare row this is a premise. The card (YtbfbgfpghkijdaaGreatDoorCards.lean) ties it to the program's text. -/
def laid_lemma_scan_blanks {H : Type} : DataW H := .agg [.lit (.bool false), .lit (.bool false), .lit (.bool false), .lit (.bool false), .lit (.bool false), .lit (.bool false), .lit (.bool false), .lit (.bool false), .lit (.bool false), .lit (.bool true), .lit (.bool true), .lit (.bool false), .lit (.bool true), .lit (.bool true), .lit (.bool false), .lit (.bool false), .lit (.bool false), .lit (.bool false), .lit (.bool false), .lit (.bool false), .lit (.bool false), .lit (.bool false), .lit (.bool false), .lit (.bool false), .lit (.bool false), .lit (.bool false), .lit (.bool false), .lit (.bool false), .lit (.bool false), .lit (.bool false), .lit (.bool false), .lit (.bool false), .lit (.bool true)]
def laid_unicode_utf8_acceptRanges {H : Type} : DataW H := .agg [.agg [.lit (.int .u8 128), .lit (.int .u8 191)], .agg [.lit (.int .u8 160), .lit (.int .u8 191)], .agg [.lit (.int .u8 128), .lit (.int .u8 159)], .agg [.lit (.int .u8 144), .lit (.int .u8 191)], .agg [.lit (.int .u8 128), .lit (.int .u8 143)], .agg [.lit (.int .u8 0), .lit (.int .u8 0)], .agg [.lit (.int .u8 0), .lit (.int .u8 0)], .agg [.lit (.int .u8 0), .lit (.int .u8 0)], .agg [.lit (.int .u8 0), .lit (.int .u8 0)], .agg [.lit (.int .u8 0), .lit (.int .u8 0)], .agg [.lit (.int .u8 0), .lit (.int .u8 0)], .agg [.lit (.int .u8 0), .lit (.int .u8 0)], .agg [.lit (.int .u8 0), .lit (.int .u8 0)], .agg [.lit (.int .u8 0), .lit (.int .u8 0)], .agg [.lit (.int .u8 0), .lit (.int .u8 0)], .agg [.lit (.int .u8 0), .lit (.int .u8 0)]]
/-- One of Go's own tables, pinned by name: the form's constant. -/
def laid_unicode_utf8_first : DataW Unit := Go.Pinned.utf8First

/-- 'lemmalaw21.SyntaxFresh': WHATEVER THE INPUT: true; the input reads as it did. -/
def syntaxFreshSpec : ChangeSpec := { name := "syntaxFresh", fn := fun _ => fun
  | [d1, d2] => { results := [.lit (.bool true)], args := [d1, d2] }
  | _ => none }
def syntaxFreshRow : OpenClaim := { program := "ytbfbgfpghkijdaagreatdoor", sum := "4a0a2d9d96904181bc5448765024e21cfc9d4cd32aa274b90ed2c0c7898f96f7", func := "lemma/lemmalaw21.SyntaxFresh", spec := "syntaxFresh", inPlace := ["internal/bytealg.IndexByteString", "internal/bytealg.IndexString", "internal/bytealg.CountString", "slices.overlaps[int]"], unfollowed := true, recurses := true, named := ["lemma/scan.blanks", "internal/bytealg.MaxLen"], plainKeys := false, apart := false, laid := [("lemma/scan.blanks", laid_lemma_scan_blanks)] }
def SyntaxFreshSaid : Prop := syntaxFreshRow.holds Tryz.pinned (OpenSpec.ofChange syntaxFreshSpec)

/-- ITS FALSE NEIGHBOUR: 'it returns false'. Refute it at one input. -/
def syntaxFreshWrong : ChangeSpec := { name := "syntaxFresh", fn := fun _ => fun
  | [d1, d2] => { results := [.lit (.bool false)], args := [d1, d2] }
  | _ => none }
def SyntaxFreshWrongFalsely : Prop := syntaxFreshRow.holds Tryz.pinned (OpenSpec.ofChange syntaxFreshWrong)

/-- 'lemmalaw21.SyntaxAlone': WHATEVER THE INPUT: true; the input reads as it did. -/
def syntaxAloneSpec : ChangeSpec := { name := "syntaxAlone", fn := fun _ => fun
  | [d1, d2] => { results := [.lit (.bool true)], args := [d1, d2] }
  | _ => none }
def syntaxAloneRow : OpenClaim := { program := "ytbfbgfpghkijdaagreatdoor", sum := "4a0a2d9d96904181bc5448765024e21cfc9d4cd32aa274b90ed2c0c7898f96f7", func := "lemma/lemmalaw21.SyntaxAlone", spec := "syntaxAlone", inPlace := ["internal/bytealg.IndexByteString", "internal/bytealg.IndexString", "internal/bytealg.CountString", "slices.overlaps[int]"], unfollowed := true, recurses := true, named := ["lemma/scan.blanks", "internal/bytealg.MaxLen"], plainKeys := false, apart := false, laid := [("lemma/scan.blanks", laid_lemma_scan_blanks)] }
def SyntaxAloneSaid : Prop := syntaxAloneRow.holds Tryz.pinned (OpenSpec.ofChange syntaxAloneSpec)

/-- ITS FALSE NEIGHBOUR: 'it returns false'. Refute it at one input. -/
def syntaxAloneWrong : ChangeSpec := { name := "syntaxAlone", fn := fun _ => fun
  | [d1, d2] => { results := [.lit (.bool false)], args := [d1, d2] }
  | _ => none }
def SyntaxAloneWrongFalsely : Prop := syntaxAloneRow.holds Tryz.pinned (OpenSpec.ofChange syntaxAloneWrong)

/-- 'lemmalaw14.VerifyFirst': WHATEVER THE INPUT: true; the input reads as it did. -/
def verifyFirstSpec : ChangeSpec := { name := "verifyFirst", fn := fun _ => fun
  | [d1, d2, d3] => { results := [.lit (.bool true)], args := [d1, d2, d3] }
  | _ => none }
def verifyFirstRow : OpenClaim := { program := "ytbfbgfpghkijdaagreatdoor", sum := "4a0a2d9d96904181bc5448765024e21cfc9d4cd32aa274b90ed2c0c7898f96f7", func := "lemma/lemmalaw14.VerifyFirst", spec := "verifyFirst", inPlace := ["internal/bytealg.IndexByteString", "internal/bytealg.IndexString", "internal/bytealg.CountString", "slices.overlaps[int]"], unfollowed := true, recurses := true, named := ["lemma/scan.blanks", "internal/bytealg.MaxLen", "unicode/utf8.first", "unicode/utf8.acceptRanges"], plainKeys := false, apart := false, laid := [("unicode/utf8.acceptRanges", laid_unicode_utf8_acceptRanges), ("lemma/scan.blanks", laid_lemma_scan_blanks), ("unicode/utf8.first", laid_unicode_utf8_first)] }
def VerifyFirstSaid : Prop := verifyFirstRow.holds Tryz.pinned (OpenSpec.ofChange verifyFirstSpec)

/-- ITS FALSE NEIGHBOUR: 'it returns false'. Refute it at one input. -/
def verifyFirstWrong : ChangeSpec := { name := "verifyFirst", fn := fun _ => fun
  | [d1, d2, d3] => { results := [.lit (.bool false)], args := [d1, d2, d3] }
  | _ => none }
def VerifyFirstWrongFalsely : Prop := verifyFirstRow.holds Tryz.pinned (OpenSpec.ofChange verifyFirstWrong)

/-- 'lemmalaw14.VerifyCounts': WHATEVER THE INPUT: true; the input reads as it did. -/
def verifyCountsSpec : ChangeSpec := { name := "verifyCounts", fn := fun _ => fun
  | [d] => { results := [.lit (.bool true)], args := [d] }
  | _ => none }
def verifyCountsRow : OpenClaim := { program := "ytbfbgfpghkijdaagreatdoor", sum := "4a0a2d9d96904181bc5448765024e21cfc9d4cd32aa274b90ed2c0c7898f96f7", func := "lemma/lemmalaw14.VerifyCounts", spec := "verifyCounts", inPlace := ["internal/bytealg.IndexByteString", "internal/bytealg.IndexString", "internal/bytealg.CountString", "slices.overlaps[int]"], unfollowed := true, recurses := true, named := ["lemma/scan.blanks", "internal/bytealg.MaxLen", "unicode/utf8.first", "unicode/utf8.acceptRanges"], plainKeys := false, apart := false, laid := [("unicode/utf8.acceptRanges", laid_unicode_utf8_acceptRanges), ("lemma/scan.blanks", laid_lemma_scan_blanks), ("unicode/utf8.first", laid_unicode_utf8_first)] }
def VerifyCountsSaid : Prop := verifyCountsRow.holds Tryz.pinned (OpenSpec.ofChange verifyCountsSpec)

/-- ITS FALSE NEIGHBOUR: 'it returns false'. Refute it at one input. -/
def verifyCountsWrong : ChangeSpec := { name := "verifyCounts", fn := fun _ => fun
  | [d] => { results := [.lit (.bool false)], args := [d] }
  | _ => none }
def VerifyCountsWrongFalsely : Prop := verifyCountsRow.holds Tryz.pinned (OpenSpec.ofChange verifyCountsWrong)

/- THE SECOND FORM. 'bulk': how many values and letters a reading holds, each counted each time it is reached (what is shared counts as often as it is met; a slice's spare places count too). A statement '..UptoSaid' is the law's where the arguments, and the package variables that the reading takes, are together of bulk at most 1048576: NARROWER than '..Said'. Prove '..Said' where nothing that the law and all that it calls make is longer than what came in: it says more and counts as full. Else prove '..UptoSaid'. A law counts once. -/
mutual
def uptoBulk {H : Type} : DataW H → Nat
  | .lit (.string bytes) => bytes.length + 1
  | .lit _ => 1
  | .nil => 1
  | .ptr d => uptoBulk d + 1
  | .slice elems spare => uptoBulkAll elems + uptoBulkAll spare + 1
  | .agg parts => uptoBulkAll parts + 1
  | .iface _ d => uptoBulk d + 1
  | .map entries => uptoBulkEntries entries + 1
  | .held _ => 1
def uptoBulkAll {H : Type} : List (DataW H) → Nat
  | [] => 0
  | d :: r => uptoBulk d + uptoBulkAll r
def uptoBulkEntries {H : Type} : List (Lit × DataW H) → Nat
  | [] => 0
  | x :: r => uptoBulkEntry x + uptoBulkEntries r
def uptoBulkEntry {H : Type} : Lit × DataW H → Nat
  | (.string bytes, d) => bytes.length + uptoBulk d + 1
  | (_, d) => uptoBulk d + 1
 end
def uptoSmall : (H : Type) → List (DataW H) → Bool := fun _ ds => decide (uptoBulkAll ds ≤ 1048576)
def OpenSpec.upto (s : _root_.Go.ChangeSpec) : _root_.Go.OpenSpec := { _root_.Go.OpenSpec.ofChange s with cond := some uptoSmall }

/-- 'lemmalaw21.SyntaxFresh', WHERE WHAT IT READS IS OF BULK AT MOST 1048576: true; the input reads as it did. -/
def syntaxFreshUptoRow : OpenClaim := { program := "ytbfbgfpghkijdaagreatdoor", sum := "4a0a2d9d96904181bc5448765024e21cfc9d4cd32aa274b90ed2c0c7898f96f7", func := "lemma/lemmalaw21.SyntaxFresh", spec := "syntaxFresh", inPlace := ["internal/bytealg.IndexByteString", "internal/bytealg.IndexString", "internal/bytealg.CountString", "slices.overlaps[int]"], unfollowed := true, recurses := true, named := ["lemma/scan.blanks", "internal/bytealg.MaxLen"], plainKeys := false, apart := false, laid := [("lemma/scan.blanks", laid_lemma_scan_blanks)], narrowed := true }
def SyntaxFreshUptoSaid : Prop := syntaxFreshUptoRow.holds Tryz.pinned (OpenSpec.upto syntaxFreshSpec)

/-- 'lemmalaw21.SyntaxAlone', WHERE WHAT IT READS IS OF BULK AT MOST 1048576: true; the input reads as it did. -/
def syntaxAloneUptoRow : OpenClaim := { program := "ytbfbgfpghkijdaagreatdoor", sum := "4a0a2d9d96904181bc5448765024e21cfc9d4cd32aa274b90ed2c0c7898f96f7", func := "lemma/lemmalaw21.SyntaxAlone", spec := "syntaxAlone", inPlace := ["internal/bytealg.IndexByteString", "internal/bytealg.IndexString", "internal/bytealg.CountString", "slices.overlaps[int]"], unfollowed := true, recurses := true, named := ["lemma/scan.blanks", "internal/bytealg.MaxLen"], plainKeys := false, apart := false, laid := [("lemma/scan.blanks", laid_lemma_scan_blanks)], narrowed := true }
def SyntaxAloneUptoSaid : Prop := syntaxAloneUptoRow.holds Tryz.pinned (OpenSpec.upto syntaxAloneSpec)

/-- 'lemmalaw14.VerifyFirst', WHERE WHAT IT READS IS OF BULK AT MOST 1048576: true; the input reads as it did. -/
def verifyFirstUptoRow : OpenClaim := { program := "ytbfbgfpghkijdaagreatdoor", sum := "4a0a2d9d96904181bc5448765024e21cfc9d4cd32aa274b90ed2c0c7898f96f7", func := "lemma/lemmalaw14.VerifyFirst", spec := "verifyFirst", inPlace := ["internal/bytealg.IndexByteString", "internal/bytealg.IndexString", "internal/bytealg.CountString", "slices.overlaps[int]"], unfollowed := true, recurses := true, named := ["lemma/scan.blanks", "internal/bytealg.MaxLen", "unicode/utf8.first", "unicode/utf8.acceptRanges"], plainKeys := false, apart := false, laid := [("unicode/utf8.acceptRanges", laid_unicode_utf8_acceptRanges), ("lemma/scan.blanks", laid_lemma_scan_blanks), ("unicode/utf8.first", laid_unicode_utf8_first)], narrowed := true }
def VerifyFirstUptoSaid : Prop := verifyFirstUptoRow.holds Tryz.pinned (OpenSpec.upto verifyFirstSpec)

/-- 'lemmalaw14.VerifyCounts', WHERE WHAT IT READS IS OF BULK AT MOST 1048576: true; the input reads as it did. -/
def verifyCountsUptoRow : OpenClaim := { program := "ytbfbgfpghkijdaagreatdoor", sum := "4a0a2d9d96904181bc5448765024e21cfc9d4cd32aa274b90ed2c0c7898f96f7", func := "lemma/lemmalaw14.VerifyCounts", spec := "verifyCounts", inPlace := ["internal/bytealg.IndexByteString", "internal/bytealg.IndexString", "internal/bytealg.CountString", "slices.overlaps[int]"], unfollowed := true, recurses := true, named := ["lemma/scan.blanks", "internal/bytealg.MaxLen", "unicode/utf8.first", "unicode/utf8.acceptRanges"], plainKeys := false, apart := false, laid := [("unicode/utf8.acceptRanges", laid_unicode_utf8_acceptRanges), ("lemma/scan.blanks", laid_lemma_scan_blanks), ("unicode/utf8.first", laid_unicode_utf8_first)], narrowed := true }
def VerifyCountsUptoSaid : Prop := verifyCountsUptoRow.holds Tryz.pinned (OpenSpec.upto verifyCountsSpec)

end Rows
end Go.Proofs.YtbfbgfpghkijdaaGreatDoor
