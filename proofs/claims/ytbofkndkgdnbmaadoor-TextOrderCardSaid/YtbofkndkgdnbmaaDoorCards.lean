/-
  DERIVED. GIVEN WITH THE SEED: THE CARDS: each row of YtbofkndkgdnbmaaDoorRows.lean that lists a variable, with what it lists TIED to the program's text (the seventh form; the later family's looks); each row that meets fmt, with fmt's text TOLD by the authors' own Lean function (tested against real Go, not proved from fmt's source: count such statements apart). THE CARD IS WHAT COUNTS. Prove the row's statement (the work); the ties are given (YtbofkndkgdnbmaaDoorTie.lean); close each card by the builder's one call (the guide's Derived/Test/ToyasCard.lean, 'card_holds'). Laid BY PROGRAM, IN A SANDBOX (cutbox-door.mjs). By AI agents, Wed Nov 11 2026. No macro, syntax, notation, axiom, sorry.
-/
import Derived.Test.YtbofkndkgdnbmaaDoorRows
import GoSem.ClaimSeven
namespace Go.Proofs.YtbofkndkgdnbmaaDoor
namespace Rows

/-- THE TIED CARD OF 'newsreellaw4.TextCleans'. -/
def textCleansCard : Claim7 := { stood := { row := textCleansRow, standIns := [], harness := (true, "a485b432156cd2df733afa5e5efd7a6d0eef42d5d3316d8aa7ac425d8b293183"), looks := false }, kinds := [], alts := [], laidByText := true, laidKinds := [.data, .pinned], laidTests := true, laidLooks := .later }
def TextCleansCardSaid : Prop := Claim7.holds Tryd.pinned (.plain (OpenSpec.ofChange textCleansSpec)) textCleansCard

/-- THE TIED CARD OF 'newsreellaw4.TextTwice'. -/
def textTwiceCard : Claim7 := { stood := { row := textTwiceRow, standIns := [], harness := (true, "a485b432156cd2df733afa5e5efd7a6d0eef42d5d3316d8aa7ac425d8b293183"), looks := false }, kinds := [], alts := [], laidByText := true, laidKinds := [.data, .pinned], laidTests := true, laidLooks := .later }
def TextTwiceCardSaid : Prop := Claim7.holds Tryd.pinned (.plain (OpenSpec.ofChange textTwiceSpec)) textTwiceCard

/-- THE TIED CARD OF 'newsreellaw4.TextCuts'. -/
def textCutsCard : Claim7 := { stood := { row := textCutsRow, standIns := [], harness := (true, "a485b432156cd2df733afa5e5efd7a6d0eef42d5d3316d8aa7ac425d8b293183"), looks := false }, kinds := [], alts := [], laidByText := true, laidKinds := [.data, .pinned], laidTests := true, laidLooks := .later }
def TextCutsCardSaid : Prop := Claim7.holds Tryd.pinned (.plain (OpenSpec.ofChange textCutsSpec)) textCutsCard

/-- THE TIED CARD OF 'newsreellaw4.TextFolds'. -/
def textFoldsCard : Claim7 := { stood := { row := textFoldsRow, standIns := [], harness := (true, "a485b432156cd2df733afa5e5efd7a6d0eef42d5d3316d8aa7ac425d8b293183"), looks := false }, kinds := [], alts := [], laidByText := true, laidKinds := [.data, .pinned], laidTests := true, laidLooks := .later }
def TextFoldsCardSaid : Prop := Claim7.holds Tryd.pinned (.plain (OpenSpec.ofChange textFoldsSpec)) textFoldsCard

/-- THE TIED CARD OF 'newsreellaw4.TextRunes'. -/
def textRunesCard : Claim7 := { stood := { row := textRunesRow, standIns := [], harness := (true, "a485b432156cd2df733afa5e5efd7a6d0eef42d5d3316d8aa7ac425d8b293183"), looks := false }, kinds := [], alts := [], laidByText := true, laidKinds := [.data, .pinned], laidTests := true, laidLooks := .later }
def TextRunesCardSaid : Prop := Claim7.holds Tryd.pinned (.plain (OpenSpec.ofChange textRunesSpec)) textRunesCard

/-- THE TIED CARD OF 'newsreellaw4.TextWords'. -/
def textWordsCard : Claim7 := { stood := { row := textWordsRow, standIns := [], harness := (true, "a485b432156cd2df733afa5e5efd7a6d0eef42d5d3316d8aa7ac425d8b293183"), looks := false }, kinds := [], alts := [], laidByText := true, laidKinds := [.data, .pinned], laidTests := true, laidLooks := .later }
def TextWordsCardSaid : Prop := Claim7.holds Tryd.pinned (.plain (OpenSpec.ofChange textWordsSpec)) textWordsCard

/-- THE TIED CARD OF 'newsreellaw4.TextOrder'. -/
def textOrderCard : Claim7 := { stood := { row := textOrderRow, standIns := [], harness := (true, "a485b432156cd2df733afa5e5efd7a6d0eef42d5d3316d8aa7ac425d8b293183"), looks := false }, kinds := [], alts := [], laidByText := true, laidKinds := [.data, .pinned], laidTests := true, laidLooks := .later }
def TextOrderCardSaid : Prop := Claim7.holds Tryd.pinned (.plain (OpenSpec.ofChange textOrderSpec)) textOrderCard

/-- THE SECOND FORM's CARD OF 'newsreellaw4.TextCleans'. -/
def textCleansUptoCard : Claim7 := { stood := { row := textCleansUptoRow, standIns := [], harness := (true, "a485b432156cd2df733afa5e5efd7a6d0eef42d5d3316d8aa7ac425d8b293183"), looks := false }, kinds := [], alts := [], laidByText := true, laidKinds := [.data, .pinned], laidTests := true, laidLooks := .later }
def TextCleansUptoCardSaid : Prop := Claim7.holds Tryd.pinned (.plain (OpenSpec.upto textCleansSpec)) textCleansUptoCard

/-- THE SECOND FORM's CARD OF 'newsreellaw4.TextTwice'. -/
def textTwiceUptoCard : Claim7 := { stood := { row := textTwiceUptoRow, standIns := [], harness := (true, "a485b432156cd2df733afa5e5efd7a6d0eef42d5d3316d8aa7ac425d8b293183"), looks := false }, kinds := [], alts := [], laidByText := true, laidKinds := [.data, .pinned], laidTests := true, laidLooks := .later }
def TextTwiceUptoCardSaid : Prop := Claim7.holds Tryd.pinned (.plain (OpenSpec.upto textTwiceSpec)) textTwiceUptoCard

/-- THE SECOND FORM's CARD OF 'newsreellaw4.TextCuts'. -/
def textCutsUptoCard : Claim7 := { stood := { row := textCutsUptoRow, standIns := [], harness := (true, "a485b432156cd2df733afa5e5efd7a6d0eef42d5d3316d8aa7ac425d8b293183"), looks := false }, kinds := [], alts := [], laidByText := true, laidKinds := [.data, .pinned], laidTests := true, laidLooks := .later }
def TextCutsUptoCardSaid : Prop := Claim7.holds Tryd.pinned (.plain (OpenSpec.upto textCutsSpec)) textCutsUptoCard

/-- THE SECOND FORM's CARD OF 'newsreellaw4.TextFolds'. -/
def textFoldsUptoCard : Claim7 := { stood := { row := textFoldsUptoRow, standIns := [], harness := (true, "a485b432156cd2df733afa5e5efd7a6d0eef42d5d3316d8aa7ac425d8b293183"), looks := false }, kinds := [], alts := [], laidByText := true, laidKinds := [.data, .pinned], laidTests := true, laidLooks := .later }
def TextFoldsUptoCardSaid : Prop := Claim7.holds Tryd.pinned (.plain (OpenSpec.upto textFoldsSpec)) textFoldsUptoCard

/-- THE SECOND FORM's CARD OF 'newsreellaw4.TextRunes'. -/
def textRunesUptoCard : Claim7 := { stood := { row := textRunesUptoRow, standIns := [], harness := (true, "a485b432156cd2df733afa5e5efd7a6d0eef42d5d3316d8aa7ac425d8b293183"), looks := false }, kinds := [], alts := [], laidByText := true, laidKinds := [.data, .pinned], laidTests := true, laidLooks := .later }
def TextRunesUptoCardSaid : Prop := Claim7.holds Tryd.pinned (.plain (OpenSpec.upto textRunesSpec)) textRunesUptoCard

/-- THE SECOND FORM's CARD OF 'newsreellaw4.TextWords'. -/
def textWordsUptoCard : Claim7 := { stood := { row := textWordsUptoRow, standIns := [], harness := (true, "a485b432156cd2df733afa5e5efd7a6d0eef42d5d3316d8aa7ac425d8b293183"), looks := false }, kinds := [], alts := [], laidByText := true, laidKinds := [.data, .pinned], laidTests := true, laidLooks := .later }
def TextWordsUptoCardSaid : Prop := Claim7.holds Tryd.pinned (.plain (OpenSpec.upto textWordsSpec)) textWordsUptoCard

/-- THE SECOND FORM's CARD OF 'newsreellaw4.TextOrder'. -/
def textOrderUptoCard : Claim7 := { stood := { row := textOrderUptoRow, standIns := [], harness := (true, "a485b432156cd2df733afa5e5efd7a6d0eef42d5d3316d8aa7ac425d8b293183"), looks := false }, kinds := [], alts := [], laidByText := true, laidKinds := [.data, .pinned], laidTests := true, laidLooks := .later }
def TextOrderUptoCardSaid : Prop := Claim7.holds Tryd.pinned (.plain (OpenSpec.upto textOrderSpec)) textOrderUptoCard
end Rows
end Go.Proofs.YtbofkndkgdnbmaaDoor
