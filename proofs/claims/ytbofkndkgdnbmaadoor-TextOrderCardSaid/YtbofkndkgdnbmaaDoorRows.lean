/-
  NARROWER THAN 'FOR EVERY INPUT', by the rows' own cells (each row's printed sentence says how): TextCleans: laid · TextTwice: laid · TextCuts: laid · TextFolds: laid · TextRunes: laid · TextWords: laid · TextOrder: laid.
  DERIVED. THE GIVEN ROWS OF THIS SEAT. 7 by the template 'for every input the law returns true; each argument reads behind the call as it read before'; 0 by the template 'total and deterministic' (their statements: YtbofkndkgdnbmaaDoorTotals.lean).
  GIVEN WITH THE SEED: the statements are not yours to turn. If you find one false, say at which input.
  Laid BY PROGRAM, IN A SANDBOX (cutbox-rows.mjs): the forced cells as the released guide's own fill.sh prints them over the translation 852b4ce3d25238cb… (all of the seat's roots in one cut). By AI agents, Wed Nov 11 2026. No macro, syntax, notation, axiom, sorry.
-/
import Derived.Test.YtbofkndkgdnbmaaDoorChecked
import GoSem.PinnedTables
import GoSem.Claim
import GoSem.ClaimJoined
import GoSem.ClaimMapViews
import Derived.JoinedTies
import Derived.KernelRfl
namespace Go.Proofs.YtbofkndkgdnbmaaDoor
/- THE CELL 'sum', in the pinned program and in every row, IS THE sha256 OF THE DUMP (.gsa) THAT YtbofkndkgdnbmaaDoorProg.lean LOADS. Nothing in Lean hashes anything: it is a label: what it is worth is what the hold of that sum in a sandbox is worth. -/
noncomputable def Tryd.pinned : Pinned := { name := "ytbofkndkgdnbmaadoor", sum := "852b4ce3d25238cbbdf7ceff49ce1e6876d260ad684c853497aaed2fd7a186b5", checked := Tryd.checked }
namespace Rows
def none {H : Type} : Left H := { results := [], args := [] }

/- WHAT THE LISTED PACKAGE-LEVEL VARIABLES READ AS WHEN THE CALL BEGINS. Each datum BY PROGRAM (the guide's laid-datum.mjs) off the statement by which the dump's own 'gosem.cut.vars' lays the variable. In a bare row this is a premise. The card (YtbofkndkgdnbmaaDoorCards.lean) ties it to the program's text. -/
def laid_unicode_utf8_acceptRanges {H : Type} : DataW H := .agg [.agg [.lit (.int .u8 128), .lit (.int .u8 191)], .agg [.lit (.int .u8 160), .lit (.int .u8 191)], .agg [.lit (.int .u8 128), .lit (.int .u8 159)], .agg [.lit (.int .u8 144), .lit (.int .u8 191)], .agg [.lit (.int .u8 128), .lit (.int .u8 143)], .agg [.lit (.int .u8 0), .lit (.int .u8 0)], .agg [.lit (.int .u8 0), .lit (.int .u8 0)], .agg [.lit (.int .u8 0), .lit (.int .u8 0)], .agg [.lit (.int .u8 0), .lit (.int .u8 0)], .agg [.lit (.int .u8 0), .lit (.int .u8 0)], .agg [.lit (.int .u8 0), .lit (.int .u8 0)], .agg [.lit (.int .u8 0), .lit (.int .u8 0)], .agg [.lit (.int .u8 0), .lit (.int .u8 0)], .agg [.lit (.int .u8 0), .lit (.int .u8 0)], .agg [.lit (.int .u8 0), .lit (.int .u8 0)], .agg [.lit (.int .u8 0), .lit (.int .u8 0)]]
/-- One of Go's own tables, pinned by name: the form's constant. -/
def laid_unicode_utf8_first : DataW Unit := Go.Pinned.utf8First

/-- 'newsreellaw4.TextCleans': WHATEVER THE INPUT: true; the input reads as it did. -/
def textCleansSpec : ChangeSpec := { name := "textCleans", fn := fun _ => fun
  | [d1, d2, d3] => { results := [.lit (.bool true)], args := [d1, d2, d3] }
  | _ => none }
def textCleansRow : OpenClaim := { program := "ytbofkndkgdnbmaadoor", sum := "852b4ce3d25238cbbdf7ceff49ce1e6876d260ad684c853497aaed2fd7a186b5", func := "newsreel/newsreellaw4.TextCleans", spec := "textCleans", inPlace := ["internal/abi.NoEscape", "internal/bytealg.IndexByteString", "internal/bytealg.IndexString"], unfollowed := true, recurses := true, named := ["unicode/utf8.first", "unicode/utf8.acceptRanges", "internal/bytealg.MaxLen"], apart := false, laid := [("unicode/utf8.acceptRanges", laid_unicode_utf8_acceptRanges), ("unicode/utf8.first", laid_unicode_utf8_first)] }
def TextCleansSaid : Prop := textCleansRow.holds Tryd.pinned (OpenSpec.ofChange textCleansSpec)

/-- ITS FALSE NEIGHBOUR: 'it returns false'. Refute it at one input. -/
def textCleansWrong : ChangeSpec := { name := "textCleans", fn := fun _ => fun
  | [d1, d2, d3] => { results := [.lit (.bool false)], args := [d1, d2, d3] }
  | _ => none }
def TextCleansWrongFalsely : Prop := textCleansRow.holds Tryd.pinned (OpenSpec.ofChange textCleansWrong)

/-- 'newsreellaw4.TextTwice': WHATEVER THE INPUT: true; the input reads as it did. -/
def textTwiceSpec : ChangeSpec := { name := "textTwice", fn := fun _ => fun
  | [d1, d2, d3] => { results := [.lit (.bool true)], args := [d1, d2, d3] }
  | _ => none }
def textTwiceRow : OpenClaim := { program := "ytbofkndkgdnbmaadoor", sum := "852b4ce3d25238cbbdf7ceff49ce1e6876d260ad684c853497aaed2fd7a186b5", func := "newsreel/newsreellaw4.TextTwice", spec := "textTwice", inPlace := ["internal/abi.NoEscape", "internal/bytealg.IndexByteString", "internal/bytealg.IndexString"], unfollowed := true, recurses := true, named := ["unicode/utf8.first", "unicode/utf8.acceptRanges", "internal/bytealg.MaxLen"], apart := false, laid := [("unicode/utf8.acceptRanges", laid_unicode_utf8_acceptRanges), ("unicode/utf8.first", laid_unicode_utf8_first)] }
def TextTwiceSaid : Prop := textTwiceRow.holds Tryd.pinned (OpenSpec.ofChange textTwiceSpec)

/-- ITS FALSE NEIGHBOUR: 'it returns false'. Refute it at one input. -/
def textTwiceWrong : ChangeSpec := { name := "textTwice", fn := fun _ => fun
  | [d1, d2, d3] => { results := [.lit (.bool false)], args := [d1, d2, d3] }
  | _ => none }
def TextTwiceWrongFalsely : Prop := textTwiceRow.holds Tryd.pinned (OpenSpec.ofChange textTwiceWrong)

/-- 'newsreellaw4.TextCuts': WHATEVER THE INPUT: true; the input reads as it did. -/
def textCutsSpec : ChangeSpec := { name := "textCuts", fn := fun _ => fun
  | [d1, d2, d3, d4] => { results := [.lit (.bool true)], args := [d1, d2, d3, d4] }
  | _ => none }
def textCutsRow : OpenClaim := { program := "ytbofkndkgdnbmaadoor", sum := "852b4ce3d25238cbbdf7ceff49ce1e6876d260ad684c853497aaed2fd7a186b5", func := "newsreel/newsreellaw4.TextCuts", spec := "textCuts", inPlace := ["internal/abi.NoEscape", "internal/bytealg.IndexByteString", "internal/bytealg.IndexString"], unfollowed := true, recurses := true, named := ["unicode/utf8.first", "unicode/utf8.acceptRanges", "internal/bytealg.MaxLen"], apart := false, laid := [("unicode/utf8.acceptRanges", laid_unicode_utf8_acceptRanges), ("unicode/utf8.first", laid_unicode_utf8_first)] }
def TextCutsSaid : Prop := textCutsRow.holds Tryd.pinned (OpenSpec.ofChange textCutsSpec)

/-- ITS FALSE NEIGHBOUR: 'it returns false'. Refute it at one input. -/
def textCutsWrong : ChangeSpec := { name := "textCuts", fn := fun _ => fun
  | [d1, d2, d3, d4] => { results := [.lit (.bool false)], args := [d1, d2, d3, d4] }
  | _ => none }
def TextCutsWrongFalsely : Prop := textCutsRow.holds Tryd.pinned (OpenSpec.ofChange textCutsWrong)

/-- 'newsreellaw4.TextFolds': WHATEVER THE INPUT: true; the input reads as it did. -/
def textFoldsSpec : ChangeSpec := { name := "textFolds", fn := fun _ => fun
  | [d1, d2] => { results := [.lit (.bool true)], args := [d1, d2] }
  | _ => none }
def textFoldsRow : OpenClaim := { program := "ytbofkndkgdnbmaadoor", sum := "852b4ce3d25238cbbdf7ceff49ce1e6876d260ad684c853497aaed2fd7a186b5", func := "newsreel/newsreellaw4.TextFolds", spec := "textFolds", inPlace := ["internal/abi.NoEscape", "internal/bytealg.IndexByteString", "internal/bytealg.IndexString"], unfollowed := true, recurses := true, named := ["unicode/utf8.first", "unicode/utf8.acceptRanges", "internal/bytealg.MaxLen"], apart := false, laid := [("unicode/utf8.acceptRanges", laid_unicode_utf8_acceptRanges), ("unicode/utf8.first", laid_unicode_utf8_first)] }
def TextFoldsSaid : Prop := textFoldsRow.holds Tryd.pinned (OpenSpec.ofChange textFoldsSpec)

/-- ITS FALSE NEIGHBOUR: 'it returns false'. Refute it at one input. -/
def textFoldsWrong : ChangeSpec := { name := "textFolds", fn := fun _ => fun
  | [d1, d2] => { results := [.lit (.bool false)], args := [d1, d2] }
  | _ => none }
def TextFoldsWrongFalsely : Prop := textFoldsRow.holds Tryd.pinned (OpenSpec.ofChange textFoldsWrong)

/-- 'newsreellaw4.TextRunes': WHATEVER THE INPUT: true; the input reads as it did. -/
def textRunesSpec : ChangeSpec := { name := "textRunes", fn := fun _ => fun
  | [d] => { results := [.lit (.bool true)], args := [d] }
  | _ => none }
def textRunesRow : OpenClaim := { program := "ytbofkndkgdnbmaadoor", sum := "852b4ce3d25238cbbdf7ceff49ce1e6876d260ad684c853497aaed2fd7a186b5", func := "newsreel/newsreellaw4.TextRunes", spec := "textRunes", inPlace := ["internal/abi.NoEscape", "internal/bytealg.IndexByteString", "internal/bytealg.IndexString"], unfollowed := true, recurses := true, named := ["unicode/utf8.first", "unicode/utf8.acceptRanges", "internal/bytealg.MaxLen"], apart := false, laid := [("unicode/utf8.acceptRanges", laid_unicode_utf8_acceptRanges), ("unicode/utf8.first", laid_unicode_utf8_first)] }
def TextRunesSaid : Prop := textRunesRow.holds Tryd.pinned (OpenSpec.ofChange textRunesSpec)

/-- ITS FALSE NEIGHBOUR: 'it returns false'. Refute it at one input. -/
def textRunesWrong : ChangeSpec := { name := "textRunes", fn := fun _ => fun
  | [d] => { results := [.lit (.bool false)], args := [d] }
  | _ => none }
def TextRunesWrongFalsely : Prop := textRunesRow.holds Tryd.pinned (OpenSpec.ofChange textRunesWrong)

/-- 'newsreellaw4.TextWords': WHATEVER THE INPUT: true; the input reads as it did. -/
def textWordsSpec : ChangeSpec := { name := "textWords", fn := fun _ => fun
  | [d1, d2] => { results := [.lit (.bool true)], args := [d1, d2] }
  | _ => none }
def textWordsRow : OpenClaim := { program := "ytbofkndkgdnbmaadoor", sum := "852b4ce3d25238cbbdf7ceff49ce1e6876d260ad684c853497aaed2fd7a186b5", func := "newsreel/newsreellaw4.TextWords", spec := "textWords", inPlace := ["internal/abi.NoEscape", "internal/bytealg.IndexByteString", "internal/bytealg.IndexString"], unfollowed := true, recurses := true, named := ["unicode/utf8.first", "unicode/utf8.acceptRanges", "internal/bytealg.MaxLen"], apart := false, laid := [("unicode/utf8.acceptRanges", laid_unicode_utf8_acceptRanges), ("unicode/utf8.first", laid_unicode_utf8_first)] }
def TextWordsSaid : Prop := textWordsRow.holds Tryd.pinned (OpenSpec.ofChange textWordsSpec)

/-- ITS FALSE NEIGHBOUR: 'it returns false'. Refute it at one input. -/
def textWordsWrong : ChangeSpec := { name := "textWords", fn := fun _ => fun
  | [d1, d2] => { results := [.lit (.bool false)], args := [d1, d2] }
  | _ => none }
def TextWordsWrongFalsely : Prop := textWordsRow.holds Tryd.pinned (OpenSpec.ofChange textWordsWrong)

/-- 'newsreellaw4.TextOrder': WHATEVER THE INPUT: true; the input reads as it did. -/
def textOrderSpec : ChangeSpec := { name := "textOrder", fn := fun _ => fun
  | [d1, d2, d3, d4, d5] => { results := [.lit (.bool true)], args := [d1, d2, d3, d4, d5] }
  | _ => none }
def textOrderRow : OpenClaim := { program := "ytbofkndkgdnbmaadoor", sum := "852b4ce3d25238cbbdf7ceff49ce1e6876d260ad684c853497aaed2fd7a186b5", func := "newsreel/newsreellaw4.TextOrder", spec := "textOrder", inPlace := ["internal/abi.NoEscape", "internal/bytealg.IndexByteString", "internal/bytealg.IndexString"], unfollowed := true, recurses := true, named := ["unicode/utf8.first", "unicode/utf8.acceptRanges", "internal/bytealg.MaxLen"], apart := false, laid := [("unicode/utf8.acceptRanges", laid_unicode_utf8_acceptRanges), ("unicode/utf8.first", laid_unicode_utf8_first)] }
def TextOrderSaid : Prop := textOrderRow.holds Tryd.pinned (OpenSpec.ofChange textOrderSpec)

/-- ITS FALSE NEIGHBOUR: 'it returns false'. Refute it at one input. -/
def textOrderWrong : ChangeSpec := { name := "textOrder", fn := fun _ => fun
  | [d1, d2, d3, d4, d5] => { results := [.lit (.bool false)], args := [d1, d2, d3, d4, d5] }
  | _ => none }
def TextOrderWrongFalsely : Prop := textOrderRow.holds Tryd.pinned (OpenSpec.ofChange textOrderWrong)

/- THE SECOND FORM. 'bulk': how many values and letters a reading holds, each counted each time it is reached (what is shared counts as often as it is met; a slice's spare places count too). A statement '..UptoSaid' is the law's where the arguments, and the package variables that the reading takes, are together of bulk at most 1048576: NARROWER than '..Said'. Prove '..Said' where nothing that the law and all that it calls make is longer than what came in: it says more and counts as full. Else prove '..UptoSaid'. A law counts once. -/
mutual
def uptoBulk {H : Type} : DataW H → Nat
  | .lit (.string bytes) => bytes.length + 1
  | .lit _ => 1
  | .nil => 1
  | .ptr d => uptoBulk d + 1
  | .slice elems spare => uptoBulkAll elems + uptoBulkAll spare + 1
  | .agg parts => uptoBulkAll parts + 1
  | .iface _ d => uptoBulk d + 1
  | .map entries => uptoBulkEntries entries + 1
  | .held _ => 1
def uptoBulkAll {H : Type} : List (DataW H) → Nat
  | [] => 0
  | d :: r => uptoBulk d + uptoBulkAll r
def uptoBulkEntries {H : Type} : List (Lit × DataW H) → Nat
  | [] => 0
  | x :: r => uptoBulkEntry x + uptoBulkEntries r
def uptoBulkEntry {H : Type} : Lit × DataW H → Nat
  | (.string bytes, d) => bytes.length + uptoBulk d + 1
  | (_, d) => uptoBulk d + 1
 end
def uptoSmall : (H : Type) → List (DataW H) → Bool := fun _ ds => decide (uptoBulkAll ds ≤ 1048576)
def OpenSpec.upto (s : _root_.Go.ChangeSpec) : _root_.Go.OpenSpec := { _root_.Go.OpenSpec.ofChange s with cond := some uptoSmall }

/-- 'newsreellaw4.TextCleans', WHERE WHAT IT READS IS OF BULK AT MOST 1048576: true; the input reads as it did. -/
def textCleansUptoRow : OpenClaim := { program := "ytbofkndkgdnbmaadoor", sum := "852b4ce3d25238cbbdf7ceff49ce1e6876d260ad684c853497aaed2fd7a186b5", func := "newsreel/newsreellaw4.TextCleans", spec := "textCleans", inPlace := ["internal/abi.NoEscape", "internal/bytealg.IndexByteString", "internal/bytealg.IndexString"], unfollowed := true, recurses := true, named := ["unicode/utf8.first", "unicode/utf8.acceptRanges", "internal/bytealg.MaxLen"], apart := false, laid := [("unicode/utf8.acceptRanges", laid_unicode_utf8_acceptRanges), ("unicode/utf8.first", laid_unicode_utf8_first)], narrowed := true }
def TextCleansUptoSaid : Prop := textCleansUptoRow.holds Tryd.pinned (OpenSpec.upto textCleansSpec)

/-- 'newsreellaw4.TextTwice', WHERE WHAT IT READS IS OF BULK AT MOST 1048576: true; the input reads as it did. -/
def textTwiceUptoRow : OpenClaim := { program := "ytbofkndkgdnbmaadoor", sum := "852b4ce3d25238cbbdf7ceff49ce1e6876d260ad684c853497aaed2fd7a186b5", func := "newsreel/newsreellaw4.TextTwice", spec := "textTwice", inPlace := ["internal/abi.NoEscape", "internal/bytealg.IndexByteString", "internal/bytealg.IndexString"], unfollowed := true, recurses := true, named := ["unicode/utf8.first", "unicode/utf8.acceptRanges", "internal/bytealg.MaxLen"], apart := false, laid := [("unicode/utf8.acceptRanges", laid_unicode_utf8_acceptRanges), ("unicode/utf8.first", laid_unicode_utf8_first)], narrowed := true }
def TextTwiceUptoSaid : Prop := textTwiceUptoRow.holds Tryd.pinned (OpenSpec.upto textTwiceSpec)

/-- 'newsreellaw4.TextCuts', WHERE WHAT IT READS IS OF BULK AT MOST 1048576: true; the input reads as it did. -/
def textCutsUptoRow : OpenClaim := { program := "ytbofkndkgdnbmaadoor", sum := "852b4ce3d25238cbbdf7ceff49ce1e6876d260ad684c853497aaed2fd7a186b5", func := "newsreel/newsreellaw4.TextCuts", spec := "textCuts", inPlace := ["internal/abi.NoEscape", "internal/bytealg.IndexByteString", "internal/bytealg.IndexString"], unfollowed := true, recurses := true, named := ["unicode/utf8.first", "unicode/utf8.acceptRanges", "internal/bytealg.MaxLen"], apart := false, laid := [("unicode/utf8.acceptRanges", laid_unicode_utf8_acceptRanges), ("unicode/utf8.first", laid_unicode_utf8_first)], narrowed := true }
def TextCutsUptoSaid : Prop := textCutsUptoRow.holds Tryd.pinned (OpenSpec.upto textCutsSpec)

/-- 'newsreellaw4.TextFolds', WHERE WHAT IT READS IS OF BULK AT MOST 1048576: true; the input reads as it did. -/
def textFoldsUptoRow : OpenClaim := { program := "ytbofkndkgdnbmaadoor", sum := "852b4ce3d25238cbbdf7ceff49ce1e6876d260ad684c853497aaed2fd7a186b5", func := "newsreel/newsreellaw4.TextFolds", spec := "textFolds", inPlace := ["internal/abi.NoEscape", "internal/bytealg.IndexByteString", "internal/bytealg.IndexString"], unfollowed := true, recurses := true, named := ["unicode/utf8.first", "unicode/utf8.acceptRanges", "internal/bytealg.MaxLen"], apart := false, laid := [("unicode/utf8.acceptRanges", laid_unicode_utf8_acceptRanges), ("unicode/utf8.first", laid_unicode_utf8_first)], narrowed := true }
def TextFoldsUptoSaid : Prop := textFoldsUptoRow.holds Tryd.pinned (OpenSpec.upto textFoldsSpec)

/-- 'newsreellaw4.TextRunes', WHERE WHAT IT READS IS OF BULK AT MOST 1048576: true; the input reads as it did. -/
def textRunesUptoRow : OpenClaim := { program := "ytbofkndkgdnbmaadoor", sum := "852b4ce3d25238cbbdf7ceff49ce1e6876d260ad684c853497aaed2fd7a186b5", func := "newsreel/newsreellaw4.TextRunes", spec := "textRunes", inPlace := ["internal/abi.NoEscape", "internal/bytealg.IndexByteString", "internal/bytealg.IndexString"], unfollowed := true, recurses := true, named := ["unicode/utf8.first", "unicode/utf8.acceptRanges", "internal/bytealg.MaxLen"], apart := false, laid := [("unicode/utf8.acceptRanges", laid_unicode_utf8_acceptRanges), ("unicode/utf8.first", laid_unicode_utf8_first)], narrowed := true }
def TextRunesUptoSaid : Prop := textRunesUptoRow.holds Tryd.pinned (OpenSpec.upto textRunesSpec)

/-- 'newsreellaw4.TextWords', WHERE WHAT IT READS IS OF BULK AT MOST 1048576: true; the input reads as it did. -/
def textWordsUptoRow : OpenClaim := { program := "ytbofkndkgdnbmaadoor", sum := "852b4ce3d25238cbbdf7ceff49ce1e6876d260ad684c853497aaed2fd7a186b5", func := "newsreel/newsreellaw4.TextWords", spec := "textWords", inPlace := ["internal/abi.NoEscape", "internal/bytealg.IndexByteString", "internal/bytealg.IndexString"], unfollowed := true, recurses := true, named := ["unicode/utf8.first", "unicode/utf8.acceptRanges", "internal/bytealg.MaxLen"], apart := false, laid := [("unicode/utf8.acceptRanges", laid_unicode_utf8_acceptRanges), ("unicode/utf8.first", laid_unicode_utf8_first)], narrowed := true }
def TextWordsUptoSaid : Prop := textWordsUptoRow.holds Tryd.pinned (OpenSpec.upto textWordsSpec)

/-- 'newsreellaw4.TextOrder', WHERE WHAT IT READS IS OF BULK AT MOST 1048576: true; the input reads as it did. -/
def textOrderUptoRow : OpenClaim := { program := "ytbofkndkgdnbmaadoor", sum := "852b4ce3d25238cbbdf7ceff49ce1e6876d260ad684c853497aaed2fd7a186b5", func := "newsreel/newsreellaw4.TextOrder", spec := "textOrder", inPlace := ["internal/abi.NoEscape", "internal/bytealg.IndexByteString", "internal/bytealg.IndexString"], unfollowed := true, recurses := true, named := ["unicode/utf8.first", "unicode/utf8.acceptRanges", "internal/bytealg.MaxLen"], apart := false, laid := [("unicode/utf8.acceptRanges", laid_unicode_utf8_acceptRanges), ("unicode/utf8.first", laid_unicode_utf8_first)], narrowed := true }
def TextOrderUptoSaid : Prop := textOrderUptoRow.holds Tryd.pinned (OpenSpec.upto textOrderSpec)

end Rows
end Go.Proofs.YtbofkndkgdnbmaaDoor
