/-
  NARROWER THAN 'FOR EVERY INPUT', by the rows' own cells (each row's printed sentence says how): WordsTaken: laid · WordsOdd: laid · ChainSpoilt: laid · ChainCut: laid · ChainAll: laid · ChainTexts: laid · ChainAlone: laid · ChainNumbers: laid · WordsAll: laid · WordsBack: laid · WordsRow: laid · WordsSize: laid · FileAll: laid · FileTaken: laid · FileBig: laid · FileParts: laid · FileOdd: laid · FileBack: laid.
  DERIVED. THE GIVEN ROWS OF THIS SEAT. 18 by the template 'for every input the law returns true; each argument reads behind the call as it read before'; 0 by the template 'total and deterministic' (their statements: YthdjbgbfboppcaaDoorTotals.lean).
  GIVEN WITH THE SEED: the statements are not yours to turn. If you find one false, say at which input.
  Laid BY PROGRAM, IN A SANDBOX (cutbox-rows.mjs): the forced cells as the released guide's own fill.sh prints them over the translation 2a111d6137f8e4d6… (all of the seat's roots in one cut). By AI agents, Wed Nov 11 2026. No macro, syntax, notation, axiom, sorry.
-/
import Derived.Test.YthdjbgbfboppcaaDoorChecked
import GoSem.PinnedTables
import GoSem.Claim
import GoSem.ClaimJoined
import GoSem.ClaimMapViews
import Derived.JoinedTies
import Derived.KernelRfl
namespace Go.Proofs.YthdjbgbfboppcaaDoor
/- THE CELL 'sum', in the pinned program and in every row, IS THE sha256 OF THE DUMP (.gsa) THAT YthdjbgbfboppcaaDoorProg.lean LOADS. Nothing in Lean hashes anything: it is a label: what it is worth is what the hold of that sum in a sandbox is worth. -/
noncomputable def Tryd.pinned : Pinned := { name := "ythdjbgbfboppcaadoor", sum := "2a111d6137f8e4d6d9edd47027b5933f5f18e3e722ed19e0301e99fd370fdd6e", checked := Tryd.checked }
namespace Rows
def none {H : Type} : Left H := { results := [], args := [] }

/- WHAT THE LISTED PACKAGE-LEVEL VARIABLES READ AS WHEN THE CALL BEGINS. Each datum BY PROGRAM (the guide's laid-datum.mjs) off the statement by which the dump's own 'gosem.cut.vars' lays the variable. In a bare row this is a premise. The card (YthdjbgbfboppcaaDoorCards.lean) ties it to the program's text. -/
def laid_unicode_utf8_acceptRanges {H : Type} : DataW H := .agg [.agg [.lit (.int .u8 128), .lit (.int .u8 191)], .agg [.lit (.int .u8 160), .lit (.int .u8 191)], .agg [.lit (.int .u8 128), .lit (.int .u8 159)], .agg [.lit (.int .u8 144), .lit (.int .u8 191)], .agg [.lit (.int .u8 128), .lit (.int .u8 143)], .agg [.lit (.int .u8 0), .lit (.int .u8 0)], .agg [.lit (.int .u8 0), .lit (.int .u8 0)], .agg [.lit (.int .u8 0), .lit (.int .u8 0)], .agg [.lit (.int .u8 0), .lit (.int .u8 0)], .agg [.lit (.int .u8 0), .lit (.int .u8 0)], .agg [.lit (.int .u8 0), .lit (.int .u8 0)], .agg [.lit (.int .u8 0), .lit (.int .u8 0)], .agg [.lit (.int .u8 0), .lit (.int .u8 0)], .agg [.lit (.int .u8 0), .lit (.int .u8 0)], .agg [.lit (.int .u8 0), .lit (.int .u8 0)], .agg [.lit (.int .u8 0), .lit (.int .u8 0)]]
def laid_epitome_span_kinds {H : Type} : DataW H := .agg [.agg [.lit (.bool false), .lit (.bool false)], .agg [.lit (.bool true), .lit (.bool true)], .agg [.lit (.bool false), .lit (.bool false)], .agg [.lit (.bool true), .lit (.bool false)]]
/-- One of Go's own tables, pinned by name: the form's constant. -/
def laid_unicode_utf8_first : DataW Unit := Go.Pinned.utf8First

/-- 'epitomelaw14.WordsTaken': WHATEVER THE INPUT: true; the input reads as it did. -/
def wordsTakenSpec : ChangeSpec := { name := "wordsTaken", fn := fun _ => fun
  | [d] => { results := [.lit (.bool true)], args := [d] }
  | _ => none }
def wordsTakenRow : OpenClaim := { program := "ythdjbgbfboppcaadoor", sum := "2a111d6137f8e4d6d9edd47027b5933f5f18e3e722ed19e0301e99fd370fdd6e", func := "epitome/epitomelaw14.WordsTaken", spec := "wordsTaken", unfollowed := true, recurses := true, named := ["epitome/span.kinds", "unicode/utf8.first", "unicode/utf8.acceptRanges"], apart := false, laid := [("unicode/utf8.acceptRanges", laid_unicode_utf8_acceptRanges), ("epitome/span.kinds", laid_epitome_span_kinds), ("unicode/utf8.first", laid_unicode_utf8_first)] }
def WordsTakenSaid : Prop := wordsTakenRow.holds Tryd.pinned (OpenSpec.ofChange wordsTakenSpec)

/-- ITS FALSE NEIGHBOUR: 'it returns false'. Refute it at one input. -/
def wordsTakenWrong : ChangeSpec := { name := "wordsTaken", fn := fun _ => fun
  | [d] => { results := [.lit (.bool false)], args := [d] }
  | _ => none }
def WordsTakenWrongFalsely : Prop := wordsTakenRow.holds Tryd.pinned (OpenSpec.ofChange wordsTakenWrong)

/-- 'epitomelaw14.WordsOdd': WHATEVER THE INPUT: true; the input reads as it did. -/
def wordsOddSpec : ChangeSpec := { name := "wordsOdd", fn := fun _ => fun
  | [d1, d2] => { results := [.lit (.bool true)], args := [d1, d2] }
  | _ => none }
def wordsOddRow : OpenClaim := { program := "ythdjbgbfboppcaadoor", sum := "2a111d6137f8e4d6d9edd47027b5933f5f18e3e722ed19e0301e99fd370fdd6e", func := "epitome/epitomelaw14.WordsOdd", spec := "wordsOdd", unfollowed := true, recurses := true, named := ["epitome/span.kinds", "unicode/utf8.first", "unicode/utf8.acceptRanges"], apart := false, laid := [("unicode/utf8.acceptRanges", laid_unicode_utf8_acceptRanges), ("epitome/span.kinds", laid_epitome_span_kinds), ("unicode/utf8.first", laid_unicode_utf8_first)] }
def WordsOddSaid : Prop := wordsOddRow.holds Tryd.pinned (OpenSpec.ofChange wordsOddSpec)

/-- ITS FALSE NEIGHBOUR: 'it returns false'. Refute it at one input. -/
def wordsOddWrong : ChangeSpec := { name := "wordsOdd", fn := fun _ => fun
  | [d1, d2] => { results := [.lit (.bool false)], args := [d1, d2] }
  | _ => none }
def WordsOddWrongFalsely : Prop := wordsOddRow.holds Tryd.pinned (OpenSpec.ofChange wordsOddWrong)

/-- 'epitomelaw16.ChainSpoilt': WHATEVER THE INPUT: true; the input reads as it did. -/
def chainSpoiltSpec : ChangeSpec := { name := "chainSpoilt", fn := fun _ => fun
  | [d1, d2, d3] => { results := [.lit (.bool true)], args := [d1, d2, d3] }
  | _ => none }
def chainSpoiltRow : OpenClaim := { program := "ythdjbgbfboppcaadoor", sum := "2a111d6137f8e4d6d9edd47027b5933f5f18e3e722ed19e0301e99fd370fdd6e", func := "epitome/epitomelaw16.ChainSpoilt", spec := "chainSpoilt", unfollowed := true, recurses := true, named := ["unicode/utf8.first", "unicode/utf8.acceptRanges", "epitome/span.kinds"], apart := false, laid := [("unicode/utf8.acceptRanges", laid_unicode_utf8_acceptRanges), ("epitome/span.kinds", laid_epitome_span_kinds), ("unicode/utf8.first", laid_unicode_utf8_first)] }
def ChainSpoiltSaid : Prop := chainSpoiltRow.holds Tryd.pinned (OpenSpec.ofChange chainSpoiltSpec)

/-- ITS FALSE NEIGHBOUR: 'it returns false'. Refute it at one input. -/
def chainSpoiltWrong : ChangeSpec := { name := "chainSpoilt", fn := fun _ => fun
  | [d1, d2, d3] => { results := [.lit (.bool false)], args := [d1, d2, d3] }
  | _ => none }
def ChainSpoiltWrongFalsely : Prop := chainSpoiltRow.holds Tryd.pinned (OpenSpec.ofChange chainSpoiltWrong)

/-- 'epitomelaw16.ChainCut': WHATEVER THE INPUT: true; the input reads as it did. -/
def chainCutSpec : ChangeSpec := { name := "chainCut", fn := fun _ => fun
  | [d1, d2, d3] => { results := [.lit (.bool true)], args := [d1, d2, d3] }
  | _ => none }
def chainCutRow : OpenClaim := { program := "ythdjbgbfboppcaadoor", sum := "2a111d6137f8e4d6d9edd47027b5933f5f18e3e722ed19e0301e99fd370fdd6e", func := "epitome/epitomelaw16.ChainCut", spec := "chainCut", unfollowed := true, recurses := true, named := ["unicode/utf8.first", "unicode/utf8.acceptRanges", "epitome/span.kinds"], apart := false, laid := [("unicode/utf8.acceptRanges", laid_unicode_utf8_acceptRanges), ("epitome/span.kinds", laid_epitome_span_kinds), ("unicode/utf8.first", laid_unicode_utf8_first)] }
def ChainCutSaid : Prop := chainCutRow.holds Tryd.pinned (OpenSpec.ofChange chainCutSpec)

/-- ITS FALSE NEIGHBOUR: 'it returns false'. Refute it at one input. -/
def chainCutWrong : ChangeSpec := { name := "chainCut", fn := fun _ => fun
  | [d1, d2, d3] => { results := [.lit (.bool false)], args := [d1, d2, d3] }
  | _ => none }
def ChainCutWrongFalsely : Prop := chainCutRow.holds Tryd.pinned (OpenSpec.ofChange chainCutWrong)

/-- 'epitomelaw16.ChainAll': WHATEVER THE INPUT: true; the input reads as it did. -/
def chainAllSpec : ChangeSpec := { name := "chainAll", fn := fun _ => fun
  | [d1, d2] => { results := [.lit (.bool true)], args := [d1, d2] }
  | _ => none }
def chainAllRow : OpenClaim := { program := "ythdjbgbfboppcaadoor", sum := "2a111d6137f8e4d6d9edd47027b5933f5f18e3e722ed19e0301e99fd370fdd6e", func := "epitome/epitomelaw16.ChainAll", spec := "chainAll", unfollowed := true, recurses := true, named := ["unicode/utf8.first", "unicode/utf8.acceptRanges", "epitome/span.kinds"], apart := false, laid := [("unicode/utf8.acceptRanges", laid_unicode_utf8_acceptRanges), ("epitome/span.kinds", laid_epitome_span_kinds), ("unicode/utf8.first", laid_unicode_utf8_first)] }
def ChainAllSaid : Prop := chainAllRow.holds Tryd.pinned (OpenSpec.ofChange chainAllSpec)

/-- ITS FALSE NEIGHBOUR: 'it returns false'. Refute it at one input. -/
def chainAllWrong : ChangeSpec := { name := "chainAll", fn := fun _ => fun
  | [d1, d2] => { results := [.lit (.bool false)], args := [d1, d2] }
  | _ => none }
def ChainAllWrongFalsely : Prop := chainAllRow.holds Tryd.pinned (OpenSpec.ofChange chainAllWrong)

/-- 'epitomelaw16.ChainTexts': WHATEVER THE INPUT: true; the input reads as it did. -/
def chainTextsSpec : ChangeSpec := { name := "chainTexts", fn := fun _ => fun
  | [d1, d2] => { results := [.lit (.bool true)], args := [d1, d2] }
  | _ => none }
def chainTextsRow : OpenClaim := { program := "ythdjbgbfboppcaadoor", sum := "2a111d6137f8e4d6d9edd47027b5933f5f18e3e722ed19e0301e99fd370fdd6e", func := "epitome/epitomelaw16.ChainTexts", spec := "chainTexts", unfollowed := true, recurses := true, named := ["unicode/utf8.first", "unicode/utf8.acceptRanges", "epitome/span.kinds"], apart := false, laid := [("unicode/utf8.acceptRanges", laid_unicode_utf8_acceptRanges), ("epitome/span.kinds", laid_epitome_span_kinds), ("unicode/utf8.first", laid_unicode_utf8_first)] }
def ChainTextsSaid : Prop := chainTextsRow.holds Tryd.pinned (OpenSpec.ofChange chainTextsSpec)

/-- ITS FALSE NEIGHBOUR: 'it returns false'. Refute it at one input. -/
def chainTextsWrong : ChangeSpec := { name := "chainTexts", fn := fun _ => fun
  | [d1, d2] => { results := [.lit (.bool false)], args := [d1, d2] }
  | _ => none }
def ChainTextsWrongFalsely : Prop := chainTextsRow.holds Tryd.pinned (OpenSpec.ofChange chainTextsWrong)

/-- 'epitomelaw16.ChainAlone': WHATEVER THE INPUT: true; the input reads as it did. -/
def chainAloneSpec : ChangeSpec := { name := "chainAlone", fn := fun _ => fun
  | [d1, d2] => { results := [.lit (.bool true)], args := [d1, d2] }
  | _ => none }
def chainAloneRow : OpenClaim := { program := "ythdjbgbfboppcaadoor", sum := "2a111d6137f8e4d6d9edd47027b5933f5f18e3e722ed19e0301e99fd370fdd6e", func := "epitome/epitomelaw16.ChainAlone", spec := "chainAlone", unfollowed := true, recurses := true, named := ["unicode/utf8.first", "unicode/utf8.acceptRanges", "epitome/span.kinds"], apart := false, laid := [("unicode/utf8.acceptRanges", laid_unicode_utf8_acceptRanges), ("epitome/span.kinds", laid_epitome_span_kinds), ("unicode/utf8.first", laid_unicode_utf8_first)] }
def ChainAloneSaid : Prop := chainAloneRow.holds Tryd.pinned (OpenSpec.ofChange chainAloneSpec)

/-- ITS FALSE NEIGHBOUR: 'it returns false'. Refute it at one input. -/
def chainAloneWrong : ChangeSpec := { name := "chainAlone", fn := fun _ => fun
  | [d1, d2] => { results := [.lit (.bool false)], args := [d1, d2] }
  | _ => none }
def ChainAloneWrongFalsely : Prop := chainAloneRow.holds Tryd.pinned (OpenSpec.ofChange chainAloneWrong)

/-- 'epitomelaw16.ChainNumbers': WHATEVER THE INPUT: true; the input reads as it did. -/
def chainNumbersSpec : ChangeSpec := { name := "chainNumbers", fn := fun _ => fun
  | [d1, d2, d3] => { results := [.lit (.bool true)], args := [d1, d2, d3] }
  | _ => none }
def chainNumbersRow : OpenClaim := { program := "ythdjbgbfboppcaadoor", sum := "2a111d6137f8e4d6d9edd47027b5933f5f18e3e722ed19e0301e99fd370fdd6e", func := "epitome/epitomelaw16.ChainNumbers", spec := "chainNumbers", unfollowed := true, recurses := true, named := ["unicode/utf8.first", "unicode/utf8.acceptRanges", "epitome/span.kinds"], apart := false, laid := [("unicode/utf8.acceptRanges", laid_unicode_utf8_acceptRanges), ("epitome/span.kinds", laid_epitome_span_kinds), ("unicode/utf8.first", laid_unicode_utf8_first)] }
def ChainNumbersSaid : Prop := chainNumbersRow.holds Tryd.pinned (OpenSpec.ofChange chainNumbersSpec)

/-- ITS FALSE NEIGHBOUR: 'it returns false'. Refute it at one input. -/
def chainNumbersWrong : ChangeSpec := { name := "chainNumbers", fn := fun _ => fun
  | [d1, d2, d3] => { results := [.lit (.bool false)], args := [d1, d2, d3] }
  | _ => none }
def ChainNumbersWrongFalsely : Prop := chainNumbersRow.holds Tryd.pinned (OpenSpec.ofChange chainNumbersWrong)

/-- 'epitomelaw14.WordsAll': WHATEVER THE INPUT: true; the input reads as it did. -/
def wordsAllSpec : ChangeSpec := { name := "wordsAll", fn := fun _ => fun
  | [d1, d2] => { results := [.lit (.bool true)], args := [d1, d2] }
  | _ => none }
def wordsAllRow : OpenClaim := { program := "ythdjbgbfboppcaadoor", sum := "2a111d6137f8e4d6d9edd47027b5933f5f18e3e722ed19e0301e99fd370fdd6e", func := "epitome/epitomelaw14.WordsAll", spec := "wordsAll", unfollowed := true, recurses := true, named := ["epitome/span.kinds", "unicode/utf8.first", "unicode/utf8.acceptRanges"], apart := false, laid := [("unicode/utf8.acceptRanges", laid_unicode_utf8_acceptRanges), ("epitome/span.kinds", laid_epitome_span_kinds), ("unicode/utf8.first", laid_unicode_utf8_first)] }
def WordsAllSaid : Prop := wordsAllRow.holds Tryd.pinned (OpenSpec.ofChange wordsAllSpec)

/-- ITS FALSE NEIGHBOUR: 'it returns false'. Refute it at one input. -/
def wordsAllWrong : ChangeSpec := { name := "wordsAll", fn := fun _ => fun
  | [d1, d2] => { results := [.lit (.bool false)], args := [d1, d2] }
  | _ => none }
def WordsAllWrongFalsely : Prop := wordsAllRow.holds Tryd.pinned (OpenSpec.ofChange wordsAllWrong)

/-- 'epitomelaw14.WordsBack': WHATEVER THE INPUT: true; the input reads as it did. -/
def wordsBackSpec : ChangeSpec := { name := "wordsBack", fn := fun _ => fun
  | [d1, d2, d3] => { results := [.lit (.bool true)], args := [d1, d2, d3] }
  | _ => none }
def wordsBackRow : OpenClaim := { program := "ythdjbgbfboppcaadoor", sum := "2a111d6137f8e4d6d9edd47027b5933f5f18e3e722ed19e0301e99fd370fdd6e", func := "epitome/epitomelaw14.WordsBack", spec := "wordsBack", unfollowed := true, recurses := true, named := ["epitome/span.kinds", "unicode/utf8.first", "unicode/utf8.acceptRanges"], apart := false, laid := [("unicode/utf8.acceptRanges", laid_unicode_utf8_acceptRanges), ("epitome/span.kinds", laid_epitome_span_kinds), ("unicode/utf8.first", laid_unicode_utf8_first)] }
def WordsBackSaid : Prop := wordsBackRow.holds Tryd.pinned (OpenSpec.ofChange wordsBackSpec)

/-- ITS FALSE NEIGHBOUR: 'it returns false'. Refute it at one input. -/
def wordsBackWrong : ChangeSpec := { name := "wordsBack", fn := fun _ => fun
  | [d1, d2, d3] => { results := [.lit (.bool false)], args := [d1, d2, d3] }
  | _ => none }
def WordsBackWrongFalsely : Prop := wordsBackRow.holds Tryd.pinned (OpenSpec.ofChange wordsBackWrong)

/-- 'epitomelaw14.WordsRow': WHATEVER THE INPUT: true; the input reads as it did. -/
def wordsRowSpec : ChangeSpec := { name := "wordsRow", fn := fun _ => fun
  | [d1, d2] => { results := [.lit (.bool true)], args := [d1, d2] }
  | _ => none }
def wordsRowRow : OpenClaim := { program := "ythdjbgbfboppcaadoor", sum := "2a111d6137f8e4d6d9edd47027b5933f5f18e3e722ed19e0301e99fd370fdd6e", func := "epitome/epitomelaw14.WordsRow", spec := "wordsRow", unfollowed := true, recurses := true, named := ["epitome/span.kinds", "unicode/utf8.first", "unicode/utf8.acceptRanges"], apart := false, laid := [("unicode/utf8.acceptRanges", laid_unicode_utf8_acceptRanges), ("epitome/span.kinds", laid_epitome_span_kinds), ("unicode/utf8.first", laid_unicode_utf8_first)] }
def WordsRowSaid : Prop := wordsRowRow.holds Tryd.pinned (OpenSpec.ofChange wordsRowSpec)

/-- ITS FALSE NEIGHBOUR: 'it returns false'. Refute it at one input. -/
def wordsRowWrong : ChangeSpec := { name := "wordsRow", fn := fun _ => fun
  | [d1, d2] => { results := [.lit (.bool false)], args := [d1, d2] }
  | _ => none }
def WordsRowWrongFalsely : Prop := wordsRowRow.holds Tryd.pinned (OpenSpec.ofChange wordsRowWrong)

/-- 'epitomelaw14.WordsSize': WHATEVER THE INPUT: true; the input reads as it did. -/
def wordsSizeSpec : ChangeSpec := { name := "wordsSize", fn := fun _ => fun
  | [d1, d2] => { results := [.lit (.bool true)], args := [d1, d2] }
  | _ => none }
def wordsSizeRow : OpenClaim := { program := "ythdjbgbfboppcaadoor", sum := "2a111d6137f8e4d6d9edd47027b5933f5f18e3e722ed19e0301e99fd370fdd6e", func := "epitome/epitomelaw14.WordsSize", spec := "wordsSize", unfollowed := true, recurses := true, named := ["epitome/span.kinds", "unicode/utf8.first", "unicode/utf8.acceptRanges"], apart := false, laid := [("unicode/utf8.acceptRanges", laid_unicode_utf8_acceptRanges), ("epitome/span.kinds", laid_epitome_span_kinds), ("unicode/utf8.first", laid_unicode_utf8_first)] }
def WordsSizeSaid : Prop := wordsSizeRow.holds Tryd.pinned (OpenSpec.ofChange wordsSizeSpec)

/-- ITS FALSE NEIGHBOUR: 'it returns false'. Refute it at one input. -/
def wordsSizeWrong : ChangeSpec := { name := "wordsSize", fn := fun _ => fun
  | [d1, d2] => { results := [.lit (.bool false)], args := [d1, d2] }
  | _ => none }
def WordsSizeWrongFalsely : Prop := wordsSizeRow.holds Tryd.pinned (OpenSpec.ofChange wordsSizeWrong)

/-- 'epitomelaw21.FileAll': WHATEVER THE INPUT: true; the input reads as it did. -/
def fileAllSpec : ChangeSpec := { name := "fileAll", fn := fun _ => fun
  | [d1, d2] => { results := [.lit (.bool true)], args := [d1, d2] }
  | _ => none }
def fileAllRow : OpenClaim := { program := "ythdjbgbfboppcaadoor", sum := "2a111d6137f8e4d6d9edd47027b5933f5f18e3e722ed19e0301e99fd370fdd6e", func := "epitome/epitomelaw21.FileAll", spec := "fileAll", unfollowed := true, recurses := true, named := ["unicode/utf8.first", "unicode/utf8.acceptRanges", "epitome/span.kinds"], apart := false, laid := [("unicode/utf8.acceptRanges", laid_unicode_utf8_acceptRanges), ("epitome/span.kinds", laid_epitome_span_kinds), ("unicode/utf8.first", laid_unicode_utf8_first)] }
def FileAllSaid : Prop := fileAllRow.holds Tryd.pinned (OpenSpec.ofChange fileAllSpec)

/-- ITS FALSE NEIGHBOUR: 'it returns false'. Refute it at one input. -/
def fileAllWrong : ChangeSpec := { name := "fileAll", fn := fun _ => fun
  | [d1, d2] => { results := [.lit (.bool false)], args := [d1, d2] }
  | _ => none }
def FileAllWrongFalsely : Prop := fileAllRow.holds Tryd.pinned (OpenSpec.ofChange fileAllWrong)

/-- 'epitomelaw21.FileTaken': WHATEVER THE INPUT: true; the input reads as it did. -/
def fileTakenSpec : ChangeSpec := { name := "fileTaken", fn := fun _ => fun
  | [d] => { results := [.lit (.bool true)], args := [d] }
  | _ => none }
def fileTakenRow : OpenClaim := { program := "ythdjbgbfboppcaadoor", sum := "2a111d6137f8e4d6d9edd47027b5933f5f18e3e722ed19e0301e99fd370fdd6e", func := "epitome/epitomelaw21.FileTaken", spec := "fileTaken", unfollowed := true, recurses := true, named := ["unicode/utf8.first", "unicode/utf8.acceptRanges", "epitome/span.kinds"], apart := false, laid := [("unicode/utf8.acceptRanges", laid_unicode_utf8_acceptRanges), ("epitome/span.kinds", laid_epitome_span_kinds), ("unicode/utf8.first", laid_unicode_utf8_first)] }
def FileTakenSaid : Prop := fileTakenRow.holds Tryd.pinned (OpenSpec.ofChange fileTakenSpec)

/-- ITS FALSE NEIGHBOUR: 'it returns false'. Refute it at one input. -/
def fileTakenWrong : ChangeSpec := { name := "fileTaken", fn := fun _ => fun
  | [d] => { results := [.lit (.bool false)], args := [d] }
  | _ => none }
def FileTakenWrongFalsely : Prop := fileTakenRow.holds Tryd.pinned (OpenSpec.ofChange fileTakenWrong)

/-- 'epitomelaw21.FileBig': WHATEVER THE INPUT: true; the input reads as it did. -/
def fileBigSpec : ChangeSpec := { name := "fileBig", fn := fun _ => fun
  | [d1, d2] => { results := [.lit (.bool true)], args := [d1, d2] }
  | _ => none }
def fileBigRow : OpenClaim := { program := "ythdjbgbfboppcaadoor", sum := "2a111d6137f8e4d6d9edd47027b5933f5f18e3e722ed19e0301e99fd370fdd6e", func := "epitome/epitomelaw21.FileBig", spec := "fileBig", unfollowed := true, recurses := true, named := ["unicode/utf8.first", "unicode/utf8.acceptRanges", "epitome/span.kinds"], apart := false, laid := [("unicode/utf8.acceptRanges", laid_unicode_utf8_acceptRanges), ("epitome/span.kinds", laid_epitome_span_kinds), ("unicode/utf8.first", laid_unicode_utf8_first)] }
def FileBigSaid : Prop := fileBigRow.holds Tryd.pinned (OpenSpec.ofChange fileBigSpec)

/-- ITS FALSE NEIGHBOUR: 'it returns false'. Refute it at one input. -/
def fileBigWrong : ChangeSpec := { name := "fileBig", fn := fun _ => fun
  | [d1, d2] => { results := [.lit (.bool false)], args := [d1, d2] }
  | _ => none }
def FileBigWrongFalsely : Prop := fileBigRow.holds Tryd.pinned (OpenSpec.ofChange fileBigWrong)

/-- 'epitomelaw21.FileParts': WHATEVER THE INPUT: true; the input reads as it did. -/
def filePartsSpec : ChangeSpec := { name := "fileParts", fn := fun _ => fun
  | [d1, d2] => { results := [.lit (.bool true)], args := [d1, d2] }
  | _ => none }
def filePartsRow : OpenClaim := { program := "ythdjbgbfboppcaadoor", sum := "2a111d6137f8e4d6d9edd47027b5933f5f18e3e722ed19e0301e99fd370fdd6e", func := "epitome/epitomelaw21.FileParts", spec := "fileParts", unfollowed := true, recurses := true, named := ["unicode/utf8.first", "unicode/utf8.acceptRanges", "epitome/span.kinds"], apart := false, laid := [("unicode/utf8.acceptRanges", laid_unicode_utf8_acceptRanges), ("epitome/span.kinds", laid_epitome_span_kinds), ("unicode/utf8.first", laid_unicode_utf8_first)] }
def FilePartsSaid : Prop := filePartsRow.holds Tryd.pinned (OpenSpec.ofChange filePartsSpec)

/-- ITS FALSE NEIGHBOUR: 'it returns false'. Refute it at one input. -/
def filePartsWrong : ChangeSpec := { name := "fileParts", fn := fun _ => fun
  | [d1, d2] => { results := [.lit (.bool false)], args := [d1, d2] }
  | _ => none }
def FilePartsWrongFalsely : Prop := filePartsRow.holds Tryd.pinned (OpenSpec.ofChange filePartsWrong)

/-- 'epitomelaw21.FileOdd': WHATEVER THE INPUT: true; the input reads as it did. -/
def fileOddSpec : ChangeSpec := { name := "fileOdd", fn := fun _ => fun
  | [d1, d2, d3] => { results := [.lit (.bool true)], args := [d1, d2, d3] }
  | _ => none }
def fileOddRow : OpenClaim := { program := "ythdjbgbfboppcaadoor", sum := "2a111d6137f8e4d6d9edd47027b5933f5f18e3e722ed19e0301e99fd370fdd6e", func := "epitome/epitomelaw21.FileOdd", spec := "fileOdd", unfollowed := true, recurses := true, named := ["unicode/utf8.first", "unicode/utf8.acceptRanges", "epitome/span.kinds"], apart := false, laid := [("unicode/utf8.acceptRanges", laid_unicode_utf8_acceptRanges), ("epitome/span.kinds", laid_epitome_span_kinds), ("unicode/utf8.first", laid_unicode_utf8_first)] }
def FileOddSaid : Prop := fileOddRow.holds Tryd.pinned (OpenSpec.ofChange fileOddSpec)

/-- ITS FALSE NEIGHBOUR: 'it returns false'. Refute it at one input. -/
def fileOddWrong : ChangeSpec := { name := "fileOdd", fn := fun _ => fun
  | [d1, d2, d3] => { results := [.lit (.bool false)], args := [d1, d2, d3] }
  | _ => none }
def FileOddWrongFalsely : Prop := fileOddRow.holds Tryd.pinned (OpenSpec.ofChange fileOddWrong)

/-- 'epitomelaw21.FileBack': WHATEVER THE INPUT: true; the input reads as it did. -/
def fileBackSpec : ChangeSpec := { name := "fileBack", fn := fun _ => fun
  | [d1, d2, d3] => { results := [.lit (.bool true)], args := [d1, d2, d3] }
  | _ => none }
def fileBackRow : OpenClaim := { program := "ythdjbgbfboppcaadoor", sum := "2a111d6137f8e4d6d9edd47027b5933f5f18e3e722ed19e0301e99fd370fdd6e", func := "epitome/epitomelaw21.FileBack", spec := "fileBack", unfollowed := true, recurses := true, named := ["unicode/utf8.first", "unicode/utf8.acceptRanges", "epitome/span.kinds"], apart := false, laid := [("unicode/utf8.acceptRanges", laid_unicode_utf8_acceptRanges), ("epitome/span.kinds", laid_epitome_span_kinds), ("unicode/utf8.first", laid_unicode_utf8_first)] }
def FileBackSaid : Prop := fileBackRow.holds Tryd.pinned (OpenSpec.ofChange fileBackSpec)

/-- ITS FALSE NEIGHBOUR: 'it returns false'. Refute it at one input. -/
def fileBackWrong : ChangeSpec := { name := "fileBack", fn := fun _ => fun
  | [d1, d2, d3] => { results := [.lit (.bool false)], args := [d1, d2, d3] }
  | _ => none }
def FileBackWrongFalsely : Prop := fileBackRow.holds Tryd.pinned (OpenSpec.ofChange fileBackWrong)

/- THE SECOND FORM. 'bulk': how many values and letters a reading holds, each counted each time it is reached (what is shared counts as often as it is met; a slice's spare places count too). A statement '..UptoSaid' is the law's where the arguments, and the package variables that the reading takes, are together of bulk at most 1048576: NARROWER than '..Said'. Prove '..Said' where nothing that the law and all that it calls make is longer than what came in: it says more and counts as full. Else prove '..UptoSaid'. A law counts once. -/
mutual
def uptoBulk {H : Type} : DataW H → Nat
  | .lit (.string bytes) => bytes.length + 1
  | .lit _ => 1
  | .nil => 1
  | .ptr d => uptoBulk d + 1
  | .slice elems spare => uptoBulkAll elems + uptoBulkAll spare + 1
  | .agg parts => uptoBulkAll parts + 1
  | .iface _ d => uptoBulk d + 1
  | .map entries => uptoBulkEntries entries + 1
  | .held _ => 1
def uptoBulkAll {H : Type} : List (DataW H) → Nat
  | [] => 0
  | d :: r => uptoBulk d + uptoBulkAll r
def uptoBulkEntries {H : Type} : List (Lit × DataW H) → Nat
  | [] => 0
  | x :: r => uptoBulkEntry x + uptoBulkEntries r
def uptoBulkEntry {H : Type} : Lit × DataW H → Nat
  | (.string bytes, d) => bytes.length + uptoBulk d + 1
  | (_, d) => uptoBulk d + 1
 end
def uptoSmall : (H : Type) → List (DataW H) → Bool := fun _ ds => decide (uptoBulkAll ds ≤ 1048576)
def OpenSpec.upto (s : _root_.Go.ChangeSpec) : _root_.Go.OpenSpec := { _root_.Go.OpenSpec.ofChange s with cond := some uptoSmall }

/-- 'epitomelaw14.WordsTaken', WHERE WHAT IT READS IS OF BULK AT MOST 1048576: true; the input reads as it did. -/
def wordsTakenUptoRow : OpenClaim := { program := "ythdjbgbfboppcaadoor", sum := "2a111d6137f8e4d6d9edd47027b5933f5f18e3e722ed19e0301e99fd370fdd6e", func := "epitome/epitomelaw14.WordsTaken", spec := "wordsTaken", unfollowed := true, recurses := true, named := ["epitome/span.kinds", "unicode/utf8.first", "unicode/utf8.acceptRanges"], apart := false, laid := [("unicode/utf8.acceptRanges", laid_unicode_utf8_acceptRanges), ("epitome/span.kinds", laid_epitome_span_kinds), ("unicode/utf8.first", laid_unicode_utf8_first)], narrowed := true }
def WordsTakenUptoSaid : Prop := wordsTakenUptoRow.holds Tryd.pinned (OpenSpec.upto wordsTakenSpec)

/-- 'epitomelaw14.WordsOdd', WHERE WHAT IT READS IS OF BULK AT MOST 1048576: true; the input reads as it did. -/
def wordsOddUptoRow : OpenClaim := { program := "ythdjbgbfboppcaadoor", sum := "2a111d6137f8e4d6d9edd47027b5933f5f18e3e722ed19e0301e99fd370fdd6e", func := "epitome/epitomelaw14.WordsOdd", spec := "wordsOdd", unfollowed := true, recurses := true, named := ["epitome/span.kinds", "unicode/utf8.first", "unicode/utf8.acceptRanges"], apart := false, laid := [("unicode/utf8.acceptRanges", laid_unicode_utf8_acceptRanges), ("epitome/span.kinds", laid_epitome_span_kinds), ("unicode/utf8.first", laid_unicode_utf8_first)], narrowed := true }
def WordsOddUptoSaid : Prop := wordsOddUptoRow.holds Tryd.pinned (OpenSpec.upto wordsOddSpec)

/-- 'epitomelaw16.ChainSpoilt', WHERE WHAT IT READS IS OF BULK AT MOST 1048576: true; the input reads as it did. -/
def chainSpoiltUptoRow : OpenClaim := { program := "ythdjbgbfboppcaadoor", sum := "2a111d6137f8e4d6d9edd47027b5933f5f18e3e722ed19e0301e99fd370fdd6e", func := "epitome/epitomelaw16.ChainSpoilt", spec := "chainSpoilt", unfollowed := true, recurses := true, named := ["unicode/utf8.first", "unicode/utf8.acceptRanges", "epitome/span.kinds"], apart := false, laid := [("unicode/utf8.acceptRanges", laid_unicode_utf8_acceptRanges), ("epitome/span.kinds", laid_epitome_span_kinds), ("unicode/utf8.first", laid_unicode_utf8_first)], narrowed := true }
def ChainSpoiltUptoSaid : Prop := chainSpoiltUptoRow.holds Tryd.pinned (OpenSpec.upto chainSpoiltSpec)

/-- 'epitomelaw16.ChainCut', WHERE WHAT IT READS IS OF BULK AT MOST 1048576: true; the input reads as it did. -/
def chainCutUptoRow : OpenClaim := { program := "ythdjbgbfboppcaadoor", sum := "2a111d6137f8e4d6d9edd47027b5933f5f18e3e722ed19e0301e99fd370fdd6e", func := "epitome/epitomelaw16.ChainCut", spec := "chainCut", unfollowed := true, recurses := true, named := ["unicode/utf8.first", "unicode/utf8.acceptRanges", "epitome/span.kinds"], apart := false, laid := [("unicode/utf8.acceptRanges", laid_unicode_utf8_acceptRanges), ("epitome/span.kinds", laid_epitome_span_kinds), ("unicode/utf8.first", laid_unicode_utf8_first)], narrowed := true }
def ChainCutUptoSaid : Prop := chainCutUptoRow.holds Tryd.pinned (OpenSpec.upto chainCutSpec)

/-- 'epitomelaw16.ChainAll', WHERE WHAT IT READS IS OF BULK AT MOST 1048576: true; the input reads as it did. -/
def chainAllUptoRow : OpenClaim := { program := "ythdjbgbfboppcaadoor", sum := "2a111d6137f8e4d6d9edd47027b5933f5f18e3e722ed19e0301e99fd370fdd6e", func := "epitome/epitomelaw16.ChainAll", spec := "chainAll", unfollowed := true, recurses := true, named := ["unicode/utf8.first", "unicode/utf8.acceptRanges", "epitome/span.kinds"], apart := false, laid := [("unicode/utf8.acceptRanges", laid_unicode_utf8_acceptRanges), ("epitome/span.kinds", laid_epitome_span_kinds), ("unicode/utf8.first", laid_unicode_utf8_first)], narrowed := true }
def ChainAllUptoSaid : Prop := chainAllUptoRow.holds Tryd.pinned (OpenSpec.upto chainAllSpec)

/-- 'epitomelaw16.ChainTexts', WHERE WHAT IT READS IS OF BULK AT MOST 1048576: true; the input reads as it did. -/
def chainTextsUptoRow : OpenClaim := { program := "ythdjbgbfboppcaadoor", sum := "2a111d6137f8e4d6d9edd47027b5933f5f18e3e722ed19e0301e99fd370fdd6e", func := "epitome/epitomelaw16.ChainTexts", spec := "chainTexts", unfollowed := true, recurses := true, named := ["unicode/utf8.first", "unicode/utf8.acceptRanges", "epitome/span.kinds"], apart := false, laid := [("unicode/utf8.acceptRanges", laid_unicode_utf8_acceptRanges), ("epitome/span.kinds", laid_epitome_span_kinds), ("unicode/utf8.first", laid_unicode_utf8_first)], narrowed := true }
def ChainTextsUptoSaid : Prop := chainTextsUptoRow.holds Tryd.pinned (OpenSpec.upto chainTextsSpec)

/-- 'epitomelaw16.ChainAlone', WHERE WHAT IT READS IS OF BULK AT MOST 1048576: true; the input reads as it did. -/
def chainAloneUptoRow : OpenClaim := { program := "ythdjbgbfboppcaadoor", sum := "2a111d6137f8e4d6d9edd47027b5933f5f18e3e722ed19e0301e99fd370fdd6e", func := "epitome/epitomelaw16.ChainAlone", spec := "chainAlone", unfollowed := true, recurses := true, named := ["unicode/utf8.first", "unicode/utf8.acceptRanges", "epitome/span.kinds"], apart := false, laid := [("unicode/utf8.acceptRanges", laid_unicode_utf8_acceptRanges), ("epitome/span.kinds", laid_epitome_span_kinds), ("unicode/utf8.first", laid_unicode_utf8_first)], narrowed := true }
def ChainAloneUptoSaid : Prop := chainAloneUptoRow.holds Tryd.pinned (OpenSpec.upto chainAloneSpec)

/-- 'epitomelaw16.ChainNumbers', WHERE WHAT IT READS IS OF BULK AT MOST 1048576: true; the input reads as it did. -/
def chainNumbersUptoRow : OpenClaim := { program := "ythdjbgbfboppcaadoor", sum := "2a111d6137f8e4d6d9edd47027b5933f5f18e3e722ed19e0301e99fd370fdd6e", func := "epitome/epitomelaw16.ChainNumbers", spec := "chainNumbers", unfollowed := true, recurses := true, named := ["unicode/utf8.first", "unicode/utf8.acceptRanges", "epitome/span.kinds"], apart := false, laid := [("unicode/utf8.acceptRanges", laid_unicode_utf8_acceptRanges), ("epitome/span.kinds", laid_epitome_span_kinds), ("unicode/utf8.first", laid_unicode_utf8_first)], narrowed := true }
def ChainNumbersUptoSaid : Prop := chainNumbersUptoRow.holds Tryd.pinned (OpenSpec.upto chainNumbersSpec)

/-- 'epitomelaw14.WordsAll', WHERE WHAT IT READS IS OF BULK AT MOST 1048576: true; the input reads as it did. -/
def wordsAllUptoRow : OpenClaim := { program := "ythdjbgbfboppcaadoor", sum := "2a111d6137f8e4d6d9edd47027b5933f5f18e3e722ed19e0301e99fd370fdd6e", func := "epitome/epitomelaw14.WordsAll", spec := "wordsAll", unfollowed := true, recurses := true, named := ["epitome/span.kinds", "unicode/utf8.first", "unicode/utf8.acceptRanges"], apart := false, laid := [("unicode/utf8.acceptRanges", laid_unicode_utf8_acceptRanges), ("epitome/span.kinds", laid_epitome_span_kinds), ("unicode/utf8.first", laid_unicode_utf8_first)], narrowed := true }
def WordsAllUptoSaid : Prop := wordsAllUptoRow.holds Tryd.pinned (OpenSpec.upto wordsAllSpec)

/-- 'epitomelaw14.WordsBack', WHERE WHAT IT READS IS OF BULK AT MOST 1048576: true; the input reads as it did. -/
def wordsBackUptoRow : OpenClaim := { program := "ythdjbgbfboppcaadoor", sum := "2a111d6137f8e4d6d9edd47027b5933f5f18e3e722ed19e0301e99fd370fdd6e", func := "epitome/epitomelaw14.WordsBack", spec := "wordsBack", unfollowed := true, recurses := true, named := ["epitome/span.kinds", "unicode/utf8.first", "unicode/utf8.acceptRanges"], apart := false, laid := [("unicode/utf8.acceptRanges", laid_unicode_utf8_acceptRanges), ("epitome/span.kinds", laid_epitome_span_kinds), ("unicode/utf8.first", laid_unicode_utf8_first)], narrowed := true }
def WordsBackUptoSaid : Prop := wordsBackUptoRow.holds Tryd.pinned (OpenSpec.upto wordsBackSpec)

/-- 'epitomelaw14.WordsRow', WHERE WHAT IT READS IS OF BULK AT MOST 1048576: true; the input reads as it did. -/
def wordsRowUptoRow : OpenClaim := { program := "ythdjbgbfboppcaadoor", sum := "2a111d6137f8e4d6d9edd47027b5933f5f18e3e722ed19e0301e99fd370fdd6e", func := "epitome/epitomelaw14.WordsRow", spec := "wordsRow", unfollowed := true, recurses := true, named := ["epitome/span.kinds", "unicode/utf8.first", "unicode/utf8.acceptRanges"], apart := false, laid := [("unicode/utf8.acceptRanges", laid_unicode_utf8_acceptRanges), ("epitome/span.kinds", laid_epitome_span_kinds), ("unicode/utf8.first", laid_unicode_utf8_first)], narrowed := true }
def WordsRowUptoSaid : Prop := wordsRowUptoRow.holds Tryd.pinned (OpenSpec.upto wordsRowSpec)

/-- 'epitomelaw14.WordsSize', WHERE WHAT IT READS IS OF BULK AT MOST 1048576: true; the input reads as it did. -/
def wordsSizeUptoRow : OpenClaim := { program := "ythdjbgbfboppcaadoor", sum := "2a111d6137f8e4d6d9edd47027b5933f5f18e3e722ed19e0301e99fd370fdd6e", func := "epitome/epitomelaw14.WordsSize", spec := "wordsSize", unfollowed := true, recurses := true, named := ["epitome/span.kinds", "unicode/utf8.first", "unicode/utf8.acceptRanges"], apart := false, laid := [("unicode/utf8.acceptRanges", laid_unicode_utf8_acceptRanges), ("epitome/span.kinds", laid_epitome_span_kinds), ("unicode/utf8.first", laid_unicode_utf8_first)], narrowed := true }
def WordsSizeUptoSaid : Prop := wordsSizeUptoRow.holds Tryd.pinned (OpenSpec.upto wordsSizeSpec)

/-- 'epitomelaw21.FileAll', WHERE WHAT IT READS IS OF BULK AT MOST 1048576: true; the input reads as it did. -/
def fileAllUptoRow : OpenClaim := { program := "ythdjbgbfboppcaadoor", sum := "2a111d6137f8e4d6d9edd47027b5933f5f18e3e722ed19e0301e99fd370fdd6e", func := "epitome/epitomelaw21.FileAll", spec := "fileAll", unfollowed := true, recurses := true, named := ["unicode/utf8.first", "unicode/utf8.acceptRanges", "epitome/span.kinds"], apart := false, laid := [("unicode/utf8.acceptRanges", laid_unicode_utf8_acceptRanges), ("epitome/span.kinds", laid_epitome_span_kinds), ("unicode/utf8.first", laid_unicode_utf8_first)], narrowed := true }
def FileAllUptoSaid : Prop := fileAllUptoRow.holds Tryd.pinned (OpenSpec.upto fileAllSpec)

/-- 'epitomelaw21.FileTaken', WHERE WHAT IT READS IS OF BULK AT MOST 1048576: true; the input reads as it did. -/
def fileTakenUptoRow : OpenClaim := { program := "ythdjbgbfboppcaadoor", sum := "2a111d6137f8e4d6d9edd47027b5933f5f18e3e722ed19e0301e99fd370fdd6e", func := "epitome/epitomelaw21.FileTaken", spec := "fileTaken", unfollowed := true, recurses := true, named := ["unicode/utf8.first", "unicode/utf8.acceptRanges", "epitome/span.kinds"], apart := false, laid := [("unicode/utf8.acceptRanges", laid_unicode_utf8_acceptRanges), ("epitome/span.kinds", laid_epitome_span_kinds), ("unicode/utf8.first", laid_unicode_utf8_first)], narrowed := true }
def FileTakenUptoSaid : Prop := fileTakenUptoRow.holds Tryd.pinned (OpenSpec.upto fileTakenSpec)

/-- 'epitomelaw21.FileBig', WHERE WHAT IT READS IS OF BULK AT MOST 1048576: true; the input reads as it did. -/
def fileBigUptoRow : OpenClaim := { program := "ythdjbgbfboppcaadoor", sum := "2a111d6137f8e4d6d9edd47027b5933f5f18e3e722ed19e0301e99fd370fdd6e", func := "epitome/epitomelaw21.FileBig", spec := "fileBig", unfollowed := true, recurses := true, named := ["unicode/utf8.first", "unicode/utf8.acceptRanges", "epitome/span.kinds"], apart := false, laid := [("unicode/utf8.acceptRanges", laid_unicode_utf8_acceptRanges), ("epitome/span.kinds", laid_epitome_span_kinds), ("unicode/utf8.first", laid_unicode_utf8_first)], narrowed := true }
def FileBigUptoSaid : Prop := fileBigUptoRow.holds Tryd.pinned (OpenSpec.upto fileBigSpec)

/-- 'epitomelaw21.FileParts', WHERE WHAT IT READS IS OF BULK AT MOST 1048576: true; the input reads as it did. -/
def filePartsUptoRow : OpenClaim := { program := "ythdjbgbfboppcaadoor", sum := "2a111d6137f8e4d6d9edd47027b5933f5f18e3e722ed19e0301e99fd370fdd6e", func := "epitome/epitomelaw21.FileParts", spec := "fileParts", unfollowed := true, recurses := true, named := ["unicode/utf8.first", "unicode/utf8.acceptRanges", "epitome/span.kinds"], apart := false, laid := [("unicode/utf8.acceptRanges", laid_unicode_utf8_acceptRanges), ("epitome/span.kinds", laid_epitome_span_kinds), ("unicode/utf8.first", laid_unicode_utf8_first)], narrowed := true }
def FilePartsUptoSaid : Prop := filePartsUptoRow.holds Tryd.pinned (OpenSpec.upto filePartsSpec)

/-- 'epitomelaw21.FileOdd', WHERE WHAT IT READS IS OF BULK AT MOST 1048576: true; the input reads as it did. -/
def fileOddUptoRow : OpenClaim := { program := "ythdjbgbfboppcaadoor", sum := "2a111d6137f8e4d6d9edd47027b5933f5f18e3e722ed19e0301e99fd370fdd6e", func := "epitome/epitomelaw21.FileOdd", spec := "fileOdd", unfollowed := true, recurses := true, named := ["unicode/utf8.first", "unicode/utf8.acceptRanges", "epitome/span.kinds"], apart := false, laid := [("unicode/utf8.acceptRanges", laid_unicode_utf8_acceptRanges), ("epitome/span.kinds", laid_epitome_span_kinds), ("unicode/utf8.first", laid_unicode_utf8_first)], narrowed := true }
def FileOddUptoSaid : Prop := fileOddUptoRow.holds Tryd.pinned (OpenSpec.upto fileOddSpec)

/-- 'epitomelaw21.FileBack', WHERE WHAT IT READS IS OF BULK AT MOST 1048576: true; the input reads as it did. -/
def fileBackUptoRow : OpenClaim := { program := "ythdjbgbfboppcaadoor", sum := "2a111d6137f8e4d6d9edd47027b5933f5f18e3e722ed19e0301e99fd370fdd6e", func := "epitome/epitomelaw21.FileBack", spec := "fileBack", unfollowed := true, recurses := true, named := ["unicode/utf8.first", "unicode/utf8.acceptRanges", "epitome/span.kinds"], apart := false, laid := [("unicode/utf8.acceptRanges", laid_unicode_utf8_acceptRanges), ("epitome/span.kinds", laid_epitome_span_kinds), ("unicode/utf8.first", laid_unicode_utf8_first)], narrowed := true }
def FileBackUptoSaid : Prop := fileBackUptoRow.holds Tryd.pinned (OpenSpec.upto fileBackSpec)

end Rows
end Go.Proofs.YthdjbgbfboppcaaDoor
