/-
  NARROWER THAN 'FOR EVERY INPUT', by the rows' own cells (each row's printed sentence says how): HistoryKeeps: laid · HistoryOver: laid · HistoryFirst: laid · FileAll: laid · FileTaken: laid · FileBig: laid · FileParts: laid · FileOdd: laid · HistoryPlays: laid · HistoryRuns: laid · CompactAll: laid · CompactTwice: laid · CompactEnds: laid · CompactRuns: laid · CompactFloor: laid · CompactTexts: laid · CompactLess: laid · CompactOver: laid · FileBack: laid.
  DERIVED. THE GIVEN ROWS OF THIS SEAT. 19 by the template 'for every input the law returns true; each argument reads behind the call as it read before'; 0 by the template 'total and deterministic' (their statements: YtadlnaljicikfaaDoorTotals.lean).
  GIVEN WITH THE SEED: the statements are not yours to turn. If you find one false, say at which input.
  Laid BY PROGRAM, IN A SANDBOX (cutbox-rows.mjs): the forced cells as the released guide's own fill.sh prints them over the translation 2e12ba12573d330f… (all of the seat's roots in one cut). By AI agents, Wed Nov 11 2026. No macro, syntax, notation, axiom, sorry.
-/
import Derived.Test.YtadlnaljicikfaaDoorChecked
import GoSem.PinnedTables
import GoSem.Claim
import GoSem.ClaimJoined
import GoSem.ClaimMapViews
import Derived.JoinedTies
import Derived.KernelRfl
namespace Go.Proofs.YtadlnaljicikfaaDoor
/- THE CELL 'sum', in the pinned program and in every row, IS THE sha256 OF THE DUMP (.gsa) THAT YtadlnaljicikfaaDoorProg.lean LOADS. Nothing in Lean hashes anything: it is a label: what it is worth is what the hold of that sum in a sandbox is worth. -/
noncomputable def Tryd.pinned : Pinned := { name := "ytadlnaljicikfaadoor", sum := "2e12ba12573d330f0fd2e5732981f4fa9004e01af5dfd78259af95409db3379a", checked := Tryd.checked }
namespace Rows
def none {H : Type} : Left H := { results := [], args := [] }

/- WHAT THE LISTED PACKAGE-LEVEL VARIABLES READ AS WHEN THE CALL BEGINS. Each datum BY PROGRAM (the guide's laid-datum.mjs) off the statement by which the dump's own 'gosem.cut.vars' lays the variable. In a bare row this is a premise. The card (YtadlnaljicikfaaDoorCards.lean) ties it to the program's text. -/
def laid_unicode_utf8_acceptRanges {H : Type} : DataW H := .agg [.agg [.lit (.int .u8 128), .lit (.int .u8 191)], .agg [.lit (.int .u8 160), .lit (.int .u8 191)], .agg [.lit (.int .u8 128), .lit (.int .u8 159)], .agg [.lit (.int .u8 144), .lit (.int .u8 191)], .agg [.lit (.int .u8 128), .lit (.int .u8 143)], .agg [.lit (.int .u8 0), .lit (.int .u8 0)], .agg [.lit (.int .u8 0), .lit (.int .u8 0)], .agg [.lit (.int .u8 0), .lit (.int .u8 0)], .agg [.lit (.int .u8 0), .lit (.int .u8 0)], .agg [.lit (.int .u8 0), .lit (.int .u8 0)], .agg [.lit (.int .u8 0), .lit (.int .u8 0)], .agg [.lit (.int .u8 0), .lit (.int .u8 0)], .agg [.lit (.int .u8 0), .lit (.int .u8 0)], .agg [.lit (.int .u8 0), .lit (.int .u8 0)], .agg [.lit (.int .u8 0), .lit (.int .u8 0)], .agg [.lit (.int .u8 0), .lit (.int .u8 0)]]
def laid_epitome_span_kinds {H : Type} : DataW H := .agg [.agg [.lit (.bool false), .lit (.bool false)], .agg [.lit (.bool true), .lit (.bool true)], .agg [.lit (.bool false), .lit (.bool false)], .agg [.lit (.bool true), .lit (.bool false)]]
/-- One of Go's own tables, pinned by name: the form's constant. -/
def laid_unicode_utf8_first : DataW Unit := Go.Pinned.utf8First

/-- 'epitomelaw17.HistoryKeeps': WHATEVER THE INPUT: true; the input reads as it did. -/
def historyKeepsSpec : ChangeSpec := { name := "historyKeeps", fn := fun _ => fun
  | [d1, d2, d3] => { results := [.lit (.bool true)], args := [d1, d2, d3] }
  | _ => none }
def historyKeepsRow : OpenClaim := { program := "ytadlnaljicikfaadoor", sum := "2e12ba12573d330f0fd2e5732981f4fa9004e01af5dfd78259af95409db3379a", func := "epitome/epitomelaw17.HistoryKeeps", spec := "historyKeeps", unfollowed := true, recurses := true, named := ["unicode/utf8.first", "unicode/utf8.acceptRanges", "epitome/span.kinds"], apart := false, laid := [("unicode/utf8.acceptRanges", laid_unicode_utf8_acceptRanges), ("epitome/span.kinds", laid_epitome_span_kinds), ("unicode/utf8.first", laid_unicode_utf8_first)] }
def HistoryKeepsSaid : Prop := historyKeepsRow.holds Tryd.pinned (OpenSpec.ofChange historyKeepsSpec)

/-- ITS FALSE NEIGHBOUR: 'it returns false'. Refute it at one input. -/
def historyKeepsWrong : ChangeSpec := { name := "historyKeeps", fn := fun _ => fun
  | [d1, d2, d3] => { results := [.lit (.bool false)], args := [d1, d2, d3] }
  | _ => none }
def HistoryKeepsWrongFalsely : Prop := historyKeepsRow.holds Tryd.pinned (OpenSpec.ofChange historyKeepsWrong)

/-- 'epitomelaw17.HistoryOver': WHATEVER THE INPUT: true; the input reads as it did. -/
def historyOverSpec : ChangeSpec := { name := "historyOver", fn := fun _ => fun
  | [d1, d2, d3] => { results := [.lit (.bool true)], args := [d1, d2, d3] }
  | _ => none }
def historyOverRow : OpenClaim := { program := "ytadlnaljicikfaadoor", sum := "2e12ba12573d330f0fd2e5732981f4fa9004e01af5dfd78259af95409db3379a", func := "epitome/epitomelaw17.HistoryOver", spec := "historyOver", unfollowed := true, recurses := true, named := ["unicode/utf8.first", "unicode/utf8.acceptRanges", "epitome/span.kinds"], apart := false, laid := [("unicode/utf8.acceptRanges", laid_unicode_utf8_acceptRanges), ("epitome/span.kinds", laid_epitome_span_kinds), ("unicode/utf8.first", laid_unicode_utf8_first)] }
def HistoryOverSaid : Prop := historyOverRow.holds Tryd.pinned (OpenSpec.ofChange historyOverSpec)

/-- ITS FALSE NEIGHBOUR: 'it returns false'. Refute it at one input. -/
def historyOverWrong : ChangeSpec := { name := "historyOver", fn := fun _ => fun
  | [d1, d2, d3] => { results := [.lit (.bool false)], args := [d1, d2, d3] }
  | _ => none }
def HistoryOverWrongFalsely : Prop := historyOverRow.holds Tryd.pinned (OpenSpec.ofChange historyOverWrong)

/-- 'epitomelaw17.HistoryFirst': WHATEVER THE INPUT: true; the input reads as it did. -/
def historyFirstSpec : ChangeSpec := { name := "historyFirst", fn := fun _ => fun
  | [d1, d2, d3] => { results := [.lit (.bool true)], args := [d1, d2, d3] }
  | _ => none }
def historyFirstRow : OpenClaim := { program := "ytadlnaljicikfaadoor", sum := "2e12ba12573d330f0fd2e5732981f4fa9004e01af5dfd78259af95409db3379a", func := "epitome/epitomelaw17.HistoryFirst", spec := "historyFirst", unfollowed := true, recurses := true, named := ["unicode/utf8.first", "unicode/utf8.acceptRanges", "epitome/span.kinds"], apart := false, laid := [("unicode/utf8.acceptRanges", laid_unicode_utf8_acceptRanges), ("epitome/span.kinds", laid_epitome_span_kinds), ("unicode/utf8.first", laid_unicode_utf8_first)] }
def HistoryFirstSaid : Prop := historyFirstRow.holds Tryd.pinned (OpenSpec.ofChange historyFirstSpec)

/-- ITS FALSE NEIGHBOUR: 'it returns false'. Refute it at one input. -/
def historyFirstWrong : ChangeSpec := { name := "historyFirst", fn := fun _ => fun
  | [d1, d2, d3] => { results := [.lit (.bool false)], args := [d1, d2, d3] }
  | _ => none }
def HistoryFirstWrongFalsely : Prop := historyFirstRow.holds Tryd.pinned (OpenSpec.ofChange historyFirstWrong)

/-- 'epitomelaw21.FileAll': WHATEVER THE INPUT: true; the input reads as it did. -/
def fileAllSpec : ChangeSpec := { name := "fileAll", fn := fun _ => fun
  | [d1, d2] => { results := [.lit (.bool true)], args := [d1, d2] }
  | _ => none }
def fileAllRow : OpenClaim := { program := "ytadlnaljicikfaadoor", sum := "2e12ba12573d330f0fd2e5732981f4fa9004e01af5dfd78259af95409db3379a", func := "epitome/epitomelaw21.FileAll", spec := "fileAll", unfollowed := true, recurses := true, named := ["unicode/utf8.first", "unicode/utf8.acceptRanges", "epitome/span.kinds"], apart := false, laid := [("unicode/utf8.acceptRanges", laid_unicode_utf8_acceptRanges), ("epitome/span.kinds", laid_epitome_span_kinds), ("unicode/utf8.first", laid_unicode_utf8_first)] }
def FileAllSaid : Prop := fileAllRow.holds Tryd.pinned (OpenSpec.ofChange fileAllSpec)

/-- ITS FALSE NEIGHBOUR: 'it returns false'. Refute it at one input. -/
def fileAllWrong : ChangeSpec := { name := "fileAll", fn := fun _ => fun
  | [d1, d2] => { results := [.lit (.bool false)], args := [d1, d2] }
  | _ => none }
def FileAllWrongFalsely : Prop := fileAllRow.holds Tryd.pinned (OpenSpec.ofChange fileAllWrong)

/-- 'epitomelaw21.FileTaken': WHATEVER THE INPUT: true; the input reads as it did. -/
def fileTakenSpec : ChangeSpec := { name := "fileTaken", fn := fun _ => fun
  | [d] => { results := [.lit (.bool true)], args := [d] }
  | _ => none }
def fileTakenRow : OpenClaim := { program := "ytadlnaljicikfaadoor", sum := "2e12ba12573d330f0fd2e5732981f4fa9004e01af5dfd78259af95409db3379a", func := "epitome/epitomelaw21.FileTaken", spec := "fileTaken", unfollowed := true, recurses := true, named := ["unicode/utf8.first", "unicode/utf8.acceptRanges", "epitome/span.kinds"], apart := false, laid := [("unicode/utf8.acceptRanges", laid_unicode_utf8_acceptRanges), ("epitome/span.kinds", laid_epitome_span_kinds), ("unicode/utf8.first", laid_unicode_utf8_first)] }
def FileTakenSaid : Prop := fileTakenRow.holds Tryd.pinned (OpenSpec.ofChange fileTakenSpec)

/-- ITS FALSE NEIGHBOUR: 'it returns false'. Refute it at one input. -/
def fileTakenWrong : ChangeSpec := { name := "fileTaken", fn := fun _ => fun
  | [d] => { results := [.lit (.bool false)], args := [d] }
  | _ => none }
def FileTakenWrongFalsely : Prop := fileTakenRow.holds Tryd.pinned (OpenSpec.ofChange fileTakenWrong)

/-- 'epitomelaw21.FileBig': WHATEVER THE INPUT: true; the input reads as it did. -/
def fileBigSpec : ChangeSpec := { name := "fileBig", fn := fun _ => fun
  | [d1, d2] => { results := [.lit (.bool true)], args := [d1, d2] }
  | _ => none }
def fileBigRow : OpenClaim := { program := "ytadlnaljicikfaadoor", sum := "2e12ba12573d330f0fd2e5732981f4fa9004e01af5dfd78259af95409db3379a", func := "epitome/epitomelaw21.FileBig", spec := "fileBig", unfollowed := true, recurses := true, named := ["unicode/utf8.first", "unicode/utf8.acceptRanges", "epitome/span.kinds"], apart := false, laid := [("unicode/utf8.acceptRanges", laid_unicode_utf8_acceptRanges), ("epitome/span.kinds", laid_epitome_span_kinds), ("unicode/utf8.first", laid_unicode_utf8_first)] }
def FileBigSaid : Prop := fileBigRow.holds Tryd.pinned (OpenSpec.ofChange fileBigSpec)

/-- ITS FALSE NEIGHBOUR: 'it returns false'. Refute it at one input. -/
def fileBigWrong : ChangeSpec := { name := "fileBig", fn := fun _ => fun
  | [d1, d2] => { results := [.lit (.bool false)], args := [d1, d2] }
  | _ => none }
def FileBigWrongFalsely : Prop := fileBigRow.holds Tryd.pinned (OpenSpec.ofChange fileBigWrong)

/-- 'epitomelaw21.FileParts': WHATEVER THE INPUT: true; the input reads as it did. -/
def filePartsSpec : ChangeSpec := { name := "fileParts", fn := fun _ => fun
  | [d1, d2] => { results := [.lit (.bool true)], args := [d1, d2] }
  | _ => none }
def filePartsRow : OpenClaim := { program := "ytadlnaljicikfaadoor", sum := "2e12ba12573d330f0fd2e5732981f4fa9004e01af5dfd78259af95409db3379a", func := "epitome/epitomelaw21.FileParts", spec := "fileParts", unfollowed := true, recurses := true, named := ["unicode/utf8.first", "unicode/utf8.acceptRanges", "epitome/span.kinds"], apart := false, laid := [("unicode/utf8.acceptRanges", laid_unicode_utf8_acceptRanges), ("epitome/span.kinds", laid_epitome_span_kinds), ("unicode/utf8.first", laid_unicode_utf8_first)] }
def FilePartsSaid : Prop := filePartsRow.holds Tryd.pinned (OpenSpec.ofChange filePartsSpec)

/-- ITS FALSE NEIGHBOUR: 'it returns false'. Refute it at one input. -/
def filePartsWrong : ChangeSpec := { name := "fileParts", fn := fun _ => fun
  | [d1, d2] => { results := [.lit (.bool false)], args := [d1, d2] }
  | _ => none }
def FilePartsWrongFalsely : Prop := filePartsRow.holds Tryd.pinned (OpenSpec.ofChange filePartsWrong)

/-- 'epitomelaw21.FileOdd': WHATEVER THE INPUT: true; the input reads as it did. -/
def fileOddSpec : ChangeSpec := { name := "fileOdd", fn := fun _ => fun
  | [d1, d2, d3] => { results := [.lit (.bool true)], args := [d1, d2, d3] }
  | _ => none }
def fileOddRow : OpenClaim := { program := "ytadlnaljicikfaadoor", sum := "2e12ba12573d330f0fd2e5732981f4fa9004e01af5dfd78259af95409db3379a", func := "epitome/epitomelaw21.FileOdd", spec := "fileOdd", unfollowed := true, recurses := true, named := ["unicode/utf8.first", "unicode/utf8.acceptRanges", "epitome/span.kinds"], apart := false, laid := [("unicode/utf8.acceptRanges", laid_unicode_utf8_acceptRanges), ("epitome/span.kinds", laid_epitome_span_kinds), ("unicode/utf8.first", laid_unicode_utf8_first)] }
def FileOddSaid : Prop := fileOddRow.holds Tryd.pinned (OpenSpec.ofChange fileOddSpec)

/-- ITS FALSE NEIGHBOUR: 'it returns false'. Refute it at one input. -/
def fileOddWrong : ChangeSpec := { name := "fileOdd", fn := fun _ => fun
  | [d1, d2, d3] => { results := [.lit (.bool false)], args := [d1, d2, d3] }
  | _ => none }
def FileOddWrongFalsely : Prop := fileOddRow.holds Tryd.pinned (OpenSpec.ofChange fileOddWrong)

/-- 'epitomelaw17.HistoryPlays': WHATEVER THE INPUT: true; the input reads as it did. -/
def historyPlaysSpec : ChangeSpec := { name := "historyPlays", fn := fun _ => fun
  | [d1, d2, d3] => { results := [.lit (.bool true)], args := [d1, d2, d3] }
  | _ => none }
def historyPlaysRow : OpenClaim := { program := "ytadlnaljicikfaadoor", sum := "2e12ba12573d330f0fd2e5732981f4fa9004e01af5dfd78259af95409db3379a", func := "epitome/epitomelaw17.HistoryPlays", spec := "historyPlays", unfollowed := true, recurses := true, named := ["unicode/utf8.first", "unicode/utf8.acceptRanges", "epitome/span.kinds"], apart := false, laid := [("unicode/utf8.acceptRanges", laid_unicode_utf8_acceptRanges), ("epitome/span.kinds", laid_epitome_span_kinds), ("unicode/utf8.first", laid_unicode_utf8_first)] }
def HistoryPlaysSaid : Prop := historyPlaysRow.holds Tryd.pinned (OpenSpec.ofChange historyPlaysSpec)

/-- ITS FALSE NEIGHBOUR: 'it returns false'. Refute it at one input. -/
def historyPlaysWrong : ChangeSpec := { name := "historyPlays", fn := fun _ => fun
  | [d1, d2, d3] => { results := [.lit (.bool false)], args := [d1, d2, d3] }
  | _ => none }
def HistoryPlaysWrongFalsely : Prop := historyPlaysRow.holds Tryd.pinned (OpenSpec.ofChange historyPlaysWrong)

/-- 'epitomelaw17.HistoryRuns': WHATEVER THE INPUT: true; the input reads as it did. -/
def historyRunsSpec : ChangeSpec := { name := "historyRuns", fn := fun _ => fun
  | [d1, d2] => { results := [.lit (.bool true)], args := [d1, d2] }
  | _ => none }
def historyRunsRow : OpenClaim := { program := "ytadlnaljicikfaadoor", sum := "2e12ba12573d330f0fd2e5732981f4fa9004e01af5dfd78259af95409db3379a", func := "epitome/epitomelaw17.HistoryRuns", spec := "historyRuns", unfollowed := true, recurses := true, named := ["unicode/utf8.first", "unicode/utf8.acceptRanges", "epitome/span.kinds"], apart := false, laid := [("unicode/utf8.acceptRanges", laid_unicode_utf8_acceptRanges), ("epitome/span.kinds", laid_epitome_span_kinds), ("unicode/utf8.first", laid_unicode_utf8_first)] }
def HistoryRunsSaid : Prop := historyRunsRow.holds Tryd.pinned (OpenSpec.ofChange historyRunsSpec)

/-- ITS FALSE NEIGHBOUR: 'it returns false'. Refute it at one input. -/
def historyRunsWrong : ChangeSpec := { name := "historyRuns", fn := fun _ => fun
  | [d1, d2] => { results := [.lit (.bool false)], args := [d1, d2] }
  | _ => none }
def HistoryRunsWrongFalsely : Prop := historyRunsRow.holds Tryd.pinned (OpenSpec.ofChange historyRunsWrong)

/-- 'epitomelaw20.CompactAll': WHATEVER THE INPUT: true; the input reads as it did. -/
def compactAllSpec : ChangeSpec := { name := "compactAll", fn := fun _ => fun
  | [d1, d2] => { results := [.lit (.bool true)], args := [d1, d2] }
  | _ => none }
def compactAllRow : OpenClaim := { program := "ytadlnaljicikfaadoor", sum := "2e12ba12573d330f0fd2e5732981f4fa9004e01af5dfd78259af95409db3379a", func := "epitome/epitomelaw20.CompactAll", spec := "compactAll", unfollowed := true, recurses := true, named := ["unicode/utf8.first", "unicode/utf8.acceptRanges", "epitome/span.kinds"], apart := false, laid := [("unicode/utf8.acceptRanges", laid_unicode_utf8_acceptRanges), ("epitome/span.kinds", laid_epitome_span_kinds), ("unicode/utf8.first", laid_unicode_utf8_first)] }
def CompactAllSaid : Prop := compactAllRow.holds Tryd.pinned (OpenSpec.ofChange compactAllSpec)

/-- ITS FALSE NEIGHBOUR: 'it returns false'. Refute it at one input. -/
def compactAllWrong : ChangeSpec := { name := "compactAll", fn := fun _ => fun
  | [d1, d2] => { results := [.lit (.bool false)], args := [d1, d2] }
  | _ => none }
def CompactAllWrongFalsely : Prop := compactAllRow.holds Tryd.pinned (OpenSpec.ofChange compactAllWrong)

/-- 'epitomelaw20.CompactTwice': WHATEVER THE INPUT: true; the input reads as it did. -/
def compactTwiceSpec : ChangeSpec := { name := "compactTwice", fn := fun _ => fun
  | [d1, d2, d3] => { results := [.lit (.bool true)], args := [d1, d2, d3] }
  | _ => none }
def compactTwiceRow : OpenClaim := { program := "ytadlnaljicikfaadoor", sum := "2e12ba12573d330f0fd2e5732981f4fa9004e01af5dfd78259af95409db3379a", func := "epitome/epitomelaw20.CompactTwice", spec := "compactTwice", unfollowed := true, recurses := true, named := ["unicode/utf8.first", "unicode/utf8.acceptRanges", "epitome/span.kinds"], apart := false, laid := [("unicode/utf8.acceptRanges", laid_unicode_utf8_acceptRanges), ("epitome/span.kinds", laid_epitome_span_kinds), ("unicode/utf8.first", laid_unicode_utf8_first)] }
def CompactTwiceSaid : Prop := compactTwiceRow.holds Tryd.pinned (OpenSpec.ofChange compactTwiceSpec)

/-- ITS FALSE NEIGHBOUR: 'it returns false'. Refute it at one input. -/
def compactTwiceWrong : ChangeSpec := { name := "compactTwice", fn := fun _ => fun
  | [d1, d2, d3] => { results := [.lit (.bool false)], args := [d1, d2, d3] }
  | _ => none }
def CompactTwiceWrongFalsely : Prop := compactTwiceRow.holds Tryd.pinned (OpenSpec.ofChange compactTwiceWrong)

/-- 'epitomelaw20.CompactEnds': WHATEVER THE INPUT: true; the input reads as it did. -/
def compactEndsSpec : ChangeSpec := { name := "compactEnds", fn := fun _ => fun
  | [d1, d2, d3] => { results := [.lit (.bool true)], args := [d1, d2, d3] }
  | _ => none }
def compactEndsRow : OpenClaim := { program := "ytadlnaljicikfaadoor", sum := "2e12ba12573d330f0fd2e5732981f4fa9004e01af5dfd78259af95409db3379a", func := "epitome/epitomelaw20.CompactEnds", spec := "compactEnds", unfollowed := true, recurses := true, named := ["unicode/utf8.first", "unicode/utf8.acceptRanges", "epitome/span.kinds"], apart := false, laid := [("unicode/utf8.acceptRanges", laid_unicode_utf8_acceptRanges), ("epitome/span.kinds", laid_epitome_span_kinds), ("unicode/utf8.first", laid_unicode_utf8_first)] }
def CompactEndsSaid : Prop := compactEndsRow.holds Tryd.pinned (OpenSpec.ofChange compactEndsSpec)

/-- ITS FALSE NEIGHBOUR: 'it returns false'. Refute it at one input. -/
def compactEndsWrong : ChangeSpec := { name := "compactEnds", fn := fun _ => fun
  | [d1, d2, d3] => { results := [.lit (.bool false)], args := [d1, d2, d3] }
  | _ => none }
def CompactEndsWrongFalsely : Prop := compactEndsRow.holds Tryd.pinned (OpenSpec.ofChange compactEndsWrong)

/-- 'epitomelaw20.CompactRuns': WHATEVER THE INPUT: true; the input reads as it did. -/
def compactRunsSpec : ChangeSpec := { name := "compactRuns", fn := fun _ => fun
  | [d1, d2, d3] => { results := [.lit (.bool true)], args := [d1, d2, d3] }
  | _ => none }
def compactRunsRow : OpenClaim := { program := "ytadlnaljicikfaadoor", sum := "2e12ba12573d330f0fd2e5732981f4fa9004e01af5dfd78259af95409db3379a", func := "epitome/epitomelaw20.CompactRuns", spec := "compactRuns", unfollowed := true, recurses := true, named := ["unicode/utf8.first", "unicode/utf8.acceptRanges", "epitome/span.kinds"], apart := false, laid := [("unicode/utf8.acceptRanges", laid_unicode_utf8_acceptRanges), ("epitome/span.kinds", laid_epitome_span_kinds), ("unicode/utf8.first", laid_unicode_utf8_first)] }
def CompactRunsSaid : Prop := compactRunsRow.holds Tryd.pinned (OpenSpec.ofChange compactRunsSpec)

/-- ITS FALSE NEIGHBOUR: 'it returns false'. Refute it at one input. -/
def compactRunsWrong : ChangeSpec := { name := "compactRuns", fn := fun _ => fun
  | [d1, d2, d3] => { results := [.lit (.bool false)], args := [d1, d2, d3] }
  | _ => none }
def CompactRunsWrongFalsely : Prop := compactRunsRow.holds Tryd.pinned (OpenSpec.ofChange compactRunsWrong)

/-- 'epitomelaw20.CompactFloor': WHATEVER THE INPUT: true; the input reads as it did. -/
def compactFloorSpec : ChangeSpec := { name := "compactFloor", fn := fun _ => fun
  | [d1, d2, d3] => { results := [.lit (.bool true)], args := [d1, d2, d3] }
  | _ => none }
def compactFloorRow : OpenClaim := { program := "ytadlnaljicikfaadoor", sum := "2e12ba12573d330f0fd2e5732981f4fa9004e01af5dfd78259af95409db3379a", func := "epitome/epitomelaw20.CompactFloor", spec := "compactFloor", unfollowed := true, recurses := true, named := ["unicode/utf8.first", "unicode/utf8.acceptRanges", "epitome/span.kinds"], apart := false, laid := [("unicode/utf8.acceptRanges", laid_unicode_utf8_acceptRanges), ("epitome/span.kinds", laid_epitome_span_kinds), ("unicode/utf8.first", laid_unicode_utf8_first)] }
def CompactFloorSaid : Prop := compactFloorRow.holds Tryd.pinned (OpenSpec.ofChange compactFloorSpec)

/-- ITS FALSE NEIGHBOUR: 'it returns false'. Refute it at one input. -/
def compactFloorWrong : ChangeSpec := { name := "compactFloor", fn := fun _ => fun
  | [d1, d2, d3] => { results := [.lit (.bool false)], args := [d1, d2, d3] }
  | _ => none }
def CompactFloorWrongFalsely : Prop := compactFloorRow.holds Tryd.pinned (OpenSpec.ofChange compactFloorWrong)

/-- 'epitomelaw20.CompactTexts': WHATEVER THE INPUT: true; the input reads as it did. -/
def compactTextsSpec : ChangeSpec := { name := "compactTexts", fn := fun _ => fun
  | [d1, d2, d3] => { results := [.lit (.bool true)], args := [d1, d2, d3] }
  | _ => none }
def compactTextsRow : OpenClaim := { program := "ytadlnaljicikfaadoor", sum := "2e12ba12573d330f0fd2e5732981f4fa9004e01af5dfd78259af95409db3379a", func := "epitome/epitomelaw20.CompactTexts", spec := "compactTexts", unfollowed := true, recurses := true, named := ["unicode/utf8.first", "unicode/utf8.acceptRanges", "epitome/span.kinds"], apart := false, laid := [("unicode/utf8.acceptRanges", laid_unicode_utf8_acceptRanges), ("epitome/span.kinds", laid_epitome_span_kinds), ("unicode/utf8.first", laid_unicode_utf8_first)] }
def CompactTextsSaid : Prop := compactTextsRow.holds Tryd.pinned (OpenSpec.ofChange compactTextsSpec)

/-- ITS FALSE NEIGHBOUR: 'it returns false'. Refute it at one input. -/
def compactTextsWrong : ChangeSpec := { name := "compactTexts", fn := fun _ => fun
  | [d1, d2, d3] => { results := [.lit (.bool false)], args := [d1, d2, d3] }
  | _ => none }
def CompactTextsWrongFalsely : Prop := compactTextsRow.holds Tryd.pinned (OpenSpec.ofChange compactTextsWrong)

/-- 'epitomelaw20.CompactLess': WHATEVER THE INPUT: true; the input reads as it did. -/
def compactLessSpec : ChangeSpec := { name := "compactLess", fn := fun _ => fun
  | [d1, d2, d3] => { results := [.lit (.bool true)], args := [d1, d2, d3] }
  | _ => none }
def compactLessRow : OpenClaim := { program := "ytadlnaljicikfaadoor", sum := "2e12ba12573d330f0fd2e5732981f4fa9004e01af5dfd78259af95409db3379a", func := "epitome/epitomelaw20.CompactLess", spec := "compactLess", unfollowed := true, recurses := true, named := ["unicode/utf8.first", "unicode/utf8.acceptRanges", "epitome/span.kinds"], apart := false, laid := [("unicode/utf8.acceptRanges", laid_unicode_utf8_acceptRanges), ("epitome/span.kinds", laid_epitome_span_kinds), ("unicode/utf8.first", laid_unicode_utf8_first)] }
def CompactLessSaid : Prop := compactLessRow.holds Tryd.pinned (OpenSpec.ofChange compactLessSpec)

/-- ITS FALSE NEIGHBOUR: 'it returns false'. Refute it at one input. -/
def compactLessWrong : ChangeSpec := { name := "compactLess", fn := fun _ => fun
  | [d1, d2, d3] => { results := [.lit (.bool false)], args := [d1, d2, d3] }
  | _ => none }
def CompactLessWrongFalsely : Prop := compactLessRow.holds Tryd.pinned (OpenSpec.ofChange compactLessWrong)

/-- 'epitomelaw20.CompactOver': WHATEVER THE INPUT: true; the input reads as it did. -/
def compactOverSpec : ChangeSpec := { name := "compactOver", fn := fun _ => fun
  | [d1, d2, d3] => { results := [.lit (.bool true)], args := [d1, d2, d3] }
  | _ => none }
def compactOverRow : OpenClaim := { program := "ytadlnaljicikfaadoor", sum := "2e12ba12573d330f0fd2e5732981f4fa9004e01af5dfd78259af95409db3379a", func := "epitome/epitomelaw20.CompactOver", spec := "compactOver", unfollowed := true, recurses := true, named := ["unicode/utf8.first", "unicode/utf8.acceptRanges", "epitome/span.kinds"], apart := false, laid := [("unicode/utf8.acceptRanges", laid_unicode_utf8_acceptRanges), ("epitome/span.kinds", laid_epitome_span_kinds), ("unicode/utf8.first", laid_unicode_utf8_first)] }
def CompactOverSaid : Prop := compactOverRow.holds Tryd.pinned (OpenSpec.ofChange compactOverSpec)

/-- ITS FALSE NEIGHBOUR: 'it returns false'. Refute it at one input. -/
def compactOverWrong : ChangeSpec := { name := "compactOver", fn := fun _ => fun
  | [d1, d2, d3] => { results := [.lit (.bool false)], args := [d1, d2, d3] }
  | _ => none }
def CompactOverWrongFalsely : Prop := compactOverRow.holds Tryd.pinned (OpenSpec.ofChange compactOverWrong)

/-- 'epitomelaw21.FileBack': WHATEVER THE INPUT: true; the input reads as it did. -/
def fileBackSpec : ChangeSpec := { name := "fileBack", fn := fun _ => fun
  | [d1, d2, d3] => { results := [.lit (.bool true)], args := [d1, d2, d3] }
  | _ => none }
def fileBackRow : OpenClaim := { program := "ytadlnaljicikfaadoor", sum := "2e12ba12573d330f0fd2e5732981f4fa9004e01af5dfd78259af95409db3379a", func := "epitome/epitomelaw21.FileBack", spec := "fileBack", unfollowed := true, recurses := true, named := ["unicode/utf8.first", "unicode/utf8.acceptRanges", "epitome/span.kinds"], apart := false, laid := [("unicode/utf8.acceptRanges", laid_unicode_utf8_acceptRanges), ("epitome/span.kinds", laid_epitome_span_kinds), ("unicode/utf8.first", laid_unicode_utf8_first)] }
def FileBackSaid : Prop := fileBackRow.holds Tryd.pinned (OpenSpec.ofChange fileBackSpec)

/-- ITS FALSE NEIGHBOUR: 'it returns false'. Refute it at one input. -/
def fileBackWrong : ChangeSpec := { name := "fileBack", fn := fun _ => fun
  | [d1, d2, d3] => { results := [.lit (.bool false)], args := [d1, d2, d3] }
  | _ => none }
def FileBackWrongFalsely : Prop := fileBackRow.holds Tryd.pinned (OpenSpec.ofChange fileBackWrong)

/- THE SECOND FORM. 'bulk': how many values and letters a reading holds, each counted each time it is reached (what is shared counts as often as it is met; a slice's spare places count too). A statement '..UptoSaid' is the law's where the arguments, and the package variables that the reading takes, are together of bulk at most 1048576: NARROWER than '..Said'. Prove '..Said' where nothing that the law and all that it calls make is longer than what came in: it says more and counts as full. Else prove '..UptoSaid'. A law counts once. -/
mutual
def uptoBulk {H : Type} : DataW H → Nat
  | .lit (.string bytes) => bytes.length + 1
  | .lit _ => 1
  | .nil => 1
  | .ptr d => uptoBulk d + 1
  | .slice elems spare => uptoBulkAll elems + uptoBulkAll spare + 1
  | .agg parts => uptoBulkAll parts + 1
  | .iface _ d => uptoBulk d + 1
  | .map entries => uptoBulkEntries entries + 1
  | .held _ => 1
def uptoBulkAll {H : Type} : List (DataW H) → Nat
  | [] => 0
  | d :: r => uptoBulk d + uptoBulkAll r
def uptoBulkEntries {H : Type} : List (Lit × DataW H) → Nat
  | [] => 0
  | x :: r => uptoBulkEntry x + uptoBulkEntries r
def uptoBulkEntry {H : Type} : Lit × DataW H → Nat
  | (.string bytes, d) => bytes.length + uptoBulk d + 1
  | (_, d) => uptoBulk d + 1
 end
def uptoSmall : (H : Type) → List (DataW H) → Bool := fun _ ds => decide (uptoBulkAll ds ≤ 1048576)
def OpenSpec.upto (s : _root_.Go.ChangeSpec) : _root_.Go.OpenSpec := { _root_.Go.OpenSpec.ofChange s with cond := some uptoSmall }

/-- 'epitomelaw17.HistoryKeeps', WHERE WHAT IT READS IS OF BULK AT MOST 1048576: true; the input reads as it did. -/
def historyKeepsUptoRow : OpenClaim := { program := "ytadlnaljicikfaadoor", sum := "2e12ba12573d330f0fd2e5732981f4fa9004e01af5dfd78259af95409db3379a", func := "epitome/epitomelaw17.HistoryKeeps", spec := "historyKeeps", unfollowed := true, recurses := true, named := ["unicode/utf8.first", "unicode/utf8.acceptRanges", "epitome/span.kinds"], apart := false, laid := [("unicode/utf8.acceptRanges", laid_unicode_utf8_acceptRanges), ("epitome/span.kinds", laid_epitome_span_kinds), ("unicode/utf8.first", laid_unicode_utf8_first)], narrowed := true }
def HistoryKeepsUptoSaid : Prop := historyKeepsUptoRow.holds Tryd.pinned (OpenSpec.upto historyKeepsSpec)

/-- 'epitomelaw17.HistoryOver', WHERE WHAT IT READS IS OF BULK AT MOST 1048576: true; the input reads as it did. -/
def historyOverUptoRow : OpenClaim := { program := "ytadlnaljicikfaadoor", sum := "2e12ba12573d330f0fd2e5732981f4fa9004e01af5dfd78259af95409db3379a", func := "epitome/epitomelaw17.HistoryOver", spec := "historyOver", unfollowed := true, recurses := true, named := ["unicode/utf8.first", "unicode/utf8.acceptRanges", "epitome/span.kinds"], apart := false, laid := [("unicode/utf8.acceptRanges", laid_unicode_utf8_acceptRanges), ("epitome/span.kinds", laid_epitome_span_kinds), ("unicode/utf8.first", laid_unicode_utf8_first)], narrowed := true }
def HistoryOverUptoSaid : Prop := historyOverUptoRow.holds Tryd.pinned (OpenSpec.upto historyOverSpec)

/-- 'epitomelaw17.HistoryFirst', WHERE WHAT IT READS IS OF BULK AT MOST 1048576: true; the input reads as it did. -/
def historyFirstUptoRow : OpenClaim := { program := "ytadlnaljicikfaadoor", sum := "2e12ba12573d330f0fd2e5732981f4fa9004e01af5dfd78259af95409db3379a", func := "epitome/epitomelaw17.HistoryFirst", spec := "historyFirst", unfollowed := true, recurses := true, named := ["unicode/utf8.first", "unicode/utf8.acceptRanges", "epitome/span.kinds"], apart := false, laid := [("unicode/utf8.acceptRanges", laid_unicode_utf8_acceptRanges), ("epitome/span.kinds", laid_epitome_span_kinds), ("unicode/utf8.first", laid_unicode_utf8_first)], narrowed := true }
def HistoryFirstUptoSaid : Prop := historyFirstUptoRow.holds Tryd.pinned (OpenSpec.upto historyFirstSpec)

/-- 'epitomelaw21.FileAll', WHERE WHAT IT READS IS OF BULK AT MOST 1048576: true; the input reads as it did. -/
def fileAllUptoRow : OpenClaim := { program := "ytadlnaljicikfaadoor", sum := "2e12ba12573d330f0fd2e5732981f4fa9004e01af5dfd78259af95409db3379a", func := "epitome/epitomelaw21.FileAll", spec := "fileAll", unfollowed := true, recurses := true, named := ["unicode/utf8.first", "unicode/utf8.acceptRanges", "epitome/span.kinds"], apart := false, laid := [("unicode/utf8.acceptRanges", laid_unicode_utf8_acceptRanges), ("epitome/span.kinds", laid_epitome_span_kinds), ("unicode/utf8.first", laid_unicode_utf8_first)], narrowed := true }
def FileAllUptoSaid : Prop := fileAllUptoRow.holds Tryd.pinned (OpenSpec.upto fileAllSpec)

/-- 'epitomelaw21.FileTaken', WHERE WHAT IT READS IS OF BULK AT MOST 1048576: true; the input reads as it did. -/
def fileTakenUptoRow : OpenClaim := { program := "ytadlnaljicikfaadoor", sum := "2e12ba12573d330f0fd2e5732981f4fa9004e01af5dfd78259af95409db3379a", func := "epitome/epitomelaw21.FileTaken", spec := "fileTaken", unfollowed := true, recurses := true, named := ["unicode/utf8.first", "unicode/utf8.acceptRanges", "epitome/span.kinds"], apart := false, laid := [("unicode/utf8.acceptRanges", laid_unicode_utf8_acceptRanges), ("epitome/span.kinds", laid_epitome_span_kinds), ("unicode/utf8.first", laid_unicode_utf8_first)], narrowed := true }
def FileTakenUptoSaid : Prop := fileTakenUptoRow.holds Tryd.pinned (OpenSpec.upto fileTakenSpec)

/-- 'epitomelaw21.FileBig', WHERE WHAT IT READS IS OF BULK AT MOST 1048576: true; the input reads as it did. -/
def fileBigUptoRow : OpenClaim := { program := "ytadlnaljicikfaadoor", sum := "2e12ba12573d330f0fd2e5732981f4fa9004e01af5dfd78259af95409db3379a", func := "epitome/epitomelaw21.FileBig", spec := "fileBig", unfollowed := true, recurses := true, named := ["unicode/utf8.first", "unicode/utf8.acceptRanges", "epitome/span.kinds"], apart := false, laid := [("unicode/utf8.acceptRanges", laid_unicode_utf8_acceptRanges), ("epitome/span.kinds", laid_epitome_span_kinds), ("unicode/utf8.first", laid_unicode_utf8_first)], narrowed := true }
def FileBigUptoSaid : Prop := fileBigUptoRow.holds Tryd.pinned (OpenSpec.upto fileBigSpec)

/-- 'epitomelaw21.FileParts', WHERE WHAT IT READS IS OF BULK AT MOST 1048576: true; the input reads as it did. -/
def filePartsUptoRow : OpenClaim := { program := "ytadlnaljicikfaadoor", sum := "2e12ba12573d330f0fd2e5732981f4fa9004e01af5dfd78259af95409db3379a", func := "epitome/epitomelaw21.FileParts", spec := "fileParts", unfollowed := true, recurses := true, named := ["unicode/utf8.first", "unicode/utf8.acceptRanges", "epitome/span.kinds"], apart := false, laid := [("unicode/utf8.acceptRanges", laid_unicode_utf8_acceptRanges), ("epitome/span.kinds", laid_epitome_span_kinds), ("unicode/utf8.first", laid_unicode_utf8_first)], narrowed := true }
def FilePartsUptoSaid : Prop := filePartsUptoRow.holds Tryd.pinned (OpenSpec.upto filePartsSpec)

/-- 'epitomelaw21.FileOdd', WHERE WHAT IT READS IS OF BULK AT MOST 1048576: true; the input reads as it did. -/
def fileOddUptoRow : OpenClaim := { program := "ytadlnaljicikfaadoor", sum := "2e12ba12573d330f0fd2e5732981f4fa9004e01af5dfd78259af95409db3379a", func := "epitome/epitomelaw21.FileOdd", spec := "fileOdd", unfollowed := true, recurses := true, named := ["unicode/utf8.first", "unicode/utf8.acceptRanges", "epitome/span.kinds"], apart := false, laid := [("unicode/utf8.acceptRanges", laid_unicode_utf8_acceptRanges), ("epitome/span.kinds", laid_epitome_span_kinds), ("unicode/utf8.first", laid_unicode_utf8_first)], narrowed := true }
def FileOddUptoSaid : Prop := fileOddUptoRow.holds Tryd.pinned (OpenSpec.upto fileOddSpec)

/-- 'epitomelaw17.HistoryPlays', WHERE WHAT IT READS IS OF BULK AT MOST 1048576: true; the input reads as it did. -/
def historyPlaysUptoRow : OpenClaim := { program := "ytadlnaljicikfaadoor", sum := "2e12ba12573d330f0fd2e5732981f4fa9004e01af5dfd78259af95409db3379a", func := "epitome/epitomelaw17.HistoryPlays", spec := "historyPlays", unfollowed := true, recurses := true, named := ["unicode/utf8.first", "unicode/utf8.acceptRanges", "epitome/span.kinds"], apart := false, laid := [("unicode/utf8.acceptRanges", laid_unicode_utf8_acceptRanges), ("epitome/span.kinds", laid_epitome_span_kinds), ("unicode/utf8.first", laid_unicode_utf8_first)], narrowed := true }
def HistoryPlaysUptoSaid : Prop := historyPlaysUptoRow.holds Tryd.pinned (OpenSpec.upto historyPlaysSpec)

/-- 'epitomelaw17.HistoryRuns', WHERE WHAT IT READS IS OF BULK AT MOST 1048576: true; the input reads as it did. -/
def historyRunsUptoRow : OpenClaim := { program := "ytadlnaljicikfaadoor", sum := "2e12ba12573d330f0fd2e5732981f4fa9004e01af5dfd78259af95409db3379a", func := "epitome/epitomelaw17.HistoryRuns", spec := "historyRuns", unfollowed := true, recurses := true, named := ["unicode/utf8.first", "unicode/utf8.acceptRanges", "epitome/span.kinds"], apart := false, laid := [("unicode/utf8.acceptRanges", laid_unicode_utf8_acceptRanges), ("epitome/span.kinds", laid_epitome_span_kinds), ("unicode/utf8.first", laid_unicode_utf8_first)], narrowed := true }
def HistoryRunsUptoSaid : Prop := historyRunsUptoRow.holds Tryd.pinned (OpenSpec.upto historyRunsSpec)

/-- 'epitomelaw20.CompactAll', WHERE WHAT IT READS IS OF BULK AT MOST 1048576: true; the input reads as it did. -/
def compactAllUptoRow : OpenClaim := { program := "ytadlnaljicikfaadoor", sum := "2e12ba12573d330f0fd2e5732981f4fa9004e01af5dfd78259af95409db3379a", func := "epitome/epitomelaw20.CompactAll", spec := "compactAll", unfollowed := true, recurses := true, named := ["unicode/utf8.first", "unicode/utf8.acceptRanges", "epitome/span.kinds"], apart := false, laid := [("unicode/utf8.acceptRanges", laid_unicode_utf8_acceptRanges), ("epitome/span.kinds", laid_epitome_span_kinds), ("unicode/utf8.first", laid_unicode_utf8_first)], narrowed := true }
def CompactAllUptoSaid : Prop := compactAllUptoRow.holds Tryd.pinned (OpenSpec.upto compactAllSpec)

/-- 'epitomelaw20.CompactTwice', WHERE WHAT IT READS IS OF BULK AT MOST 1048576: true; the input reads as it did. -/
def compactTwiceUptoRow : OpenClaim := { program := "ytadlnaljicikfaadoor", sum := "2e12ba12573d330f0fd2e5732981f4fa9004e01af5dfd78259af95409db3379a", func := "epitome/epitomelaw20.CompactTwice", spec := "compactTwice", unfollowed := true, recurses := true, named := ["unicode/utf8.first", "unicode/utf8.acceptRanges", "epitome/span.kinds"], apart := false, laid := [("unicode/utf8.acceptRanges", laid_unicode_utf8_acceptRanges), ("epitome/span.kinds", laid_epitome_span_kinds), ("unicode/utf8.first", laid_unicode_utf8_first)], narrowed := true }
def CompactTwiceUptoSaid : Prop := compactTwiceUptoRow.holds Tryd.pinned (OpenSpec.upto compactTwiceSpec)

/-- 'epitomelaw20.CompactEnds', WHERE WHAT IT READS IS OF BULK AT MOST 1048576: true; the input reads as it did. -/
def compactEndsUptoRow : OpenClaim := { program := "ytadlnaljicikfaadoor", sum := "2e12ba12573d330f0fd2e5732981f4fa9004e01af5dfd78259af95409db3379a", func := "epitome/epitomelaw20.CompactEnds", spec := "compactEnds", unfollowed := true, recurses := true, named := ["unicode/utf8.first", "unicode/utf8.acceptRanges", "epitome/span.kinds"], apart := false, laid := [("unicode/utf8.acceptRanges", laid_unicode_utf8_acceptRanges), ("epitome/span.kinds", laid_epitome_span_kinds), ("unicode/utf8.first", laid_unicode_utf8_first)], narrowed := true }
def CompactEndsUptoSaid : Prop := compactEndsUptoRow.holds Tryd.pinned (OpenSpec.upto compactEndsSpec)

/-- 'epitomelaw20.CompactRuns', WHERE WHAT IT READS IS OF BULK AT MOST 1048576: true; the input reads as it did. -/
def compactRunsUptoRow : OpenClaim := { program := "ytadlnaljicikfaadoor", sum := "2e12ba12573d330f0fd2e5732981f4fa9004e01af5dfd78259af95409db3379a", func := "epitome/epitomelaw20.CompactRuns", spec := "compactRuns", unfollowed := true, recurses := true, named := ["unicode/utf8.first", "unicode/utf8.acceptRanges", "epitome/span.kinds"], apart := false, laid := [("unicode/utf8.acceptRanges", laid_unicode_utf8_acceptRanges), ("epitome/span.kinds", laid_epitome_span_kinds), ("unicode/utf8.first", laid_unicode_utf8_first)], narrowed := true }
def CompactRunsUptoSaid : Prop := compactRunsUptoRow.holds Tryd.pinned (OpenSpec.upto compactRunsSpec)

/-- 'epitomelaw20.CompactFloor', WHERE WHAT IT READS IS OF BULK AT MOST 1048576: true; the input reads as it did. -/
def compactFloorUptoRow : OpenClaim := { program := "ytadlnaljicikfaadoor", sum := "2e12ba12573d330f0fd2e5732981f4fa9004e01af5dfd78259af95409db3379a", func := "epitome/epitomelaw20.CompactFloor", spec := "compactFloor", unfollowed := true, recurses := true, named := ["unicode/utf8.first", "unicode/utf8.acceptRanges", "epitome/span.kinds"], apart := false, laid := [("unicode/utf8.acceptRanges", laid_unicode_utf8_acceptRanges), ("epitome/span.kinds", laid_epitome_span_kinds), ("unicode/utf8.first", laid_unicode_utf8_first)], narrowed := true }
def CompactFloorUptoSaid : Prop := compactFloorUptoRow.holds Tryd.pinned (OpenSpec.upto compactFloorSpec)

/-- 'epitomelaw20.CompactTexts', WHERE WHAT IT READS IS OF BULK AT MOST 1048576: true; the input reads as it did. -/
def compactTextsUptoRow : OpenClaim := { program := "ytadlnaljicikfaadoor", sum := "2e12ba12573d330f0fd2e5732981f4fa9004e01af5dfd78259af95409db3379a", func := "epitome/epitomelaw20.CompactTexts", spec := "compactTexts", unfollowed := true, recurses := true, named := ["unicode/utf8.first", "unicode/utf8.acceptRanges", "epitome/span.kinds"], apart := false, laid := [("unicode/utf8.acceptRanges", laid_unicode_utf8_acceptRanges), ("epitome/span.kinds", laid_epitome_span_kinds), ("unicode/utf8.first", laid_unicode_utf8_first)], narrowed := true }
def CompactTextsUptoSaid : Prop := compactTextsUptoRow.holds Tryd.pinned (OpenSpec.upto compactTextsSpec)

/-- 'epitomelaw20.CompactLess', WHERE WHAT IT READS IS OF BULK AT MOST 1048576: true; the input reads as it did. -/
def compactLessUptoRow : OpenClaim := { program := "ytadlnaljicikfaadoor", sum := "2e12ba12573d330f0fd2e5732981f4fa9004e01af5dfd78259af95409db3379a", func := "epitome/epitomelaw20.CompactLess", spec := "compactLess", unfollowed := true, recurses := true, named := ["unicode/utf8.first", "unicode/utf8.acceptRanges", "epitome/span.kinds"], apart := false, laid := [("unicode/utf8.acceptRanges", laid_unicode_utf8_acceptRanges), ("epitome/span.kinds", laid_epitome_span_kinds), ("unicode/utf8.first", laid_unicode_utf8_first)], narrowed := true }
def CompactLessUptoSaid : Prop := compactLessUptoRow.holds Tryd.pinned (OpenSpec.upto compactLessSpec)

/-- 'epitomelaw20.CompactOver', WHERE WHAT IT READS IS OF BULK AT MOST 1048576: true; the input reads as it did. -/
def compactOverUptoRow : OpenClaim := { program := "ytadlnaljicikfaadoor", sum := "2e12ba12573d330f0fd2e5732981f4fa9004e01af5dfd78259af95409db3379a", func := "epitome/epitomelaw20.CompactOver", spec := "compactOver", unfollowed := true, recurses := true, named := ["unicode/utf8.first", "unicode/utf8.acceptRanges", "epitome/span.kinds"], apart := false, laid := [("unicode/utf8.acceptRanges", laid_unicode_utf8_acceptRanges), ("epitome/span.kinds", laid_epitome_span_kinds), ("unicode/utf8.first", laid_unicode_utf8_first)], narrowed := true }
def CompactOverUptoSaid : Prop := compactOverUptoRow.holds Tryd.pinned (OpenSpec.upto compactOverSpec)

/-- 'epitomelaw21.FileBack', WHERE WHAT IT READS IS OF BULK AT MOST 1048576: true; the input reads as it did. -/
def fileBackUptoRow : OpenClaim := { program := "ytadlnaljicikfaadoor", sum := "2e12ba12573d330f0fd2e5732981f4fa9004e01af5dfd78259af95409db3379a", func := "epitome/epitomelaw21.FileBack", spec := "fileBack", unfollowed := true, recurses := true, named := ["unicode/utf8.first", "unicode/utf8.acceptRanges", "epitome/span.kinds"], apart := false, laid := [("unicode/utf8.acceptRanges", laid_unicode_utf8_acceptRanges), ("epitome/span.kinds", laid_epitome_span_kinds), ("unicode/utf8.first", laid_unicode_utf8_first)], narrowed := true }
def FileBackUptoSaid : Prop := fileBackUptoRow.holds Tryd.pinned (OpenSpec.upto fileBackSpec)

end Rows
end Go.Proofs.YtadlnaljicikfaaDoor
