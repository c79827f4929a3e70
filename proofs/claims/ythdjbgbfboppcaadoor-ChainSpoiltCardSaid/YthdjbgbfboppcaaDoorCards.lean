/-
  DERIVED. GIVEN WITH THE SEED: THE CARDS: each row of YthdjbgbfboppcaaDoorRows.lean that lists a variable, with what it lists TIED to the program's text (the seventh form; the later family's looks); each row that meets fmt, with fmt's text TOLD by the authors' own Lean function (tested against real Go, not proved from fmt's source: count such statements apart). THE CARD IS WHAT COUNTS. Prove the row's statement (the work); the ties are given (YthdjbgbfboppcaaDoorTie.lean); close each card by the builder's one call (the guide's Derived/Test/ToyasCard.lean, 'card_holds'). Laid BY PROGRAM, IN A SANDBOX (cutbox-door.mjs). By AI agents, Wed Nov 11 2026. No macro, syntax, notation, axiom, sorry.
-/
import Derived.Test.YthdjbgbfboppcaaDoorRows
import GoSem.ClaimSeven
namespace Go.Proofs.YthdjbgbfboppcaaDoor
namespace Rows

/-- THE TIED CARD OF 'epitomelaw14.WordsTaken'. -/
def wordsTakenCard : Claim7 := { stood := { row := wordsTakenRow, standIns := [], harness := (true, "150321277a3984d84d245d0b5218c155a5808e68a39a0d8efc7b1b6f7c0b0c8a"), looks := false }, kinds := [], alts := [], laidByText := true, laidKinds := [.data, .data, .pinned], laidTests := true, laidLooks := .later }
def WordsTakenCardSaid : Prop := Claim7.holds Tryd.pinned (.plain (OpenSpec.ofChange wordsTakenSpec)) wordsTakenCard

/-- THE TIED CARD OF 'epitomelaw14.WordsOdd'. -/
def wordsOddCard : Claim7 := { stood := { row := wordsOddRow, standIns := [], harness := (true, "150321277a3984d84d245d0b5218c155a5808e68a39a0d8efc7b1b6f7c0b0c8a"), looks := false }, kinds := [], alts := [], laidByText := true, laidKinds := [.data, .data, .pinned], laidTests := true, laidLooks := .later }
def WordsOddCardSaid : Prop := Claim7.holds Tryd.pinned (.plain (OpenSpec.ofChange wordsOddSpec)) wordsOddCard

/-- THE TIED CARD OF 'epitomelaw16.ChainSpoilt'. -/
def chainSpoiltCard : Claim7 := { stood := { row := chainSpoiltRow, standIns := [], harness := (true, "150321277a3984d84d245d0b5218c155a5808e68a39a0d8efc7b1b6f7c0b0c8a"), looks := false }, kinds := [], alts := [], laidByText := true, laidKinds := [.data, .data, .pinned], laidTests := true, laidLooks := .later }
def ChainSpoiltCardSaid : Prop := Claim7.holds Tryd.pinned (.plain (OpenSpec.ofChange chainSpoiltSpec)) chainSpoiltCard

/-- THE TIED CARD OF 'epitomelaw16.ChainCut'. -/
def chainCutCard : Claim7 := { stood := { row := chainCutRow, standIns := [], harness := (true, "150321277a3984d84d245d0b5218c155a5808e68a39a0d8efc7b1b6f7c0b0c8a"), looks := false }, kinds := [], alts := [], laidByText := true, laidKinds := [.data, .data, .pinned], laidTests := true, laidLooks := .later }
def ChainCutCardSaid : Prop := Claim7.holds Tryd.pinned (.plain (OpenSpec.ofChange chainCutSpec)) chainCutCard

/-- THE TIED CARD OF 'epitomelaw16.ChainAll'. -/
def chainAllCard : Claim7 := { stood := { row := chainAllRow, standIns := [], harness := (true, "150321277a3984d84d245d0b5218c155a5808e68a39a0d8efc7b1b6f7c0b0c8a"), looks := false }, kinds := [], alts := [], laidByText := true, laidKinds := [.data, .data, .pinned], laidTests := true, laidLooks := .later }
def ChainAllCardSaid : Prop := Claim7.holds Tryd.pinned (.plain (OpenSpec.ofChange chainAllSpec)) chainAllCard

/-- THE TIED CARD OF 'epitomelaw16.ChainTexts'. -/
def chainTextsCard : Claim7 := { stood := { row := chainTextsRow, standIns := [], harness := (true, "150321277a3984d84d245d0b5218c155a5808e68a39a0d8efc7b1b6f7c0b0c8a"), looks := false }, kinds := [], alts := [], laidByText := true, laidKinds := [.data, .data, .pinned], laidTests := true, laidLooks := .later }
def ChainTextsCardSaid : Prop := Claim7.holds Tryd.pinned (.plain (OpenSpec.ofChange chainTextsSpec)) chainTextsCard

/-- THE TIED CARD OF 'epitomelaw16.ChainAlone'. -/
def chainAloneCard : Claim7 := { stood := { row := chainAloneRow, standIns := [], harness := (true, "150321277a3984d84d245d0b5218c155a5808e68a39a0d8efc7b1b6f7c0b0c8a"), looks := false }, kinds := [], alts := [], laidByText := true, laidKinds := [.data, .data, .pinned], laidTests := true, laidLooks := .later }
def ChainAloneCardSaid : Prop := Claim7.holds Tryd.pinned (.plain (OpenSpec.ofChange chainAloneSpec)) chainAloneCard

/-- THE TIED CARD OF 'epitomelaw16.ChainNumbers'. -/
def chainNumbersCard : Claim7 := { stood := { row := chainNumbersRow, standIns := [], harness := (true, "150321277a3984d84d245d0b5218c155a5808e68a39a0d8efc7b1b6f7c0b0c8a"), looks := false }, kinds := [], alts := [], laidByText := true, laidKinds := [.data, .data, .pinned], laidTests := true, laidLooks := .later }
def ChainNumbersCardSaid : Prop := Claim7.holds Tryd.pinned (.plain (OpenSpec.ofChange chainNumbersSpec)) chainNumbersCard

/-- THE TIED CARD OF 'epitomelaw14.WordsAll'. -/
def wordsAllCard : Claim7 := { stood := { row := wordsAllRow, standIns := [], harness := (true, "150321277a3984d84d245d0b5218c155a5808e68a39a0d8efc7b1b6f7c0b0c8a"), looks := false }, kinds := [], alts := [], laidByText := true, laidKinds := [.data, .data, .pinned], laidTests := true, laidLooks := .later }
def WordsAllCardSaid : Prop := Claim7.holds Tryd.pinned (.plain (OpenSpec.ofChange wordsAllSpec)) wordsAllCard

/-- THE TIED CARD OF 'epitomelaw14.WordsBack'. -/
def wordsBackCard : Claim7 := { stood := { row := wordsBackRow, standIns := [], harness := (true, "150321277a3984d84d245d0b5218c155a5808e68a39a0d8efc7b1b6f7c0b0c8a"), looks := false }, kinds := [], alts := [], laidByText := true, laidKinds := [.data, .data, .pinned], laidTests := true, laidLooks := .later }
def WordsBackCardSaid : Prop := Claim7.holds Tryd.pinned (.plain (OpenSpec.ofChange wordsBackSpec)) wordsBackCard

/-- THE TIED CARD OF 'epitomelaw14.WordsRow'. -/
def wordsRowCard : Claim7 := { stood := { row := wordsRowRow, standIns := [], harness := (true, "150321277a3984d84d245d0b5218c155a5808e68a39a0d8efc7b1b6f7c0b0c8a"), looks := false }, kinds := [], alts := [], laidByText := true, laidKinds := [.data, .data, .pinned], laidTests := true, laidLooks := .later }
def WordsRowCardSaid : Prop := Claim7.holds Tryd.pinned (.plain (OpenSpec.ofChange wordsRowSpec)) wordsRowCard

/-- THE TIED CARD OF 'epitomelaw14.WordsSize'. -/
def wordsSizeCard : Claim7 := { stood := { row := wordsSizeRow, standIns := [], harness := (true, "150321277a3984d84d245d0b5218c155a5808e68a39a0d8efc7b1b6f7c0b0c8a"), looks := false }, kinds := [], alts := [], laidByText := true, laidKinds := [.data, .data, .pinned], laidTests := true, laidLooks := .later }
def WordsSizeCardSaid : Prop := Claim7.holds Tryd.pinned (.plain (OpenSpec.ofChange wordsSizeSpec)) wordsSizeCard

/-- THE TIED CARD OF 'epitomelaw21.FileAll'. -/
def fileAllCard : Claim7 := { stood := { row := fileAllRow, standIns := [], harness := (true, "150321277a3984d84d245d0b5218c155a5808e68a39a0d8efc7b1b6f7c0b0c8a"), looks := false }, kinds := [], alts := [], laidByText := true, laidKinds := [.data, .data, .pinned], laidTests := true, laidLooks := .later }
def FileAllCardSaid : Prop := Claim7.holds Tryd.pinned (.plain (OpenSpec.ofChange fileAllSpec)) fileAllCard

/-- THE TIED CARD OF 'epitomelaw21.FileTaken'. -/
def fileTakenCard : Claim7 := { stood := { row := fileTakenRow, standIns := [], harness := (true, "150321277a3984d84d245d0b5218c155a5808e68a39a0d8efc7b1b6f7c0b0c8a"), looks := false }, kinds := [], alts := [], laidByText := true, laidKinds := [.data, .data, .pinned], laidTests := true, laidLooks := .later }
def FileTakenCardSaid : Prop := Claim7.holds Tryd.pinned (.plain (OpenSpec.ofChange fileTakenSpec)) fileTakenCard

/-- THE TIED CARD OF 'epitomelaw21.FileBig'. -/
def fileBigCard : Claim7 := { stood := { row := fileBigRow, standIns := [], harness := (true, "150321277a3984d84d245d0b5218c155a5808e68a39a0d8efc7b1b6f7c0b0c8a"), looks := false }, kinds := [], alts := [], laidByText := true, laidKinds := [.data, .data, .pinned], laidTests := true, laidLooks := .later }
def FileBigCardSaid : Prop := Claim7.holds Tryd.pinned (.plain (OpenSpec.ofChange fileBigSpec)) fileBigCard

/-- THE TIED CARD OF 'epitomelaw21.FileParts'. -/
def filePartsCard : Claim7 := { stood := { row := filePartsRow, standIns := [], harness := (true, "150321277a3984d84d245d0b5218c155a5808e68a39a0d8efc7b1b6f7c0b0c8a"), looks := false }, kinds := [], alts := [], laidByText := true, laidKinds := [.data, .data, .pinned], laidTests := true, laidLooks := .later }
def FilePartsCardSaid : Prop := Claim7.holds Tryd.pinned (.plain (OpenSpec.ofChange filePartsSpec)) filePartsCard

/-- THE TIED CARD OF 'epitomelaw21.FileOdd'. -/
def fileOddCard : Claim7 := { stood := { row := fileOddRow, standIns := [], harness := (true, "150321277a3984d84d245d0b5218c155a5808e68a39a0d8efc7b1b6f7c0b0c8a"), looks := false }, kinds := [], alts := [], laidByText := true, laidKinds := [.data, .data, .pinned], laidTests := true, laidLooks := .later }
def FileOddCardSaid : Prop := Claim7.holds Tryd.pinned (.plain (OpenSpec.ofChange fileOddSpec)) fileOddCard

/-- THE TIED CARD OF 'epitomelaw21.FileBack'. -/
def fileBackCard : Claim7 := { stood := { row := fileBackRow, standIns := [], harness := (true, "150321277a3984d84d245d0b5218c155a5808e68a39a0d8efc7b1b6f7c0b0c8a"), looks := false }, kinds := [], alts := [], laidByText := true, laidKinds := [.data, .data, .pinned], laidTests := true, laidLooks := .later }
def FileBackCardSaid : Prop := Claim7.holds Tryd.pinned (.plain (OpenSpec.ofChange fileBackSpec)) fileBackCard

/-- THE SECOND FORM's CARD OF 'epitomelaw14.WordsTaken'. -/
def wordsTakenUptoCard : Claim7 := { stood := { row := wordsTakenUptoRow, standIns := [], harness := (true, "150321277a3984d84d245d0b5218c155a5808e68a39a0d8efc7b1b6f7c0b0c8a"), looks := false }, kinds := [], alts := [], laidByText := true, laidKinds := [.data, .data, .pinned], laidTests := true, laidLooks := .later }
def WordsTakenUptoCardSaid : Prop := Claim7.holds Tryd.pinned (.plain (OpenSpec.upto wordsTakenSpec)) wordsTakenUptoCard

/-- THE SECOND FORM's CARD OF 'epitomelaw14.WordsOdd'. -/
def wordsOddUptoCard : Claim7 := { stood := { row := wordsOddUptoRow, standIns := [], harness := (true, "150321277a3984d84d245d0b5218c155a5808e68a39a0d8efc7b1b6f7c0b0c8a"), looks := false }, kinds := [], alts := [], laidByText := true, laidKinds := [.data, .data, .pinned], laidTests := true, laidLooks := .later }
def WordsOddUptoCardSaid : Prop := Claim7.holds Tryd.pinned (.plain (OpenSpec.upto wordsOddSpec)) wordsOddUptoCard

/-- THE SECOND FORM's CARD OF 'epitomelaw16.ChainSpoilt'. -/
def chainSpoiltUptoCard : Claim7 := { stood := { row := chainSpoiltUptoRow, standIns := [], harness := (true, "150321277a3984d84d245d0b5218c155a5808e68a39a0d8efc7b1b6f7c0b0c8a"), looks := false }, kinds := [], alts := [], laidByText := true, laidKinds := [.data, .data, .pinned], laidTests := true, laidLooks := .later }
def ChainSpoiltUptoCardSaid : Prop := Claim7.holds Tryd.pinned (.plain (OpenSpec.upto chainSpoiltSpec)) chainSpoiltUptoCard

/-- THE SECOND FORM's CARD OF 'epitomelaw16.ChainCut'. -/
def chainCutUptoCard : Claim7 := { stood := { row := chainCutUptoRow, standIns := [], harness := (true, "150321277a3984d84d245d0b5218c155a5808e68a39a0d8efc7b1b6f7c0b0c8a"), looks := false }, kinds := [], alts := [], laidByText := true, laidKinds := [.data, .data, .pinned], laidTests := true, laidLooks := .later }
def ChainCutUptoCardSaid : Prop := Claim7.holds Tryd.pinned (.plain (OpenSpec.upto chainCutSpec)) chainCutUptoCard

/-- THE SECOND FORM's CARD OF 'epitomelaw16.ChainAll'. -/
def chainAllUptoCard : Claim7 := { stood := { row := chainAllUptoRow, standIns := [], harness := (true, "150321277a3984d84d245d0b5218c155a5808e68a39a0d8efc7b1b6f7c0b0c8a"), looks := false }, kinds := [], alts := [], laidByText := true, laidKinds := [.data, .data, .pinned], laidTests := true, laidLooks := .later }
def ChainAllUptoCardSaid : Prop := Claim7.holds Tryd.pinned (.plain (OpenSpec.upto chainAllSpec)) chainAllUptoCard

/-- THE SECOND FORM's CARD OF 'epitomelaw16.ChainTexts'. -/
def chainTextsUptoCard : Claim7 := { stood := { row := chainTextsUptoRow, standIns := [], harness := (true, "150321277a3984d84d245d0b5218c155a5808e68a39a0d8efc7b1b6f7c0b0c8a"), looks := false }, kinds := [], alts := [], laidByText := true, laidKinds := [.data, .data, .pinned], laidTests := true, laidLooks := .later }
def ChainTextsUptoCardSaid : Prop := Claim7.holds Tryd.pinned (.plain (OpenSpec.upto chainTextsSpec)) chainTextsUptoCard

/-- THE SECOND FORM's CARD OF 'epitomelaw16.ChainAlone'. -/
def chainAloneUptoCard : Claim7 := { stood := { row := chainAloneUptoRow, standIns := [], harness := (true, "150321277a3984d84d245d0b5218c155a5808e68a39a0d8efc7b1b6f7c0b0c8a"), looks := false }, kinds := [], alts := [], laidByText := true, laidKinds := [.data, .data, .pinned], laidTests := true, laidLooks := .later }
def ChainAloneUptoCardSaid : Prop := Claim7.holds Tryd.pinned (.plain (OpenSpec.upto chainAloneSpec)) chainAloneUptoCard

/-- THE SECOND FORM's CARD OF 'epitomelaw16.ChainNumbers'. -/
def chainNumbersUptoCard : Claim7 := { stood := { row := chainNumbersUptoRow, standIns := [], harness := (true, "150321277a3984d84d245d0b5218c155a5808e68a39a0d8efc7b1b6f7c0b0c8a"), looks := false }, kinds := [], alts := [], laidByText := true, laidKinds := [.data, .data, .pinned], laidTests := true, laidLooks := .later }
def ChainNumbersUptoCardSaid : Prop := Claim7.holds Tryd.pinned (.plain (OpenSpec.upto chainNumbersSpec)) chainNumbersUptoCard

/-- THE SECOND FORM's CARD OF 'epitomelaw14.WordsAll'. -/
def wordsAllUptoCard : Claim7 := { stood := { row := wordsAllUptoRow, standIns := [], harness := (true, "150321277a3984d84d245d0b5218c155a5808e68a39a0d8efc7b1b6f7c0b0c8a"), looks := false }, kinds := [], alts := [], laidByText := true, laidKinds := [.data, .data, .pinned], laidTests := true, laidLooks := .later }
def WordsAllUptoCardSaid : Prop := Claim7.holds Tryd.pinned (.plain (OpenSpec.upto wordsAllSpec)) wordsAllUptoCard

/-- THE SECOND FORM's CARD OF 'epitomelaw14.WordsBack'. -/
def wordsBackUptoCard : Claim7 := { stood := { row := wordsBackUptoRow, standIns := [], harness := (true, "150321277a3984d84d245d0b5218c155a5808e68a39a0d8efc7b1b6f7c0b0c8a"), looks := false }, kinds := [], alts := [], laidByText := true, laidKinds := [.data, .data, .pinned], laidTests := true, laidLooks := .later }
def WordsBackUptoCardSaid : Prop := Claim7.holds Tryd.pinned (.plain (OpenSpec.upto wordsBackSpec)) wordsBackUptoCard

/-- THE SECOND FORM's CARD OF 'epitomelaw14.WordsRow'. -/
def wordsRowUptoCard : Claim7 := { stood := { row := wordsRowUptoRow, standIns := [], harness := (true, "150321277a3984d84d245d0b5218c155a5808e68a39a0d8efc7b1b6f7c0b0c8a"), looks := false }, kinds := [], alts := [], laidByText := true, laidKinds := [.data, .data, .pinned], laidTests := true, laidLooks := .later }
def WordsRowUptoCardSaid : Prop := Claim7.holds Tryd.pinned (.plain (OpenSpec.upto wordsRowSpec)) wordsRowUptoCard

/-- THE SECOND FORM's CARD OF 'epitomelaw14.WordsSize'. -/
def wordsSizeUptoCard : Claim7 := { stood := { row := wordsSizeUptoRow, standIns := [], harness := (true, "150321277a3984d84d245d0b5218c155a5808e68a39a0d8efc7b1b6f7c0b0c8a"), looks := false }, kinds := [], alts := [], laidByText := true, laidKinds := [.data, .data, .pinned], laidTests := true, laidLooks := .later }
def WordsSizeUptoCardSaid : Prop := Claim7.holds Tryd.pinned (.plain (OpenSpec.upto wordsSizeSpec)) wordsSizeUptoCard

/-- THE SECOND FORM's CARD OF 'epitomelaw21.FileAll'. -/
def fileAllUptoCard : Claim7 := { stood := { row := fileAllUptoRow, standIns := [], harness := (true, "150321277a3984d84d245d0b5218c155a5808e68a39a0d8efc7b1b6f7c0b0c8a"), looks := false }, kinds := [], alts := [], laidByText := true, laidKinds := [.data, .data, .pinned], laidTests := true, laidLooks := .later }
def FileAllUptoCardSaid : Prop := Claim7.holds Tryd.pinned (.plain (OpenSpec.upto fileAllSpec)) fileAllUptoCard

/-- THE SECOND FORM's CARD OF 'epitomelaw21.FileTaken'. -/
def fileTakenUptoCard : Claim7 := { stood := { row := fileTakenUptoRow, standIns := [], harness := (true, "150321277a3984d84d245d0b5218c155a5808e68a39a0d8efc7b1b6f7c0b0c8a"), looks := false }, kinds := [], alts := [], laidByText := true, laidKinds := [.data, .data, .pinned], laidTests := true, laidLooks := .later }
def FileTakenUptoCardSaid : Prop := Claim7.holds Tryd.pinned (.plain (OpenSpec.upto fileTakenSpec)) fileTakenUptoCard

/-- THE SECOND FORM's CARD OF 'epitomelaw21.FileBig'. -/
def fileBigUptoCard : Claim7 := { stood := { row := fileBigUptoRow, standIns := [], harness := (true, "150321277a3984d84d245d0b5218c155a5808e68a39a0d8efc7b1b6f7c0b0c8a"), looks := false }, kinds := [], alts := [], laidByText := true, laidKinds := [.data, .data, .pinned], laidTests := true, laidLooks := .later }
def FileBigUptoCardSaid : Prop := Claim7.holds Tryd.pinned (.plain (OpenSpec.upto fileBigSpec)) fileBigUptoCard

/-- THE SECOND FORM's CARD OF 'epitomelaw21.FileParts'. -/
def filePartsUptoCard : Claim7 := { stood := { row := filePartsUptoRow, standIns := [], harness := (true, "150321277a3984d84d245d0b5218c155a5808e68a39a0d8efc7b1b6f7c0b0c8a"), looks := false }, kinds := [], alts := [], laidByText := true, laidKinds := [.data, .data, .pinned], laidTests := true, laidLooks := .later }
def FilePartsUptoCardSaid : Prop := Claim7.holds Tryd.pinned (.plain (OpenSpec.upto filePartsSpec)) filePartsUptoCard

/-- THE SECOND FORM's CARD OF 'epitomelaw21.FileOdd'. -/
def fileOddUptoCard : Claim7 := { stood := { row := fileOddUptoRow, standIns := [], harness := (true, "150321277a3984d84d245d0b5218c155a5808e68a39a0d8efc7b1b6f7c0b0c8a"), looks := false }, kinds := [], alts := [], laidByText := true, laidKinds := [.data, .data, .pinned], laidTests := true, laidLooks := .later }
def FileOddUptoCardSaid : Prop := Claim7.holds Tryd.pinned (.plain (OpenSpec.upto fileOddSpec)) fileOddUptoCard

/-- THE SECOND FORM's CARD OF 'epitomelaw21.FileBack'. -/
def fileBackUptoCard : Claim7 := { stood := { row := fileBackUptoRow, standIns := [], harness := (true, "150321277a3984d84d245d0b5218c155a5808e68a39a0d8efc7b1b6f7c0b0c8a"), looks := false }, kinds := [], alts := [], laidByText := true, laidKinds := [.data, .data, .pinned], laidTests := true, laidLooks := .later }
def FileBackUptoCardSaid : Prop := Claim7.holds Tryd.pinned (.plain (OpenSpec.upto fileBackSpec)) fileBackUptoCard
end Rows
end Go.Proofs.YthdjbgbfboppcaaDoor
