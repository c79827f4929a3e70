/-
  DERIVED. GIVEN WITH THE SEED: THE CARDS: each row of YtadlnaljicikfaaDoorRows.lean that lists a variable, with what it lists TIED to the program's text (the seventh form; the later family's looks); each row that meets fmt, with fmt's text TOLD by the authors' own Lean function (tested against real Go, not proved from fmt's source: count such statements apart). THE CARD IS WHAT COUNTS. Prove the row's statement (the work); the ties are given (YtadlnaljicikfaaDoorTie.lean); close each card by the builder's one call (the guide's Derived/Test/ToyasCard.lean, 'card_holds'). Laid BY PROGRAM, IN A SANDBOX (cutbox-door.mjs). By AI agents, Wed Nov 11 2026. No macro, syntax, notation, axiom, sorry.
-/
import Derived.Test.YtadlnaljicikfaaDoorRows
import GoSem.ClaimSeven
namespace Go.Proofs.YtadlnaljicikfaaDoor
namespace Rows

/-- THE TIED CARD OF 'epitomelaw17.HistoryKeeps'. -/
def historyKeepsCard : Claim7 := { stood := { row := historyKeepsRow, standIns := [], harness := (true, "8cfac6e2e416323f8e197ee86058fe9ea384c7c01e00caf80bac7b31fc9ad4bf"), looks := false }, kinds := [], alts := [], laidByText := true, laidKinds := [.data, .data, .pinned], laidTests := true, laidLooks := .later }
def HistoryKeepsCardSaid : Prop := Claim7.holds Tryd.pinned (.plain (OpenSpec.ofChange historyKeepsSpec)) historyKeepsCard

/-- THE TIED CARD OF 'epitomelaw17.HistoryOver'. -/
def historyOverCard : Claim7 := { stood := { row := historyOverRow, standIns := [], harness := (true, "8cfac6e2e416323f8e197ee86058fe9ea384c7c01e00caf80bac7b31fc9ad4bf"), looks := false }, kinds := [], alts := [], laidByText := true, laidKinds := [.data, .data, .pinned], laidTests := true, laidLooks := .later }
def HistoryOverCardSaid : Prop := Claim7.holds Tryd.pinned (.plain (OpenSpec.ofChange historyOverSpec)) historyOverCard

/-- THE TIED CARD OF 'epitomelaw17.HistoryFirst'. -/
def historyFirstCard : Claim7 := { stood := { row := historyFirstRow, standIns := [], harness := (true, "8cfac6e2e416323f8e197ee86058fe9ea384c7c01e00caf80bac7b31fc9ad4bf"), looks := false }, kinds := [], alts := [], laidByText := true, laidKinds := [.data, .data, .pinned], laidTests := true, laidLooks := .later }
def HistoryFirstCardSaid : Prop := Claim7.holds Tryd.pinned (.plain (OpenSpec.ofChange historyFirstSpec)) historyFirstCard

/-- THE TIED CARD OF 'epitomelaw21.FileAll'. -/
def fileAllCard : Claim7 := { stood := { row := fileAllRow, standIns := [], harness := (true, "8cfac6e2e416323f8e197ee86058fe9ea384c7c01e00caf80bac7b31fc9ad4bf"), looks := false }, kinds := [], alts := [], laidByText := true, laidKinds := [.data, .data, .pinned], laidTests := true, laidLooks := .later }
def FileAllCardSaid : Prop := Claim7.holds Tryd.pinned (.plain (OpenSpec.ofChange fileAllSpec)) fileAllCard

/-- THE TIED CARD OF 'epitomelaw21.FileTaken'. -/
def fileTakenCard : Claim7 := { stood := { row := fileTakenRow, standIns := [], harness := (true, "8cfac6e2e416323f8e197ee86058fe9ea384c7c01e00caf80bac7b31fc9ad4bf"), looks := false }, kinds := [], alts := [], laidByText := true, laidKinds := [.data, .data, .pinned], laidTests := true, laidLooks := .later }
def FileTakenCardSaid : Prop := Claim7.holds Tryd.pinned (.plain (OpenSpec.ofChange fileTakenSpec)) fileTakenCard

/-- THE TIED CARD OF 'epitomelaw21.FileBig'. -/
def fileBigCard : Claim7 := { stood := { row := fileBigRow, standIns := [], harness := (true, "8cfac6e2e416323f8e197ee86058fe9ea384c7c01e00caf80bac7b31fc9ad4bf"), looks := false }, kinds := [], alts := [], laidByText := true, laidKinds := [.data, .data, .pinned], laidTests := true, laidLooks := .later }
def FileBigCardSaid : Prop := Claim7.holds Tryd.pinned (.plain (OpenSpec.ofChange fileBigSpec)) fileBigCard

/-- THE TIED CARD OF 'epitomelaw21.FileParts'. -/
def filePartsCard : Claim7 := { stood := { row := filePartsRow, standIns := [], harness := (true, "8cfac6e2e416323f8e197ee86058fe9ea384c7c01e00caf80bac7b31fc9ad4bf"), looks := false }, kinds := [], alts := [], laidByText := true, laidKinds := [.data, .data, .pinned], laidTests := true, laidLooks := .later }
def FilePartsCardSaid : Prop := Claim7.holds Tryd.pinned (.plain (OpenSpec.ofChange filePartsSpec)) filePartsCard

/-- THE TIED CARD OF 'epitomelaw21.FileOdd'. -/
def fileOddCard : Claim7 := { stood := { row := fileOddRow, standIns := [], harness := (true, "8cfac6e2e416323f8e197ee86058fe9ea384c7c01e00caf80bac7b31fc9ad4bf"), looks := false }, kinds := [], alts := [], laidByText := true, laidKinds := [.data, .data, .pinned], laidTests := true, laidLooks := .later }
def FileOddCardSaid : Prop := Claim7.holds Tryd.pinned (.plain (OpenSpec.ofChange fileOddSpec)) fileOddCard

/-- THE TIED CARD OF 'epitomelaw17.HistoryPlays'. -/
def historyPlaysCard : Claim7 := { stood := { row := historyPlaysRow, standIns := [], harness := (true, "8cfac6e2e416323f8e197ee86058fe9ea384c7c01e00caf80bac7b31fc9ad4bf"), looks := false }, kinds := [], alts := [], laidByText := true, laidKinds := [.data, .data, .pinned], laidTests := true, laidLooks := .later }
def HistoryPlaysCardSaid : Prop := Claim7.holds Tryd.pinned (.plain (OpenSpec.ofChange historyPlaysSpec)) historyPlaysCard

/-- THE TIED CARD OF 'epitomelaw17.HistoryRuns'. -/
def historyRunsCard : Claim7 := { stood := { row := historyRunsRow, standIns := [], harness := (true, "8cfac6e2e416323f8e197ee86058fe9ea384c7c01e00caf80bac7b31fc9ad4bf"), looks := false }, kinds := [], alts := [], laidByText := true, laidKinds := [.data, .data, .pinned], laidTests := true, laidLooks := .later }
def HistoryRunsCardSaid : Prop := Claim7.holds Tryd.pinned (.plain (OpenSpec.ofChange historyRunsSpec)) historyRunsCard

/-- THE TIED CARD OF 'epitomelaw20.CompactAll'. -/
def compactAllCard : Claim7 := { stood := { row := compactAllRow, standIns := [], harness := (true, "8cfac6e2e416323f8e197ee86058fe9ea384c7c01e00caf80bac7b31fc9ad4bf"), looks := false }, kinds := [], alts := [], laidByText := true, laidKinds := [.data, .data, .pinned], laidTests := true, laidLooks := .later }
def CompactAllCardSaid : Prop := Claim7.holds Tryd.pinned (.plain (OpenSpec.ofChange compactAllSpec)) compactAllCard

/-- THE TIED CARD OF 'epitomelaw20.CompactTwice'. -/
def compactTwiceCard : Claim7 := { stood := { row := compactTwiceRow, standIns := [], harness := (true, "8cfac6e2e416323f8e197ee86058fe9ea384c7c01e00caf80bac7b31fc9ad4bf"), looks := false }, kinds := [], alts := [], laidByText := true, laidKinds := [.data, .data, .pinned], laidTests := true, laidLooks := .later }
def CompactTwiceCardSaid : Prop := Claim7.holds Tryd.pinned (.plain (OpenSpec.ofChange compactTwiceSpec)) compactTwiceCard

/-- THE TIED CARD OF 'epitomelaw20.CompactEnds'. -/
def compactEndsCard : Claim7 := { stood := { row := compactEndsRow, standIns := [], harness := (true, "8cfac6e2e416323f8e197ee86058fe9ea384c7c01e00caf80bac7b31fc9ad4bf"), looks := false }, kinds := [], alts := [], laidByText := true, laidKinds := [.data, .data, .pinned], laidTests := true, laidLooks := .later }
def CompactEndsCardSaid : Prop := Claim7.holds Tryd.pinned (.plain (OpenSpec.ofChange compactEndsSpec)) compactEndsCard

/-- THE TIED CARD OF 'epitomelaw20.CompactRuns'. -/
def compactRunsCard : Claim7 := { stood := { row := compactRunsRow, standIns := [], harness := (true, "8cfac6e2e416323f8e197ee86058fe9ea384c7c01e00caf80bac7b31fc9ad4bf"), looks := false }, kinds := [], alts := [], laidByText := true, laidKinds := [.data, .data, .pinned], laidTests := true, laidLooks := .later }
def CompactRunsCardSaid : Prop := Claim7.holds Tryd.pinned (.plain (OpenSpec.ofChange compactRunsSpec)) compactRunsCard

/-- THE TIED CARD OF 'epitomelaw20.CompactFloor'. -/
def compactFloorCard : Claim7 := { stood := { row := compactFloorRow, standIns := [], harness := (true, "8cfac6e2e416323f8e197ee86058fe9ea384c7c01e00caf80bac7b31fc9ad4bf"), looks := false }, kinds := [], alts := [], laidByText := true, laidKinds := [.data, .data, .pinned], laidTests := true, laidLooks := .later }
def CompactFloorCardSaid : Prop := Claim7.holds Tryd.pinned (.plain (OpenSpec.ofChange compactFloorSpec)) compactFloorCard

/-- THE TIED CARD OF 'epitomelaw20.CompactTexts'. -/
def compactTextsCard : Claim7 := { stood := { row := compactTextsRow, standIns := [], harness := (true, "8cfac6e2e416323f8e197ee86058fe9ea384c7c01e00caf80bac7b31fc9ad4bf"), looks := false }, kinds := [], alts := [], laidByText := true, laidKinds := [.data, .data, .pinned], laidTests := true, laidLooks := .later }
def CompactTextsCardSaid : Prop := Claim7.holds Tryd.pinned (.plain (OpenSpec.ofChange compactTextsSpec)) compactTextsCard

/-- THE TIED CARD OF 'epitomelaw20.CompactLess'. -/
def compactLessCard : Claim7 := { stood := { row := compactLessRow, standIns := [], harness := (true, "8cfac6e2e416323f8e197ee86058fe9ea384c7c01e00caf80bac7b31fc9ad4bf"), looks := false }, kinds := [], alts := [], laidByText := true, laidKinds := [.data, .data, .pinned], laidTests := true, laidLooks := .later }
def CompactLessCardSaid : Prop := Claim7.holds Tryd.pinned (.plain (OpenSpec.ofChange compactLessSpec)) compactLessCard

/-- THE TIED CARD OF 'epitomelaw20.CompactOver'. -/
def compactOverCard : Claim7 := { stood := { row := compactOverRow, standIns := [], harness := (true, "8cfac6e2e416323f8e197ee86058fe9ea384c7c01e00caf80bac7b31fc9ad4bf"), looks := false }, kinds := [], alts := [], laidByText := true, laidKinds := [.data, .data, .pinned], laidTests := true, laidLooks := .later }
def CompactOverCardSaid : Prop := Claim7.holds Tryd.pinned (.plain (OpenSpec.ofChange compactOverSpec)) compactOverCard

/-- THE TIED CARD OF 'epitomelaw21.FileBack'. -/
def fileBackCard : Claim7 := { stood := { row := fileBackRow, standIns := [], harness := (true, "8cfac6e2e416323f8e197ee86058fe9ea384c7c01e00caf80bac7b31fc9ad4bf"), looks := false }, kinds := [], alts := [], laidByText := true, laidKinds := [.data, .data, .pinned], laidTests := true, laidLooks := .later }
def FileBackCardSaid : Prop := Claim7.holds Tryd.pinned (.plain (OpenSpec.ofChange fileBackSpec)) fileBackCard

/-- THE SECOND FORM's CARD OF 'epitomelaw17.HistoryKeeps'. -/
def historyKeepsUptoCard : Claim7 := { stood := { row := historyKeepsUptoRow, standIns := [], harness := (true, "8cfac6e2e416323f8e197ee86058fe9ea384c7c01e00caf80bac7b31fc9ad4bf"), looks := false }, kinds := [], alts := [], laidByText := true, laidKinds := [.data, .data, .pinned], laidTests := true, laidLooks := .later }
def HistoryKeepsUptoCardSaid : Prop := Claim7.holds Tryd.pinned (.plain (OpenSpec.upto historyKeepsSpec)) historyKeepsUptoCard

/-- THE SECOND FORM's CARD OF 'epitomelaw17.HistoryOver'. -/
def historyOverUptoCard : Claim7 := { stood := { row := historyOverUptoRow, standIns := [], harness := (true, "8cfac6e2e416323f8e197ee86058fe9ea384c7c01e00caf80bac7b31fc9ad4bf"), looks := false }, kinds := [], alts := [], laidByText := true, laidKinds := [.data, .data, .pinned], laidTests := true, laidLooks := .later }
def HistoryOverUptoCardSaid : Prop := Claim7.holds Tryd.pinned (.plain (OpenSpec.upto historyOverSpec)) historyOverUptoCard

/-- THE SECOND FORM's CARD OF 'epitomelaw17.HistoryFirst'. -/
def historyFirstUptoCard : Claim7 := { stood := { row := historyFirstUptoRow, standIns := [], harness := (true, "8cfac6e2e416323f8e197ee86058fe9ea384c7c01e00caf80bac7b31fc9ad4bf"), looks := false }, kinds := [], alts := [], laidByText := true, laidKinds := [.data, .data, .pinned], laidTests := true, laidLooks := .later }
def HistoryFirstUptoCardSaid : Prop := Claim7.holds Tryd.pinned (.plain (OpenSpec.upto historyFirstSpec)) historyFirstUptoCard

/-- THE SECOND FORM's CARD OF 'epitomelaw21.FileAll'. -/
def fileAllUptoCard : Claim7 := { stood := { row := fileAllUptoRow, standIns := [], harness := (true, "8cfac6e2e416323f8e197ee86058fe9ea384c7c01e00caf80bac7b31fc9ad4bf"), looks := false }, kinds := [], alts := [], laidByText := true, laidKinds := [.data, .data, .pinned], laidTests := true, laidLooks := .later }
def FileAllUptoCardSaid : Prop := Claim7.holds Tryd.pinned (.plain (OpenSpec.upto fileAllSpec)) fileAllUptoCard

/-- THE SECOND FORM's CARD OF 'epitomelaw21.FileTaken'. -/
def fileTakenUptoCard : Claim7 := { stood := { row := fileTakenUptoRow, standIns := [], harness := (true, "8cfac6e2e416323f8e197ee86058fe9ea384c7c01e00caf80bac7b31fc9ad4bf"), looks := false }, kinds := [], alts := [], laidByText := true, laidKinds := [.data, .data, .pinned], laidTests := true, laidLooks := .later }
def FileTakenUptoCardSaid : Prop := Claim7.holds Tryd.pinned (.plain (OpenSpec.upto fileTakenSpec)) fileTakenUptoCard

/-- THE SECOND FORM's CARD OF 'epitomelaw21.FileBig'. -/
def fileBigUptoCard : Claim7 := { stood := { row := fileBigUptoRow, standIns := [], harness := (true, "8cfac6e2e416323f8e197ee86058fe9ea384c7c01e00caf80bac7b31fc9ad4bf"), looks := false }, kinds := [], alts := [], laidByText := true, laidKinds := [.data, .data, .pinned], laidTests := true, laidLooks := .later }
def FileBigUptoCardSaid : Prop := Claim7.holds Tryd.pinned (.plain (OpenSpec.upto fileBigSpec)) fileBigUptoCard

/-- THE SECOND FORM's CARD OF 'epitomelaw21.FileParts'. -/
def filePartsUptoCard : Claim7 := { stood := { row := filePartsUptoRow, standIns := [], harness := (true, "8cfac6e2e416323f8e197ee86058fe9ea384c7c01e00caf80bac7b31fc9ad4bf"), looks := false }, kinds := [], alts := [], laidByText := true, laidKinds := [.data, .data, .pinned], laidTests := true, laidLooks := .later }
def FilePartsUptoCardSaid : Prop := Claim7.holds Tryd.pinned (.plain (OpenSpec.upto filePartsSpec)) filePartsUptoCard

/-- THE SECOND FORM's CARD OF 'epitomelaw21.FileOdd'. -/
def fileOddUptoCard : Claim7 := { stood := { row := fileOddUptoRow, standIns := [], harness := (true, "8cfac6e2e416323f8e197ee86058fe9ea384c7c01e00caf80bac7b31fc9ad4bf"), looks := false }, kinds := [], alts := [], laidByText := true, laidKinds := [.data, .data, .pinned], laidTests := true, laidLooks := .later }
def FileOddUptoCardSaid : Prop := Claim7.holds Tryd.pinned (.plain (OpenSpec.upto fileOddSpec)) fileOddUptoCard

/-- THE SECOND FORM's CARD OF 'epitomelaw17.HistoryPlays'. -/
def historyPlaysUptoCard : Claim7 := { stood := { row := historyPlaysUptoRow, standIns := [], harness := (true, "8cfac6e2e416323f8e197ee86058fe9ea384c7c01e00caf80bac7b31fc9ad4bf"), looks := false }, kinds := [], alts := [], laidByText := true, laidKinds := [.data, .data, .pinned], laidTests := true, laidLooks := .later }
def HistoryPlaysUptoCardSaid : Prop := Claim7.holds Tryd.pinned (.plain (OpenSpec.upto historyPlaysSpec)) historyPlaysUptoCard

/-- THE SECOND FORM's CARD OF 'epitomelaw17.HistoryRuns'. -/
def historyRunsUptoCard : Claim7 := { stood := { row := historyRunsUptoRow, standIns := [], harness := (true, "8cfac6e2e416323f8e197ee86058fe9ea384c7c01e00caf80bac7b31fc9ad4bf"), looks := false }, kinds := [], alts := [], laidByText := true, laidKinds := [.data, .data, .pinned], laidTests := true, laidLooks := .later }
def HistoryRunsUptoCardSaid : Prop := Claim7.holds Tryd.pinned (.plain (OpenSpec.upto historyRunsSpec)) historyRunsUptoCard

/-- THE SECOND FORM's CARD OF 'epitomelaw20.CompactAll'. -/
def compactAllUptoCard : Claim7 := { stood := { row := compactAllUptoRow, standIns := [], harness := (true, "8cfac6e2e416323f8e197ee86058fe9ea384c7c01e00caf80bac7b31fc9ad4bf"), looks := false }, kinds := [], alts := [], laidByText := true, laidKinds := [.data, .data, .pinned], laidTests := true, laidLooks := .later }
def CompactAllUptoCardSaid : Prop := Claim7.holds Tryd.pinned (.plain (OpenSpec.upto compactAllSpec)) compactAllUptoCard

/-- THE SECOND FORM's CARD OF 'epitomelaw20.CompactTwice'. -/
def compactTwiceUptoCard : Claim7 := { stood := { row := compactTwiceUptoRow, standIns := [], harness := (true, "8cfac6e2e416323f8e197ee86058fe9ea384c7c01e00caf80bac7b31fc9ad4bf"), looks := false }, kinds := [], alts := [], laidByText := true, laidKinds := [.data, .data, .pinned], laidTests := true, laidLooks := .later }
def CompactTwiceUptoCardSaid : Prop := Claim7.holds Tryd.pinned (.plain (OpenSpec.upto compactTwiceSpec)) compactTwiceUptoCard

/-- THE SECOND FORM's CARD OF 'epitomelaw20.CompactEnds'. -/
def compactEndsUptoCard : Claim7 := { stood := { row := compactEndsUptoRow, standIns := [], harness := (true, "8cfac6e2e416323f8e197ee86058fe9ea384c7c01e00caf80bac7b31fc9ad4bf"), looks := false }, kinds := [], alts := [], laidByText := true, laidKinds := [.data, .data, .pinned], laidTests := true, laidLooks := .later }
def CompactEndsUptoCardSaid : Prop := Claim7.holds Tryd.pinned (.plain (OpenSpec.upto compactEndsSpec)) compactEndsUptoCard

/-- THE SECOND FORM's CARD OF 'epitomelaw20.CompactRuns'. -/
def compactRunsUptoCard : Claim7 := { stood := { row := compactRunsUptoRow, standIns := [], harness := (true, "8cfac6e2e416323f8e197ee86058fe9ea384c7c01e00caf80bac7b31fc9ad4bf"), looks := false }, kinds := [], alts := [], laidByText := true, laidKinds := [.data, .data, .pinned], laidTests := true, laidLooks := .later }
def CompactRunsUptoCardSaid : Prop := Claim7.holds Tryd.pinned (.plain (OpenSpec.upto compactRunsSpec)) compactRunsUptoCard

/-- THE SECOND FORM's CARD OF 'epitomelaw20.CompactFloor'. -/
def compactFloorUptoCard : Claim7 := { stood := { row := compactFloorUptoRow, standIns := [], harness := (true, "8cfac6e2e416323f8e197ee86058fe9ea384c7c01e00caf80bac7b31fc9ad4bf"), looks := false }, kinds := [], alts := [], laidByText := true, laidKinds := [.data, .data, .pinned], laidTests := true, laidLooks := .later }
def CompactFloorUptoCardSaid : Prop := Claim7.holds Tryd.pinned (.plain (OpenSpec.upto compactFloorSpec)) compactFloorUptoCard

/-- THE SECOND FORM's CARD OF 'epitomelaw20.CompactTexts'. -/
def compactTextsUptoCard : Claim7 := { stood := { row := compactTextsUptoRow, standIns := [], harness := (true, "8cfac6e2e416323f8e197ee86058fe9ea384c7c01e00caf80bac7b31fc9ad4bf"), looks := false }, kinds := [], alts := [], laidByText := true, laidKinds := [.data, .data, .pinned], laidTests := true, laidLooks := .later }
def CompactTextsUptoCardSaid : Prop := Claim7.holds Tryd.pinned (.plain (OpenSpec.upto compactTextsSpec)) compactTextsUptoCard

/-- THE SECOND FORM's CARD OF 'epitomelaw20.CompactLess'. -/
def compactLessUptoCard : Claim7 := { stood := { row := compactLessUptoRow, standIns := [], harness := (true, "8cfac6e2e416323f8e197ee86058fe9ea384c7c01e00caf80bac7b31fc9ad4bf"), looks := false }, kinds := [], alts := [], laidByText := true, laidKinds := [.data, .data, .pinned], laidTests := true, laidLooks := .later }
def CompactLessUptoCardSaid : Prop := Claim7.holds Tryd.pinned (.plain (OpenSpec.upto compactLessSpec)) compactLessUptoCard

/-- THE SECOND FORM's CARD OF 'epitomelaw20.CompactOver'. -/
def compactOverUptoCard : Claim7 := { stood := { row := compactOverUptoRow, standIns := [], harness := (true, "8cfac6e2e416323f8e197ee86058fe9ea384c7c01e00caf80bac7b31fc9ad4bf"), looks := false }, kinds := [], alts := [], laidByText := true, laidKinds := [.data, .data, .pinned], laidTests := true, laidLooks := .later }
def CompactOverUptoCardSaid : Prop := Claim7.holds Tryd.pinned (.plain (OpenSpec.upto compactOverSpec)) compactOverUptoCard

/-- THE SECOND FORM's CARD OF 'epitomelaw21.FileBack'. -/
def fileBackUptoCard : Claim7 := { stood := { row := fileBackUptoRow, standIns := [], harness := (true, "8cfac6e2e416323f8e197ee86058fe9ea384c7c01e00caf80bac7b31fc9ad4bf"), looks := false }, kinds := [], alts := [], laidByText := true, laidKinds := [.data, .data, .pinned], laidTests := true, laidLooks := .later }
def FileBackUptoCardSaid : Prop := Claim7.holds Tryd.pinned (.plain (OpenSpec.upto fileBackSpec)) fileBackUptoCard
end Rows
end Go.Proofs.YtadlnaljicikfaaDoor
