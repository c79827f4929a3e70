/-
  DERIVED. GIVEN WITH THE SEED: THE CARDS: each row of YtdgpilapblipbaaDoorRows.lean that lists a variable, with what it lists TIED to the program's text (the seventh form; the later family's looks); each row that meets fmt, with fmt's text TOLD by the authors' own Lean function (tested against real Go, not proved from fmt's source: count such statements apart). THE CARD IS WHAT COUNTS. Prove the row's statement (the work); the ties are given (YtdgpilapblipbaaDoorTie.lean); close each card by the builder's one call (the guide's Derived/Test/ToyasCard.lean, 'card_holds'). Laid BY PROGRAM, IN A SANDBOX (cutbox-door.mjs). By AI agents, Wed Nov 11 2026. No macro, syntax, notation, axiom, sorry.
-/
import Derived.Test.YtdgpilapblipbaaDoorRows
import GoSem.ClaimSeven
namespace Go.Proofs.YtdgpilapblipbaaDoor
namespace Rows

/-- THE TIED CARD OF 'epitomelaw03.SpanAll'. -/
def spanAllCard : Claim7 := { stood := { row := spanAllRow, standIns := [], harness := (true, "b7533793832ab39c3d6065818df8c9745e3ddfad514377279559982d1aac5b0d"), looks := false }, kinds := [], alts := [], laidByText := true, laidKinds := [.data, .data, .pinned], laidTests := true, laidLooks := .later }
def SpanAllCardSaid : Prop := Claim7.holds Tryd.pinned (.plain (OpenSpec.ofChange spanAllSpec)) spanAllCard

/-- THE TIED CARD OF 'epitomelaw03.SpanKinds'. -/
def spanKindsCard : Claim7 := { stood := { row := spanKindsRow, standIns := [], harness := (true, "b7533793832ab39c3d6065818df8c9745e3ddfad514377279559982d1aac5b0d"), looks := false }, kinds := [], alts := [], laidByText := true, laidKinds := [.data, .data, .pinned], laidTests := true, laidLooks := .later }
def SpanKindsCardSaid : Prop := Claim7.holds Tryd.pinned (.plain (OpenSpec.ofChange spanKindsSpec)) spanKindsCard

/-- THE TIED CARD OF 'epitomelaw03.SpanTexts'. -/
def spanTextsCard : Claim7 := { stood := { row := spanTextsRow, standIns := [], harness := (true, "b7533793832ab39c3d6065818df8c9745e3ddfad514377279559982d1aac5b0d"), looks := false }, kinds := [], alts := [], laidByText := true, laidKinds := [.data, .data, .pinned], laidTests := true, laidLooks := .later }
def SpanTextsCardSaid : Prop := Claim7.holds Tryd.pinned (.plain (OpenSpec.ofChange spanTextsSpec)) spanTextsCard

/-- THE TIED CARD OF 'epitomelaw04.OpAll'. -/
def opAllCard : Claim7 := { stood := { row := opAllRow, standIns := [], harness := (true, "b7533793832ab39c3d6065818df8c9745e3ddfad514377279559982d1aac5b0d"), looks := false }, kinds := [], alts := [], laidByText := true, laidKinds := [.data, .data, .pinned], laidTests := true, laidLooks := .later }
def OpAllCardSaid : Prop := Claim7.holds Tryd.pinned (.plain (OpenSpec.ofChange opAllSpec)) opAllCard

/-- THE TIED CARD OF 'epitomelaw04.OpJoins'. -/
def opJoinsCard : Claim7 := { stood := { row := opJoinsRow, standIns := [], harness := (true, "b7533793832ab39c3d6065818df8c9745e3ddfad514377279559982d1aac5b0d"), looks := false }, kinds := [], alts := [], laidByText := true, laidKinds := [.data, .data, .pinned], laidTests := true, laidLooks := .later }
def OpJoinsCardSaid : Prop := Claim7.holds Tryd.pinned (.plain (OpenSpec.ofChange opJoinsSpec)) opJoinsCard

/-- THE TIED CARD OF 'epitomelaw04.OpKeeps'. -/
def opKeepsCard : Claim7 := { stood := { row := opKeepsRow, standIns := [], harness := (true, "b7533793832ab39c3d6065818df8c9745e3ddfad514377279559982d1aac5b0d"), looks := false }, kinds := [], alts := [], laidByText := true, laidKinds := [.data, .data, .pinned], laidTests := true, laidLooks := .later }
def OpKeepsCardSaid : Prop := Claim7.holds Tryd.pinned (.plain (OpenSpec.ofChange opKeepsSpec)) opKeepsCard

/-- THE TIED CARD OF 'epitomelaw04.OpBounds'. -/
def opBoundsCard : Claim7 := { stood := { row := opBoundsRow, standIns := [], harness := (true, "b7533793832ab39c3d6065818df8c9745e3ddfad514377279559982d1aac5b0d"), looks := false }, kinds := [], alts := [], laidByText := true, laidKinds := [.data, .data, .pinned], laidTests := true, laidLooks := .later }
def OpBoundsCardSaid : Prop := Claim7.holds Tryd.pinned (.plain (OpenSpec.ofChange opBoundsSpec)) opBoundsCard

/-- THE SECOND FORM's CARD OF 'epitomelaw03.SpanAll'. -/
def spanAllUptoCard : Claim7 := { stood := { row := spanAllUptoRow, standIns := [], harness := (true, "b7533793832ab39c3d6065818df8c9745e3ddfad514377279559982d1aac5b0d"), looks := false }, kinds := [], alts := [], laidByText := true, laidKinds := [.data, .data, .pinned], laidTests := true, laidLooks := .later }
def SpanAllUptoCardSaid : Prop := Claim7.holds Tryd.pinned (.plain (OpenSpec.upto spanAllSpec)) spanAllUptoCard

/-- THE SECOND FORM's CARD OF 'epitomelaw03.SpanKinds'. -/
def spanKindsUptoCard : Claim7 := { stood := { row := spanKindsUptoRow, standIns := [], harness := (true, "b7533793832ab39c3d6065818df8c9745e3ddfad514377279559982d1aac5b0d"), looks := false }, kinds := [], alts := [], laidByText := true, laidKinds := [.data, .data, .pinned], laidTests := true, laidLooks := .later }
def SpanKindsUptoCardSaid : Prop := Claim7.holds Tryd.pinned (.plain (OpenSpec.upto spanKindsSpec)) spanKindsUptoCard

/-- THE SECOND FORM's CARD OF 'epitomelaw03.SpanTexts'. -/
def spanTextsUptoCard : Claim7 := { stood := { row := spanTextsUptoRow, standIns := [], harness := (true, "b7533793832ab39c3d6065818df8c9745e3ddfad514377279559982d1aac5b0d"), looks := false }, kinds := [], alts := [], laidByText := true, laidKinds := [.data, .data, .pinned], laidTests := true, laidLooks := .later }
def SpanTextsUptoCardSaid : Prop := Claim7.holds Tryd.pinned (.plain (OpenSpec.upto spanTextsSpec)) spanTextsUptoCard

/-- THE SECOND FORM's CARD OF 'epitomelaw04.OpAll'. -/
def opAllUptoCard : Claim7 := { stood := { row := opAllUptoRow, standIns := [], harness := (true, "b7533793832ab39c3d6065818df8c9745e3ddfad514377279559982d1aac5b0d"), looks := false }, kinds := [], alts := [], laidByText := true, laidKinds := [.data, .data, .pinned], laidTests := true, laidLooks := .later }
def OpAllUptoCardSaid : Prop := Claim7.holds Tryd.pinned (.plain (OpenSpec.upto opAllSpec)) opAllUptoCard

/-- THE SECOND FORM's CARD OF 'epitomelaw04.OpJoins'. -/
def opJoinsUptoCard : Claim7 := { stood := { row := opJoinsUptoRow, standIns := [], harness := (true, "b7533793832ab39c3d6065818df8c9745e3ddfad514377279559982d1aac5b0d"), looks := false }, kinds := [], alts := [], laidByText := true, laidKinds := [.data, .data, .pinned], laidTests := true, laidLooks := .later }
def OpJoinsUptoCardSaid : Prop := Claim7.holds Tryd.pinned (.plain (OpenSpec.upto opJoinsSpec)) opJoinsUptoCard

/-- THE SECOND FORM's CARD OF 'epitomelaw04.OpKeeps'. -/
def opKeepsUptoCard : Claim7 := { stood := { row := opKeepsUptoRow, standIns := [], harness := (true, "b7533793832ab39c3d6065818df8c9745e3ddfad514377279559982d1aac5b0d"), looks := false }, kinds := [], alts := [], laidByText := true, laidKinds := [.data, .data, .pinned], laidTests := true, laidLooks := .later }
def OpKeepsUptoCardSaid : Prop := Claim7.holds Tryd.pinned (.plain (OpenSpec.upto opKeepsSpec)) opKeepsUptoCard

/-- THE SECOND FORM's CARD OF 'epitomelaw04.OpBounds'. -/
def opBoundsUptoCard : Claim7 := { stood := { row := opBoundsUptoRow, standIns := [], harness := (true, "b7533793832ab39c3d6065818df8c9745e3ddfad514377279559982d1aac5b0d"), looks := false }, kinds := [], alts := [], laidByText := true, laidKinds := [.data, .data, .pinned], laidTests := true, laidLooks := .later }
def OpBoundsUptoCardSaid : Prop := Claim7.holds Tryd.pinned (.plain (OpenSpec.upto opBoundsSpec)) opBoundsUptoCard
end Rows
end Go.Proofs.YtdgpilapblipbaaDoor
