/-
  NARROWER THAN 'FOR EVERY INPUT', by the rows' own cells (each row's printed sentence says how): SpanAll: laid · SpanKinds: laid · SpanTexts: laid · OpAll: laid · OpJoins: laid · OpKeeps: laid · OpBounds: laid.
  DERIVED. THE GIVEN ROWS OF THIS SEAT. 7 by the template 'for every input the law returns true; each argument reads behind the call as it read before'; 0 by the template 'total and deterministic' (their statements: YtdgpilapblipbaaDoorTotals.lean).
  GIVEN WITH THE SEED: the statements are not yours to turn. If you find one false, say at which input.
  Laid BY PROGRAM, IN A SANDBOX (cutbox-rows.mjs): the forced cells as the released guide's own fill.sh prints them over the translation a0945191f9843b5c… (all of the seat's roots in one cut). By AI agents, Wed Nov 11 2026. No macro, syntax, notation, axiom, sorry.
-/
import Derived.Test.YtdgpilapblipbaaDoorChecked
import GoSem.PinnedTables
import GoSem.Claim
import GoSem.ClaimJoined
import GoSem.ClaimMapViews
import Derived.JoinedTies
import Derived.KernelRfl
namespace Go.Proofs.YtdgpilapblipbaaDoor
/- THE CELL 'sum', in the pinned program and in every row, IS THE sha256 OF THE DUMP (.gsa) THAT YtdgpilapblipbaaDoorProg.lean LOADS. Nothing in Lean hashes anything: it is a label: what it is worth is what the hold of that sum in a sandbox is worth. -/
noncomputable def Tryd.pinned : Pinned := { name := "ytdgpilapblipbaadoor", sum := "a0945191f9843b5cd94b8514bcb5982cca1ac7a4a551e8f8c9472a4ec56d4c20", checked := Tryd.checked }
namespace Rows
def none {H : Type} : Left H := { results := [], args := [] }

/- WHAT THE LISTED PACKAGE-LEVEL VARIABLES READ AS WHEN THE CALL BEGINS. Each datum BY PROGRAM (the guide's laid-datum.mjs) off the statement by which the dump's own 'gosem.cut.vars' lays the variable. In a bare row this is a premise. The card (YtdgpilapblipbaaDoorCards.lean) ties it to the program's text. -/
def laid_unicode_utf8_acceptRanges {H : Type} : DataW H := .agg [.agg [.lit (.int .u8 128), .lit (.int .u8 191)], .agg [.lit (.int .u8 160), .lit (.int .u8 191)], .agg [.lit (.int .u8 128), .lit (.int .u8 159)], .agg [.lit (.int .u8 144), .lit (.int .u8 191)], .agg [.lit (.int .u8 128), .lit (.int .u8 143)], .agg [.lit (.int .u8 0), .lit (.int .u8 0)], .agg [.lit (.int .u8 0), .lit (.int .u8 0)], .agg [.lit (.int .u8 0), .lit (.int .u8 0)], .agg [.lit (.int .u8 0), .lit (.int .u8 0)], .agg [.lit (.int .u8 0), .lit (.int .u8 0)], .agg [.lit (.int .u8 0), .lit (.int .u8 0)], .agg [.lit (.int .u8 0), .lit (.int .u8 0)], .agg [.lit (.int .u8 0), .lit (.int .u8 0)], .agg [.lit (.int .u8 0), .lit (.int .u8 0)], .agg [.lit (.int .u8 0), .lit (.int .u8 0)], .agg [.lit (.int .u8 0), .lit (.int .u8 0)]]
def laid_epitome_span_kinds {H : Type} : DataW H := .agg [.agg [.lit (.bool false), .lit (.bool false)], .agg [.lit (.bool true), .lit (.bool true)], .agg [.lit (.bool false), .lit (.bool false)], .agg [.lit (.bool true), .lit (.bool false)]]
/-- One of Go's own tables, pinned by name: the form's constant. -/
def laid_unicode_utf8_first : DataW Unit := Go.Pinned.utf8First

/-- 'epitomelaw03.SpanAll': WHATEVER THE INPUT: true; the input reads as it did. -/
def spanAllSpec : ChangeSpec := { name := "spanAll", fn := fun _ => fun
  | [d] => { results := [.lit (.bool true)], args := [d] }
  | _ => none }
def spanAllRow : OpenClaim := { program := "ytdgpilapblipbaadoor", sum := "a0945191f9843b5cd94b8514bcb5982cca1ac7a4a551e8f8c9472a4ec56d4c20", func := "epitome/epitomelaw03.SpanAll", spec := "spanAll", named := ["epitome/span.kinds", "unicode/utf8.first", "unicode/utf8.acceptRanges"], apart := false, laid := [("unicode/utf8.acceptRanges", laid_unicode_utf8_acceptRanges), ("epitome/span.kinds", laid_epitome_span_kinds), ("unicode/utf8.first", laid_unicode_utf8_first)] }
def SpanAllSaid : Prop := spanAllRow.holds Tryd.pinned (OpenSpec.ofChange spanAllSpec)

/-- ITS FALSE NEIGHBOUR: 'it returns false'. Refute it at one input. -/
def spanAllWrong : ChangeSpec := { name := "spanAll", fn := fun _ => fun
  | [d] => { results := [.lit (.bool false)], args := [d] }
  | _ => none }
def SpanAllWrongFalsely : Prop := spanAllRow.holds Tryd.pinned (OpenSpec.ofChange spanAllWrong)

/-- 'epitomelaw03.SpanKinds': WHATEVER THE INPUT: true; the input reads as it did. -/
def spanKindsSpec : ChangeSpec := { name := "spanKinds", fn := fun _ => fun
  | [d1, d2] => { results := [.lit (.bool true)], args := [d1, d2] }
  | _ => none }
def spanKindsRow : OpenClaim := { program := "ytdgpilapblipbaadoor", sum := "a0945191f9843b5cd94b8514bcb5982cca1ac7a4a551e8f8c9472a4ec56d4c20", func := "epitome/epitomelaw03.SpanKinds", spec := "spanKinds", named := ["epitome/span.kinds", "unicode/utf8.first", "unicode/utf8.acceptRanges"], apart := false, laid := [("unicode/utf8.acceptRanges", laid_unicode_utf8_acceptRanges), ("epitome/span.kinds", laid_epitome_span_kinds), ("unicode/utf8.first", laid_unicode_utf8_first)] }
def SpanKindsSaid : Prop := spanKindsRow.holds Tryd.pinned (OpenSpec.ofChange spanKindsSpec)

/-- ITS FALSE NEIGHBOUR: 'it returns false'. Refute it at one input. -/
def spanKindsWrong : ChangeSpec := { name := "spanKinds", fn := fun _ => fun
  | [d1, d2] => { results := [.lit (.bool false)], args := [d1, d2] }
  | _ => none }
def SpanKindsWrongFalsely : Prop := spanKindsRow.holds Tryd.pinned (OpenSpec.ofChange spanKindsWrong)

/-- 'epitomelaw03.SpanTexts': WHATEVER THE INPUT: true; the input reads as it did. -/
def spanTextsSpec : ChangeSpec := { name := "spanTexts", fn := fun _ => fun
  | [d1, d2, d3] => { results := [.lit (.bool true)], args := [d1, d2, d3] }
  | _ => none }
def spanTextsRow : OpenClaim := { program := "ytdgpilapblipbaadoor", sum := "a0945191f9843b5cd94b8514bcb5982cca1ac7a4a551e8f8c9472a4ec56d4c20", func := "epitome/epitomelaw03.SpanTexts", spec := "spanTexts", named := ["epitome/span.kinds", "unicode/utf8.first", "unicode/utf8.acceptRanges"], apart := false, laid := [("unicode/utf8.acceptRanges", laid_unicode_utf8_acceptRanges), ("epitome/span.kinds", laid_epitome_span_kinds), ("unicode/utf8.first", laid_unicode_utf8_first)] }
def SpanTextsSaid : Prop := spanTextsRow.holds Tryd.pinned (OpenSpec.ofChange spanTextsSpec)

/-- ITS FALSE NEIGHBOUR: 'it returns false'. Refute it at one input. -/
def spanTextsWrong : ChangeSpec := { name := "spanTexts", fn := fun _ => fun
  | [d1, d2, d3] => { results := [.lit (.bool false)], args := [d1, d2, d3] }
  | _ => none }
def SpanTextsWrongFalsely : Prop := spanTextsRow.holds Tryd.pinned (OpenSpec.ofChange spanTextsWrong)

/-- 'epitomelaw04.OpAll': WHATEVER THE INPUT: true; the input reads as it did. -/
def opAllSpec : ChangeSpec := { name := "opAll", fn := fun _ => fun
  | [d1, d2] => { results := [.lit (.bool true)], args := [d1, d2] }
  | _ => none }
def opAllRow : OpenClaim := { program := "ytdgpilapblipbaadoor", sum := "a0945191f9843b5cd94b8514bcb5982cca1ac7a4a551e8f8c9472a4ec56d4c20", func := "epitome/epitomelaw04.OpAll", spec := "opAll", unfollowed := true, recurses := true, named := ["epitome/span.kinds", "unicode/utf8.first", "unicode/utf8.acceptRanges"], apart := false, laid := [("unicode/utf8.acceptRanges", laid_unicode_utf8_acceptRanges), ("epitome/span.kinds", laid_epitome_span_kinds), ("unicode/utf8.first", laid_unicode_utf8_first)] }
def OpAllSaid : Prop := opAllRow.holds Tryd.pinned (OpenSpec.ofChange opAllSpec)

/-- ITS FALSE NEIGHBOUR: 'it returns false'. Refute it at one input. -/
def opAllWrong : ChangeSpec := { name := "opAll", fn := fun _ => fun
  | [d1, d2] => { results := [.lit (.bool false)], args := [d1, d2] }
  | _ => none }
def OpAllWrongFalsely : Prop := opAllRow.holds Tryd.pinned (OpenSpec.ofChange opAllWrong)

/-- 'epitomelaw04.OpJoins': WHATEVER THE INPUT: true; the input reads as it did. -/
def opJoinsSpec : ChangeSpec := { name := "opJoins", fn := fun _ => fun
  | [d1, d2, d3] => { results := [.lit (.bool true)], args := [d1, d2, d3] }
  | _ => none }
def opJoinsRow : OpenClaim := { program := "ytdgpilapblipbaadoor", sum := "a0945191f9843b5cd94b8514bcb5982cca1ac7a4a551e8f8c9472a4ec56d4c20", func := "epitome/epitomelaw04.OpJoins", spec := "opJoins", unfollowed := true, recurses := true, named := ["epitome/span.kinds", "unicode/utf8.first", "unicode/utf8.acceptRanges"], apart := false, laid := [("unicode/utf8.acceptRanges", laid_unicode_utf8_acceptRanges), ("epitome/span.kinds", laid_epitome_span_kinds), ("unicode/utf8.first", laid_unicode_utf8_first)] }
def OpJoinsSaid : Prop := opJoinsRow.holds Tryd.pinned (OpenSpec.ofChange opJoinsSpec)

/-- ITS FALSE NEIGHBOUR: 'it returns false'. Refute it at one input. -/
def opJoinsWrong : ChangeSpec := { name := "opJoins", fn := fun _ => fun
  | [d1, d2, d3] => { results := [.lit (.bool false)], args := [d1, d2, d3] }
  | _ => none }
def OpJoinsWrongFalsely : Prop := opJoinsRow.holds Tryd.pinned (OpenSpec.ofChange opJoinsWrong)

/-- 'epitomelaw04.OpKeeps': WHATEVER THE INPUT: true; the input reads as it did. -/
def opKeepsSpec : ChangeSpec := { name := "opKeeps", fn := fun _ => fun
  | [d1, d2] => { results := [.lit (.bool true)], args := [d1, d2] }
  | _ => none }
def opKeepsRow : OpenClaim := { program := "ytdgpilapblipbaadoor", sum := "a0945191f9843b5cd94b8514bcb5982cca1ac7a4a551e8f8c9472a4ec56d4c20", func := "epitome/epitomelaw04.OpKeeps", spec := "opKeeps", unfollowed := true, recurses := true, named := ["epitome/span.kinds", "unicode/utf8.first", "unicode/utf8.acceptRanges"], apart := false, laid := [("unicode/utf8.acceptRanges", laid_unicode_utf8_acceptRanges), ("epitome/span.kinds", laid_epitome_span_kinds), ("unicode/utf8.first", laid_unicode_utf8_first)] }
def OpKeepsSaid : Prop := opKeepsRow.holds Tryd.pinned (OpenSpec.ofChange opKeepsSpec)

/-- ITS FALSE NEIGHBOUR: 'it returns false'. Refute it at one input. -/
def opKeepsWrong : ChangeSpec := { name := "opKeeps", fn := fun _ => fun
  | [d1, d2] => { results := [.lit (.bool false)], args := [d1, d2] }
  | _ => none }
def OpKeepsWrongFalsely : Prop := opKeepsRow.holds Tryd.pinned (OpenSpec.ofChange opKeepsWrong)

/-- 'epitomelaw04.OpBounds': WHATEVER THE INPUT: true; the input reads as it did. -/
def opBoundsSpec : ChangeSpec := { name := "opBounds", fn := fun _ => fun
  | [d1, d2, d3] => { results := [.lit (.bool true)], args := [d1, d2, d3] }
  | _ => none }
def opBoundsRow : OpenClaim := { program := "ytdgpilapblipbaadoor", sum := "a0945191f9843b5cd94b8514bcb5982cca1ac7a4a551e8f8c9472a4ec56d4c20", func := "epitome/epitomelaw04.OpBounds", spec := "opBounds", unfollowed := true, recurses := true, named := ["epitome/span.kinds", "unicode/utf8.first", "unicode/utf8.acceptRanges"], apart := false, laid := [("unicode/utf8.acceptRanges", laid_unicode_utf8_acceptRanges), ("epitome/span.kinds", laid_epitome_span_kinds), ("unicode/utf8.first", laid_unicode_utf8_first)] }
def OpBoundsSaid : Prop := opBoundsRow.holds Tryd.pinned (OpenSpec.ofChange opBoundsSpec)

/-- ITS FALSE NEIGHBOUR: 'it returns false'. Refute it at one input. -/
def opBoundsWrong : ChangeSpec := { name := "opBounds", fn := fun _ => fun
  | [d1, d2, d3] => { results := [.lit (.bool false)], args := [d1, d2, d3] }
  | _ => none }
def OpBoundsWrongFalsely : Prop := opBoundsRow.holds Tryd.pinned (OpenSpec.ofChange opBoundsWrong)

/- THE SECOND FORM. 'bulk': how many values and letters a reading holds, each counted each time it is reached (what is shared counts as often as it is met; a slice's spare places count too). A statement '..UptoSaid' is the law's where the arguments, and the package variables that the reading takes, are together of bulk at most 1048576: NARROWER than '..Said'. Prove '..Said' where nothing that the law and all that it calls make is longer than what came in: it says more and counts as full. Else prove '..UptoSaid'. A law counts once. -/
mutual
def uptoBulk {H : Type} : DataW H → Nat
  | .lit (.string bytes) => bytes.length + 1
  | .lit _ => 1
  | .nil => 1
  | .ptr d => uptoBulk d + 1
  | .slice elems spare => uptoBulkAll elems + uptoBulkAll spare + 1
  | .agg parts => uptoBulkAll parts + 1
  | .iface _ d => uptoBulk d + 1
  | .map entries => uptoBulkEntries entries + 1
  | .held _ => 1
def uptoBulkAll {H : Type} : List (DataW H) → Nat
  | [] => 0
  | d :: r => uptoBulk d + uptoBulkAll r
def uptoBulkEntries {H : Type} : List (Lit × DataW H) → Nat
  | [] => 0
  | x :: r => uptoBulkEntry x + uptoBulkEntries r
def uptoBulkEntry {H : Type} : Lit × DataW H → Nat
  | (.string bytes, d) => bytes.length + uptoBulk d + 1
  | (_, d) => uptoBulk d + 1
 end
def uptoSmall : (H : Type) → List (DataW H) → Bool := fun _ ds => decide (uptoBulkAll ds ≤ 1048576)
def OpenSpec.upto (s : _root_.Go.ChangeSpec) : _root_.Go.OpenSpec := { _root_.Go.OpenSpec.ofChange s with cond := some uptoSmall }

/-- 'epitomelaw03.SpanAll', WHERE WHAT IT READS IS OF BULK AT MOST 1048576: true; the input reads as it did. -/
def spanAllUptoRow : OpenClaim := { program := "ytdgpilapblipbaadoor", sum := "a0945191f9843b5cd94b8514bcb5982cca1ac7a4a551e8f8c9472a4ec56d4c20", func := "epitome/epitomelaw03.SpanAll", spec := "spanAll", named := ["epitome/span.kinds", "unicode/utf8.first", "unicode/utf8.acceptRanges"], apart := false, laid := [("unicode/utf8.acceptRanges", laid_unicode_utf8_acceptRanges), ("epitome/span.kinds", laid_epitome_span_kinds), ("unicode/utf8.first", laid_unicode_utf8_first)], narrowed := true }
def SpanAllUptoSaid : Prop := spanAllUptoRow.holds Tryd.pinned (OpenSpec.upto spanAllSpec)

/-- 'epitomelaw03.SpanKinds', WHERE WHAT IT READS IS OF BULK AT MOST 1048576: true; the input reads as it did. -/
def spanKindsUptoRow : OpenClaim := { program := "ytdgpilapblipbaadoor", sum := "a0945191f9843b5cd94b8514bcb5982cca1ac7a4a551e8f8c9472a4ec56d4c20", func := "epitome/epitomelaw03.SpanKinds", spec := "spanKinds", named := ["epitome/span.kinds", "unicode/utf8.first", "unicode/utf8.acceptRanges"], apart := false, laid := [("unicode/utf8.acceptRanges", laid_unicode_utf8_acceptRanges), ("epitome/span.kinds", laid_epitome_span_kinds), ("unicode/utf8.first", laid_unicode_utf8_first)], narrowed := true }
def SpanKindsUptoSaid : Prop := spanKindsUptoRow.holds Tryd.pinned (OpenSpec.upto spanKindsSpec)

/-- 'epitomelaw03.SpanTexts', WHERE WHAT IT READS IS OF BULK AT MOST 1048576: true; the input reads as it did. -/
def spanTextsUptoRow : OpenClaim := { program := "ytdgpilapblipbaadoor", sum := "a0945191f9843b5cd94b8514bcb5982cca1ac7a4a551e8f8c9472a4ec56d4c20", func := "epitome/epitomelaw03.SpanTexts", spec := "spanTexts", named := ["epitome/span.kinds", "unicode/utf8.first", "unicode/utf8.acceptRanges"], apart := false, laid := [("unicode/utf8.acceptRanges", laid_unicode_utf8_acceptRanges), ("epitome/span.kinds", laid_epitome_span_kinds), ("unicode/utf8.first", laid_unicode_utf8_first)], narrowed := true }
def SpanTextsUptoSaid : Prop := spanTextsUptoRow.holds Tryd.pinned (OpenSpec.upto spanTextsSpec)

/-- 'epitomelaw04.OpAll', WHERE WHAT IT READS IS OF BULK AT MOST 1048576: true; the input reads as it did. -/
def opAllUptoRow : OpenClaim := { program := "ytdgpilapblipbaadoor", sum := "a0945191f9843b5cd94b8514bcb5982cca1ac7a4a551e8f8c9472a4ec56d4c20", func := "epitome/epitomelaw04.OpAll", spec := "opAll", unfollowed := true, recurses := true, named := ["epitome/span.kinds", "unicode/utf8.first", "unicode/utf8.acceptRanges"], apart := false, laid := [("unicode/utf8.acceptRanges", laid_unicode_utf8_acceptRanges), ("epitome/span.kinds", laid_epitome_span_kinds), ("unicode/utf8.first", laid_unicode_utf8_first)], narrowed := true }
def OpAllUptoSaid : Prop := opAllUptoRow.holds Tryd.pinned (OpenSpec.upto opAllSpec)

/-- 'epitomelaw04.OpJoins', WHERE WHAT IT READS IS OF BULK AT MOST 1048576: true; the input reads as it did. -/
def opJoinsUptoRow : OpenClaim := { program := "ytdgpilapblipbaadoor", sum := "a0945191f9843b5cd94b8514bcb5982cca1ac7a4a551e8f8c9472a4ec56d4c20", func := "epitome/epitomelaw04.OpJoins", spec := "opJoins", unfollowed := true, recurses := true, named := ["epitome/span.kinds", "unicode/utf8.first", "unicode/utf8.acceptRanges"], apart := false, laid := [("unicode/utf8.acceptRanges", laid_unicode_utf8_acceptRanges), ("epitome/span.kinds", laid_epitome_span_kinds), ("unicode/utf8.first", laid_unicode_utf8_first)], narrowed := true }
def OpJoinsUptoSaid : Prop := opJoinsUptoRow.holds Tryd.pinned (OpenSpec.upto opJoinsSpec)

/-- 'epitomelaw04.OpKeeps', WHERE WHAT IT READS IS OF BULK AT MOST 1048576: true; the input reads as it did. -/
def opKeepsUptoRow : OpenClaim := { program := "ytdgpilapblipbaadoor", sum := "a0945191f9843b5cd94b8514bcb5982cca1ac7a4a551e8f8c9472a4ec56d4c20", func := "epitome/epitomelaw04.OpKeeps", spec := "opKeeps", unfollowed := true, recurses := true, named := ["epitome/span.kinds", "unicode/utf8.first", "unicode/utf8.acceptRanges"], apart := false, laid := [("unicode/utf8.acceptRanges", laid_unicode_utf8_acceptRanges), ("epitome/span.kinds", laid_epitome_span_kinds), ("unicode/utf8.first", laid_unicode_utf8_first)], narrowed := true }
def OpKeepsUptoSaid : Prop := opKeepsUptoRow.holds Tryd.pinned (OpenSpec.upto opKeepsSpec)

/-- 'epitomelaw04.OpBounds', WHERE WHAT IT READS IS OF BULK AT MOST 1048576: true; the input reads as it did. -/
def opBoundsUptoRow : OpenClaim := { program := "ytdgpilapblipbaadoor", sum := "a0945191f9843b5cd94b8514bcb5982cca1ac7a4a551e8f8c9472a4ec56d4c20", func := "epitome/epitomelaw04.OpBounds", spec := "opBounds", unfollowed := true, recurses := true, named := ["epitome/span.kinds", "unicode/utf8.first", "unicode/utf8.acceptRanges"], apart := false, laid := [("unicode/utf8.acceptRanges", laid_unicode_utf8_acceptRanges), ("epitome/span.kinds", laid_epitome_span_kinds), ("unicode/utf8.first", laid_unicode_utf8_first)], narrowed := true }
def OpBoundsUptoSaid : Prop := opBoundsUptoRow.holds Tryd.pinned (OpenSpec.upto opBoundsSpec)

end Rows
end Go.Proofs.YtdgpilapblipbaaDoor
