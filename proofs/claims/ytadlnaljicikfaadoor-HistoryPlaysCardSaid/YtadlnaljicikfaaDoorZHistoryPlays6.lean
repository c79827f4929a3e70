/- A part of the proof: a calculus over values, and contracts of functions. No condition. -/
import Derived.Test.YtadlnaljicikfaaDoorZN5
set_option linter.unusedVariables false
set_option linter.unusedSimpArgs false
namespace Go.Proofs.YtadlnaljicikfaaDoor
open Go Go.ChangeShapes Go.WideShapes Go.ChangeAt Go.RowKit
set_option maxRecDepth 100000
def letters:List Char:=([104,97,114,110,101,115,115,32,56,99,102,97,99,54,101,50,101,52,49,54,51,50,51,102,56,101,49,57,55,101,101,56,54,48,53,56,102,101,57,101,97,51,56,52,99,55,99,48,49,101,48,48,99,97,102,56,48,98,97,99,55,98,51,49,102,99,57,97,100,52,98,102,32,99,117,116,32,97,116,32,101,112,105,116,111,109,101,47,101,112,105,116,111,109,101,108,97,119,49,55,46,72,105,115,116,111,114,121,75,101,101,112,115,32,101,112,105,116,111,109,101,47,101,112,105,116,111,109,101,108,97,119,49,55,46,72,105,115,116,111,114,121,79,118,101,114,32,101,112,105,116,111,109,101,47,101,112,105,116,111,109,101,108,97,119,49,55,46,72,105,115,116,111,114,121,70,105,114,115,116,32,101,112,105,116,111,109,101,47,101,112,105,116,111,109,101,108,97,119,50,49,46,70,105,108,101,65,108,108,32,101,112,105,116,111,109,101,47,101,112,105,116,111,109,101,108,97,119,50,49,46,70,105,108,101,84,97,107,101,110,32,101,112,105,116,111,109,101,47,101,112,105,116,111,109,101,108,97,119,50,49,46,70,105,108,101,66,105,103,32,101,112,105,116,111,109,101,47,101,112,105,116,111,109,101,108,97,119,50,49,46,70,105,108,101,80,97,114,116,115,32,101,112,105,116,111,109,101,47,101,112,105,116,111,109,101,108,97,119,50,49,46,70,105,108,101,79,100,100,32,101,112,105,116,111,109,101,47,101,112,105,116,111,109,101,108,97,119,49,55,46,72,105,115,116,111,114,121,80,108,97,121,115,32,101,112,105,116,111,109,101,47,101,112,105,116,111,109,101,108,97,119,49,55,46,72,105,115,116,111,114,121,82,117,110,115,32,101,112,105,116,111,109,101,47,101,112,105,116,111,109,101,108,97,119,50,48,46,67,111,109,112,97,99,116,65,108,108,32,101,112,105,116,111,109,101,47,101,112,105,116,111,109,101,108,97,119,50,48,46,67,111,109,112,97,99,116,84,119,105,99,101,32,101,112,105,116,111,109,101,47,101,112,105,116,111,109,101,108,97,119,50,48,46,67,111,109,112,97,99,116,69,110,100,115,32,101,112,105,116,111,109,101,47,101,112,105,116,111,109,101,108,97,119,50,48,46,67,111,109,112,97,99,116,82,117,110,115,32,101,112,105,116,111,109,101,47,101,112,105,116,111,109,101,108,97,119,50,48,46,67,111,109,112,97,99,116,70,108,111,111,114,32,101,112,105,116,111,109,101,47,101,112,105,116,111,109,101,108,97,119,50,48,46,67,111,109,112,97,99,116,84,101,120,116,115,32,101,112,105,116,111,109,101,47,101,112,105,116,111,109,101,108,97,119,50,48,46,67,111,109,112,97,99,116,76,101,115,115,32,101,112,105,116,111,109,101,47,101,112,105,116,111,109,101,108,97,119,50,48,46,67,111,109,112,97,99,116,79,118,101,114,32,101,112,105,116,111,109,101,47,101,112,105,116,111,109,101,108,97,119,50,49,46,70,105,108,101,66,97,99,107]:List Nat).map Char.ofNat
theorem JM:Tryd.checked.prog.initOrder = String.ofList letters:=by kernel_rfl
theorem vC:Tryd.checked.prog.initOrder.toList = letters:=by rw [JM];exact String.toList_ofList
theorem DL:behindMainWord (wordsSigns Tryd.checked.prog.initOrder.toList) = "cut".toList :: (behindMainWord (wordsSigns letters)).tail:=by rw [vC];kernel_rfl
theorem W9 {P:Program} {c:List Char} {rest:List (List Char)} (hw:behindMainWord (wordsSigns P.initOrder.toList) = c :: rest) (h1:(c == "gc".toList || c == "spec".toList) = false) (h2:(c == "cut".toList) = true):P.make = some .cut:=by
 unfold Program.make;rw [hw];simp only [h1,h2];rfl
theorem SI {P:Program} {c:List Char} {rest:List (List Char)} (hw:behindMainWord (wordsSigns P.initOrder.toList) = c :: rest) (h1:(c == "gc".toList || c == "spec".toList) = false) (h2:(c == "carried".toList) = false)
   (h3:((stripLifts liftWords (c :: rest)).2.head? == some "cut".toList) = true) (h4:(stripLifts liftWords (c :: rest)).1 = []) (hl:P.laysLater = false) (hr:P.bearsReflect = false) (hd:P.doorFits [] = true):P.mayEnter = true:=by
 unfold Program.mayEnter;rw [hw];simp only [h1,h2,h3,h4,hl,hr,hd];rfl
theorem OT:Tryd.checked.prog.make = some .cut:=W9 DL (by kernel_rfl) (by kernel_rfl)
theorem JO:Tryd.checked.prog.laysLater = false:=by kernel_rfl
theorem ET:Tryd.checked.prog.bearsReflect = false:=by kernel_rfl
theorem OU:Tryd.checked.prog.doorFits [] = true:=by kernel_rfl
theorem JQ:Tryd.checked.prog.mayEnter = true:=SI DL (by kernel_rfl) (by kernel_rfl) (by kernel_rfl) (by kernel_rfl) JO ET OU
theorem JR:Tryd.checked.prog.liftsFinal = false:=by unfold Program.liftsFinal Program.headLifts;rw [vC];kernel_rfl
theorem Xa {P:Program} {h s:List Char} {r:List (List Char)} (hw:wordsSigns P.initOrder.toList = h :: s :: r) (hs:isSumSigns s = true) (hh:(h == "harness".toList) = true):P.mainIs = some (true,s):=by
 unfold Program.mainIs;rw [hw];simp only [hs,hh];rfl
theorem OV:wordsSigns Tryd.checked.prog.initOrder.toList = "harness".toList :: "8cfac6e2e416323f8e197ee86058fe9ea384c7c01e00caf80bac7b31fc9ad4bf".toList :: (wordsSigns letters).tail.tail:=by rw [vC];kernel_rfl
theorem OW:Tryd.checked.prog.mainIs = some (true,"8cfac6e2e416323f8e197ee86058fe9ea384c7c01e00caf80bac7b31fc9ad4bf".toList):=Xa OV (by kernel_rfl) (by kernel_rfl)
end Go.Proofs.YtadlnaljicikfaaDoor
