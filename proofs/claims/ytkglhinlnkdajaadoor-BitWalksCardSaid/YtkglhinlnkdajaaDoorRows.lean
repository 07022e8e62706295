/-
  NARROWER THAN 'FOR EVERY INPUT', by the rows' own cells (each row's printed sentence says how): BitMasks: laid · BitAsks: laid · BitInverse: laid · BitRest: laid · BitSets: laid · BitLists: laid · BitWalks: laid.
  DERIVED. THE GIVEN ROWS OF THIS SEAT. 7 by the template 'for every input the law returns true; each argument reads behind the call as it read before'; 0 by the template 'total and deterministic' (their statements: YtkglhinlnkdajaaDoorTotals.lean).
  GIVEN WITH THE SEED: the statements are not yours to turn. If you find one false, say at which input.
  Laid BY PROGRAM, IN A SANDBOX (cutbox-rows.mjs): the forced cells as the released guide's own fill.sh prints them over the translation 8dc4ff3d1c38bb2b… (all of the seat's roots in one cut). By AI agents, Wed Nov 11 2026. No macro, syntax, notation, axiom, sorry.
-/
import Derived.Test.YtkglhinlnkdajaaDoorChecked
import GoSem.Claim
import GoSem.ClaimJoined
import GoSem.ClaimMapViews
import Derived.JoinedTies
import Derived.KernelRfl
namespace Go.Proofs.YtkglhinlnkdajaaDoor
/- THE CELL 'sum', in the pinned program and in every row, IS THE sha256 OF THE DUMP (.gsa) THAT YtkglhinlnkdajaaDoorProg.lean LOADS. Nothing in Lean hashes anything: it is a label: what it is worth is what the hold of that sum in a sandbox is worth. -/
noncomputable def Tryd.pinned : Pinned := { name := "ytkglhinlnkdajaadoor", sum := "8dc4ff3d1c38bb2b875bb36821fe8a80a5cf09fd0d8d0fde34794cf0daa84524", checked := Tryd.checked }
namespace Rows
def none {H : Type} : Left H := { results := [], args := [] }

/- WHAT THE LISTED PACKAGE-LEVEL VARIABLES READ AS WHEN THE CALL BEGINS. Each datum BY PROGRAM (the guide's laid-datum.mjs) off the statement by which the dump's own 'gosem.cut.vars' lays the variable. In a bare row this is a premise. The card (YtkglhinlnkdajaaDoorCards.lean) ties it to the program's text. -/
def laid_math_bits_deBruijn64tab {H : Type} : DataW H := .agg [.lit (.int .u8 0), .lit (.int .u8 1), .lit (.int .u8 56), .lit (.int .u8 2), .lit (.int .u8 57), .lit (.int .u8 49), .lit (.int .u8 28), .lit (.int .u8 3), .lit (.int .u8 61), .lit (.int .u8 58), .lit (.int .u8 42), .lit (.int .u8 50), .lit (.int .u8 38), .lit (.int .u8 29), .lit (.int .u8 17), .lit (.int .u8 4), .lit (.int .u8 62), .lit (.int .u8 47), .lit (.int .u8 59), .lit (.int .u8 36), .lit (.int .u8 45), .lit (.int .u8 43), .lit (.int .u8 51), .lit (.int .u8 22), .lit (.int .u8 53), .lit (.int .u8 39), .lit (.int .u8 33), .lit (.int .u8 30), .lit (.int .u8 24), .lit (.int .u8 18), .lit (.int .u8 12), .lit (.int .u8 5), .lit (.int .u8 63), .lit (.int .u8 55), .lit (.int .u8 48), .lit (.int .u8 27), .lit (.int .u8 60), .lit (.int .u8 41), .lit (.int .u8 37), .lit (.int .u8 16), .lit (.int .u8 46), .lit (.int .u8 35), .lit (.int .u8 44), .lit (.int .u8 21), .lit (.int .u8 52), .lit (.int .u8 32), .lit (.int .u8 23), .lit (.int .u8 11), .lit (.int .u8 54), .lit (.int .u8 26), .lit (.int .u8 40), .lit (.int .u8 15), .lit (.int .u8 34), .lit (.int .u8 20), .lit (.int .u8 31), .lit (.int .u8 10), .lit (.int .u8 25), .lit (.int .u8 14), .lit (.int .u8 19), .lit (.int .u8 9), .lit (.int .u8 13), .lit (.int .u8 8), .lit (.int .u8 7), .lit (.int .u8 6)]

/-- 'stepstonelaw01.BitMasks': WHATEVER THE INPUT: true; the input reads as it did. -/
def bitMasksSpec : ChangeSpec := { name := "bitMasks", fn := fun _ => fun
  | [d1, d2] => { results := [.lit (.bool true)], args := [d1, d2] }
  | _ => none }
def bitMasksRow : OpenClaim := { program := "ytkglhinlnkdajaadoor", sum := "8dc4ff3d1c38bb2b875bb36821fe8a80a5cf09fd0d8d0fde34794cf0daa84524", func := "stepstone/stepstonelaw01.BitMasks", spec := "bitMasks", named := ["math/bits.deBruijn64tab"], apart := false, laid := [("math/bits.deBruijn64tab", laid_math_bits_deBruijn64tab)] }
def BitMasksSaid : Prop := bitMasksRow.holds Tryd.pinned (OpenSpec.ofChange bitMasksSpec)

/-- ITS FALSE NEIGHBOUR: 'it returns false'. Refute it at one input. -/
def bitMasksWrong : ChangeSpec := { name := "bitMasks", fn := fun _ => fun
  | [d1, d2] => { results := [.lit (.bool false)], args := [d1, d2] }
  | _ => none }
def BitMasksWrongFalsely : Prop := bitMasksRow.holds Tryd.pinned (OpenSpec.ofChange bitMasksWrong)

/-- 'stepstonelaw01.BitAsks': WHATEVER THE INPUT: true; the input reads as it did. -/
def bitAsksSpec : ChangeSpec := { name := "bitAsks", fn := fun _ => fun
  | [d1, d2, d3] => { results := [.lit (.bool true)], args := [d1, d2, d3] }
  | _ => none }
def bitAsksRow : OpenClaim := { program := "ytkglhinlnkdajaadoor", sum := "8dc4ff3d1c38bb2b875bb36821fe8a80a5cf09fd0d8d0fde34794cf0daa84524", func := "stepstone/stepstonelaw01.BitAsks", spec := "bitAsks", named := ["math/bits.deBruijn64tab"], apart := false, laid := [("math/bits.deBruijn64tab", laid_math_bits_deBruijn64tab)] }
def BitAsksSaid : Prop := bitAsksRow.holds Tryd.pinned (OpenSpec.ofChange bitAsksSpec)

/-- ITS FALSE NEIGHBOUR: 'it returns false'. Refute it at one input. -/
def bitAsksWrong : ChangeSpec := { name := "bitAsks", fn := fun _ => fun
  | [d1, d2, d3] => { results := [.lit (.bool false)], args := [d1, d2, d3] }
  | _ => none }
def BitAsksWrongFalsely : Prop := bitAsksRow.holds Tryd.pinned (OpenSpec.ofChange bitAsksWrong)

/-- 'stepstonelaw01.BitInverse': WHATEVER THE INPUT: true; the input reads as it did. -/
def bitInverseSpec : ChangeSpec := { name := "bitInverse", fn := fun _ => fun
  | [d1, d2] => { results := [.lit (.bool true)], args := [d1, d2] }
  | _ => none }
def bitInverseRow : OpenClaim := { program := "ytkglhinlnkdajaadoor", sum := "8dc4ff3d1c38bb2b875bb36821fe8a80a5cf09fd0d8d0fde34794cf0daa84524", func := "stepstone/stepstonelaw01.BitInverse", spec := "bitInverse", named := ["math/bits.deBruijn64tab"], apart := false, laid := [("math/bits.deBruijn64tab", laid_math_bits_deBruijn64tab)] }
def BitInverseSaid : Prop := bitInverseRow.holds Tryd.pinned (OpenSpec.ofChange bitInverseSpec)

/-- ITS FALSE NEIGHBOUR: 'it returns false'. Refute it at one input. -/
def bitInverseWrong : ChangeSpec := { name := "bitInverse", fn := fun _ => fun
  | [d1, d2] => { results := [.lit (.bool false)], args := [d1, d2] }
  | _ => none }
def BitInverseWrongFalsely : Prop := bitInverseRow.holds Tryd.pinned (OpenSpec.ofChange bitInverseWrong)

/-- 'stepstonelaw01.BitRest': WHATEVER THE INPUT: true; the input reads as it did. -/
def bitRestSpec : ChangeSpec := { name := "bitRest", fn := fun _ => fun
  | [d1, d2] => { results := [.lit (.bool true)], args := [d1, d2] }
  | _ => none }
def bitRestRow : OpenClaim := { program := "ytkglhinlnkdajaadoor", sum := "8dc4ff3d1c38bb2b875bb36821fe8a80a5cf09fd0d8d0fde34794cf0daa84524", func := "stepstone/stepstonelaw01.BitRest", spec := "bitRest", named := ["math/bits.deBruijn64tab"], apart := false, laid := [("math/bits.deBruijn64tab", laid_math_bits_deBruijn64tab)] }
def BitRestSaid : Prop := bitRestRow.holds Tryd.pinned (OpenSpec.ofChange bitRestSpec)

/-- ITS FALSE NEIGHBOUR: 'it returns false'. Refute it at one input. -/
def bitRestWrong : ChangeSpec := { name := "bitRest", fn := fun _ => fun
  | [d1, d2] => { results := [.lit (.bool false)], args := [d1, d2] }
  | _ => none }
def BitRestWrongFalsely : Prop := bitRestRow.holds Tryd.pinned (OpenSpec.ofChange bitRestWrong)

/-- 'stepstonelaw01.BitSets': WHATEVER THE INPUT: true; the input reads as it did. -/
def bitSetsSpec : ChangeSpec := { name := "bitSets", fn := fun _ => fun
  | [d1, d2] => { results := [.lit (.bool true)], args := [d1, d2] }
  | _ => none }
def bitSetsRow : OpenClaim := { program := "ytkglhinlnkdajaadoor", sum := "8dc4ff3d1c38bb2b875bb36821fe8a80a5cf09fd0d8d0fde34794cf0daa84524", func := "stepstone/stepstonelaw01.BitSets", spec := "bitSets", named := ["math/bits.deBruijn64tab"], apart := false, laid := [("math/bits.deBruijn64tab", laid_math_bits_deBruijn64tab)] }
def BitSetsSaid : Prop := bitSetsRow.holds Tryd.pinned (OpenSpec.ofChange bitSetsSpec)

/-- ITS FALSE NEIGHBOUR: 'it returns false'. Refute it at one input. -/
def bitSetsWrong : ChangeSpec := { name := "bitSets", fn := fun _ => fun
  | [d1, d2] => { results := [.lit (.bool false)], args := [d1, d2] }
  | _ => none }
def BitSetsWrongFalsely : Prop := bitSetsRow.holds Tryd.pinned (OpenSpec.ofChange bitSetsWrong)

/-- 'stepstonelaw01.BitLists': WHATEVER THE INPUT: true; the input reads as it did. -/
def bitListsSpec : ChangeSpec := { name := "bitLists", fn := fun _ => fun
  | [d1, d2] => { results := [.lit (.bool true)], args := [d1, d2] }
  | _ => none }
def bitListsRow : OpenClaim := { program := "ytkglhinlnkdajaadoor", sum := "8dc4ff3d1c38bb2b875bb36821fe8a80a5cf09fd0d8d0fde34794cf0daa84524", func := "stepstone/stepstonelaw01.BitLists", spec := "bitLists", named := ["math/bits.deBruijn64tab"], apart := false, laid := [("math/bits.deBruijn64tab", laid_math_bits_deBruijn64tab)] }
def BitListsSaid : Prop := bitListsRow.holds Tryd.pinned (OpenSpec.ofChange bitListsSpec)

/-- ITS FALSE NEIGHBOUR: 'it returns false'. Refute it at one input. -/
def bitListsWrong : ChangeSpec := { name := "bitLists", fn := fun _ => fun
  | [d1, d2] => { results := [.lit (.bool false)], args := [d1, d2] }
  | _ => none }
def BitListsWrongFalsely : Prop := bitListsRow.holds Tryd.pinned (OpenSpec.ofChange bitListsWrong)

/-- 'stepstonelaw01.BitWalks': WHATEVER THE INPUT: true; the input reads as it did. -/
def bitWalksSpec : ChangeSpec := { name := "bitWalks", fn := fun _ => fun
  | [d1, d2] => { results := [.lit (.bool true)], args := [d1, d2] }
  | _ => none }
def bitWalksRow : OpenClaim := { program := "ytkglhinlnkdajaadoor", sum := "8dc4ff3d1c38bb2b875bb36821fe8a80a5cf09fd0d8d0fde34794cf0daa84524", func := "stepstone/stepstonelaw01.BitWalks", spec := "bitWalks", unfollowed := true, recurses := true, named := ["math/bits.deBruijn64tab"], apart := false, laid := [("math/bits.deBruijn64tab", laid_math_bits_deBruijn64tab)] }
def BitWalksSaid : Prop := bitWalksRow.holds Tryd.pinned (OpenSpec.ofChange bitWalksSpec)

/-- ITS FALSE NEIGHBOUR: 'it returns false'. Refute it at one input. -/
def bitWalksWrong : ChangeSpec := { name := "bitWalks", fn := fun _ => fun
  | [d1, d2] => { results := [.lit (.bool false)], args := [d1, d2] }
  | _ => none }
def BitWalksWrongFalsely : Prop := bitWalksRow.holds Tryd.pinned (OpenSpec.ofChange bitWalksWrong)

/- THE SECOND FORM. 'bulk': how many values and letters a reading holds, each counted each time it is reached (what is shared counts as often as it is met; a slice's spare places count too). A statement '..UptoSaid' is the law's where the arguments, and the package variables that the reading takes, are together of bulk at most 1048576: NARROWER than '..Said'. Prove '..Said' where nothing that the law and all that it calls make is longer than what came in: it says more and counts as full. Else prove '..UptoSaid'. A law counts once. -/
mutual
def uptoBulk {H : Type} : DataW H → Nat
  | .lit (.string bytes) => bytes.length + 1
  | .lit _ => 1
  | .nil => 1
  | .ptr d => uptoBulk d + 1
  | .slice elems spare => uptoBulkAll elems + uptoBulkAll spare + 1
  | .agg parts => uptoBulkAll parts + 1
  | .iface _ d => uptoBulk d + 1
  | .map entries => uptoBulkEntries entries + 1
  | .held _ => 1
def uptoBulkAll {H : Type} : List (DataW H) → Nat
  | [] => 0
  | d :: r => uptoBulk d + uptoBulkAll r
def uptoBulkEntries {H : Type} : List (Lit × DataW H) → Nat
  | [] => 0
  | x :: r => uptoBulkEntry x + uptoBulkEntries r
def uptoBulkEntry {H : Type} : Lit × DataW H → Nat
  | (.string bytes, d) => bytes.length + uptoBulk d + 1
  | (_, d) => uptoBulk d + 1
 end
def uptoSmall : (H : Type) → List (DataW H) → Bool := fun _ ds => decide (uptoBulkAll ds ≤ 1048576)
def OpenSpec.upto (s : _root_.Go.ChangeSpec) : _root_.Go.OpenSpec := { _root_.Go.OpenSpec.ofChange s with cond := some uptoSmall }

/-- 'stepstonelaw01.BitMasks', WHERE WHAT IT READS IS OF BULK AT MOST 1048576: true; the input reads as it did. -/
def bitMasksUptoRow : OpenClaim := { program := "ytkglhinlnkdajaadoor", sum := "8dc4ff3d1c38bb2b875bb36821fe8a80a5cf09fd0d8d0fde34794cf0daa84524", func := "stepstone/stepstonelaw01.BitMasks", spec := "bitMasks", named := ["math/bits.deBruijn64tab"], apart := false, laid := [("math/bits.deBruijn64tab", laid_math_bits_deBruijn64tab)], narrowed := true }
def BitMasksUptoSaid : Prop := bitMasksUptoRow.holds Tryd.pinned (OpenSpec.upto bitMasksSpec)

/-- 'stepstonelaw01.BitAsks', WHERE WHAT IT READS IS OF BULK AT MOST 1048576: true; the input reads as it did. -/
def bitAsksUptoRow : OpenClaim := { program := "ytkglhinlnkdajaadoor", sum := "8dc4ff3d1c38bb2b875bb36821fe8a80a5cf09fd0d8d0fde34794cf0daa84524", func := "stepstone/stepstonelaw01.BitAsks", spec := "bitAsks", named := ["math/bits.deBruijn64tab"], apart := false, laid := [("math/bits.deBruijn64tab", laid_math_bits_deBruijn64tab)], narrowed := true }
def BitAsksUptoSaid : Prop := bitAsksUptoRow.holds Tryd.pinned (OpenSpec.upto bitAsksSpec)

/-- 'stepstonelaw01.BitInverse', WHERE WHAT IT READS IS OF BULK AT MOST 1048576: true; the input reads as it did. -/
def bitInverseUptoRow : OpenClaim := { program := "ytkglhinlnkdajaadoor", sum := "8dc4ff3d1c38bb2b875bb36821fe8a80a5cf09fd0d8d0fde34794cf0daa84524", func := "stepstone/stepstonelaw01.BitInverse", spec := "bitInverse", named := ["math/bits.deBruijn64tab"], apart := false, laid := [("math/bits.deBruijn64tab", laid_math_bits_deBruijn64tab)], narrowed := true }
def BitInverseUptoSaid : Prop := bitInverseUptoRow.holds Tryd.pinned (OpenSpec.upto bitInverseSpec)

/-- 'stepstonelaw01.BitRest', WHERE WHAT IT READS IS OF BULK AT MOST 1048576: true; the input reads as it did. -/
def bitRestUptoRow : OpenClaim := { program := "ytkglhinlnkdajaadoor", sum := "8dc4ff3d1c38bb2b875bb36821fe8a80a5cf09fd0d8d0fde34794cf0daa84524", func := "stepstone/stepstonelaw01.BitRest", spec := "bitRest", named := ["math/bits.deBruijn64tab"], apart := false, laid := [("math/bits.deBruijn64tab", laid_math_bits_deBruijn64tab)], narrowed := true }
def BitRestUptoSaid : Prop := bitRestUptoRow.holds Tryd.pinned (OpenSpec.upto bitRestSpec)

/-- 'stepstonelaw01.BitSets', WHERE WHAT IT READS IS OF BULK AT MOST 1048576: true; the input reads as it did. -/
def bitSetsUptoRow : OpenClaim := { program := "ytkglhinlnkdajaadoor", sum := "8dc4ff3d1c38bb2b875bb36821fe8a80a5cf09fd0d8d0fde34794cf0daa84524", func := "stepstone/stepstonelaw01.BitSets", spec := "bitSets", named := ["math/bits.deBruijn64tab"], apart := false, laid := [("math/bits.deBruijn64tab", laid_math_bits_deBruijn64tab)], narrowed := true }
def BitSetsUptoSaid : Prop := bitSetsUptoRow.holds Tryd.pinned (OpenSpec.upto bitSetsSpec)

/-- 'stepstonelaw01.BitLists', WHERE WHAT IT READS IS OF BULK AT MOST 1048576: true; the input reads as it did. -/
def bitListsUptoRow : OpenClaim := { program := "ytkglhinlnkdajaadoor", sum := "8dc4ff3d1c38bb2b875bb36821fe8a80a5cf09fd0d8d0fde34794cf0daa84524", func := "stepstone/stepstonelaw01.BitLists", spec := "bitLists", named := ["math/bits.deBruijn64tab"], apart := false, laid := [("math/bits.deBruijn64tab", laid_math_bits_deBruijn64tab)], narrowed := true }
def BitListsUptoSaid : Prop := bitListsUptoRow.holds Tryd.pinned (OpenSpec.upto bitListsSpec)

/-- 'stepstonelaw01.BitWalks', WHERE WHAT IT READS IS OF BULK AT MOST 1048576: true; the input reads as it did. -/
def bitWalksUptoRow : OpenClaim := { program := "ytkglhinlnkdajaadoor", sum := "8dc4ff3d1c38bb2b875bb36821fe8a80a5cf09fd0d8d0fde34794cf0daa84524", func := "stepstone/stepstonelaw01.BitWalks", spec := "bitWalks", unfollowed := true, recurses := true, named := ["math/bits.deBruijn64tab"], apart := false, laid := [("math/bits.deBruijn64tab", laid_math_bits_deBruijn64tab)], narrowed := true }
def BitWalksUptoSaid : Prop := bitWalksUptoRow.holds Tryd.pinned (OpenSpec.upto bitWalksSpec)

end Rows
end Go.Proofs.YtkglhinlnkdajaaDoor
