/-
  NARROWER THAN 'FOR EVERY INPUT', by the rows' own cells (each row's printed sentence says how): TrieWalks: laid · TrieFull: laid · TrieRanks: laid · TrieEmpties: laid · TrieNil: laid · TriePlays: laid.
  DERIVED. THE GIVEN ROWS OF THIS SEAT. 6 by the template 'for every input the law returns true; each argument reads behind the call as it read before'; 0 by the template 'total and deterministic' (their statements: YtnhdcefoigmjpaaDoorTotals.lean).
  GIVEN WITH THE SEED: the statements are not yours to turn. If you find one false, say at which input.
  Laid BY PROGRAM, IN A SANDBOX (cutbox-rows.mjs): the forced cells as the released guide's own fill.sh prints them over the translation 3a2270fb480bc152… (all of the seat's roots in one cut). By AI agents, Wed Nov 11 2026. No macro, syntax, notation, axiom, sorry.
-/
import Derived.Test.YtnhdcefoigmjpaaDoorChecked
import GoSem.Claim
import GoSem.ClaimJoined
import GoSem.ClaimMapViews
import Derived.JoinedTies
import Derived.KernelRfl
namespace Go.Proofs.YtnhdcefoigmjpaaDoor
/- THE CELL 'sum', in the pinned program and in every row, IS THE sha256 OF THE DUMP (.gsa) THAT YtnhdcefoigmjpaaDoorProg.lean LOADS. Nothing in Lean hashes anything: it is a label: what it is worth is what the hold of that sum in a sandbox is worth. -/
noncomputable def Tryd.pinned : Pinned := { name := "ytnhdcefoigmjpaadoor", sum := "3a2270fb480bc15285a2258231c1b957f159f93d015c3be3206d949e3df7f0e5", checked := Tryd.checked }
namespace Rows
def none {H : Type} : Left H := { results := [], args := [] }

/- WHAT THE LISTED PACKAGE-LEVEL VARIABLES READ AS WHEN THE CALL BEGINS. Each datum BY PROGRAM (the guide's laid-datum.mjs) off the statement by which the dump's own 'gosem.cut.vars' lays the variable. In a bare row this is a premise. The card (YtnhdcefoigmjpaaDoorCards.lean) ties it to the program's text. -/
def laid_math_bits_deBruijn64tab {H : Type} : DataW H := .agg [.lit (.int .u8 0), .lit (.int .u8 1), .lit (.int .u8 56), .lit (.int .u8 2), .lit (.int .u8 57), .lit (.int .u8 49), .lit (.int .u8 28), .lit (.int .u8 3), .lit (.int .u8 61), .lit (.int .u8 58), .lit (.int .u8 42), .lit (.int .u8 50), .lit (.int .u8 38), .lit (.int .u8 29), .lit (.int .u8 17), .lit (.int .u8 4), .lit (.int .u8 62), .lit (.int .u8 47), .lit (.int .u8 59), .lit (.int .u8 36), .lit (.int .u8 45), .lit (.int .u8 43), .lit (.int .u8 51), .lit (.int .u8 22), .lit (.int .u8 53), .lit (.int .u8 39), .lit (.int .u8 33), .lit (.int .u8 30), .lit (.int .u8 24), .lit (.int .u8 18), .lit (.int .u8 12), .lit (.int .u8 5), .lit (.int .u8 63), .lit (.int .u8 55), .lit (.int .u8 48), .lit (.int .u8 27), .lit (.int .u8 60), .lit (.int .u8 41), .lit (.int .u8 37), .lit (.int .u8 16), .lit (.int .u8 46), .lit (.int .u8 35), .lit (.int .u8 44), .lit (.int .u8 21), .lit (.int .u8 52), .lit (.int .u8 32), .lit (.int .u8 23), .lit (.int .u8 11), .lit (.int .u8 54), .lit (.int .u8 26), .lit (.int .u8 40), .lit (.int .u8 15), .lit (.int .u8 34), .lit (.int .u8 20), .lit (.int .u8 31), .lit (.int .u8 10), .lit (.int .u8 25), .lit (.int .u8 14), .lit (.int .u8 19), .lit (.int .u8 9), .lit (.int .u8 13), .lit (.int .u8 8), .lit (.int .u8 7), .lit (.int .u8 6)]

/-- 'stepstonelaw11.TrieWalks': WHATEVER THE INPUT: true; the input reads as it did. -/
def trieWalksSpec : ChangeSpec := { name := "trieWalks", fn := fun _ => fun
  | [d] => { results := [.lit (.bool true)], args := [d] }
  | _ => none }
def trieWalksRow : OpenClaim := { program := "ytnhdcefoigmjpaadoor", sum := "3a2270fb480bc15285a2258231c1b957f159f93d015c3be3206d949e3df7f0e5", func := "stepstone/stepstonelaw11.TrieWalks", spec := "trieWalks", inPlace := ["slices.overlaps[int]"], unfollowed := true, recurses := true, named := ["math/bits.deBruijn64tab"], apart := false, laid := [("math/bits.deBruijn64tab", laid_math_bits_deBruijn64tab)] }
def TrieWalksSaid : Prop := trieWalksRow.holds Tryd.pinned (OpenSpec.ofChange trieWalksSpec)

/-- ITS FALSE NEIGHBOUR: 'it returns false'. Refute it at one input. -/
def trieWalksWrong : ChangeSpec := { name := "trieWalks", fn := fun _ => fun
  | [d] => { results := [.lit (.bool false)], args := [d] }
  | _ => none }
def TrieWalksWrongFalsely : Prop := trieWalksRow.holds Tryd.pinned (OpenSpec.ofChange trieWalksWrong)

/-- 'stepstonelaw11.TrieFull': WHATEVER THE INPUT: true; the input reads as it did. -/
def trieFullSpec : ChangeSpec := { name := "trieFull", fn := fun _ => fun
  | [d1, d2] => { results := [.lit (.bool true)], args := [d1, d2] }
  | _ => none }
def trieFullRow : OpenClaim := { program := "ytnhdcefoigmjpaadoor", sum := "3a2270fb480bc15285a2258231c1b957f159f93d015c3be3206d949e3df7f0e5", func := "stepstone/stepstonelaw11.TrieFull", spec := "trieFull", inPlace := ["slices.overlaps[int]"], unfollowed := true, recurses := true, named := ["math/bits.deBruijn64tab"], apart := false, laid := [("math/bits.deBruijn64tab", laid_math_bits_deBruijn64tab)] }
def TrieFullSaid : Prop := trieFullRow.holds Tryd.pinned (OpenSpec.ofChange trieFullSpec)

/-- ITS FALSE NEIGHBOUR: 'it returns false'. Refute it at one input. -/
def trieFullWrong : ChangeSpec := { name := "trieFull", fn := fun _ => fun
  | [d1, d2] => { results := [.lit (.bool false)], args := [d1, d2] }
  | _ => none }
def TrieFullWrongFalsely : Prop := trieFullRow.holds Tryd.pinned (OpenSpec.ofChange trieFullWrong)

/-- 'stepstonelaw11.TrieRanks': WHATEVER THE INPUT: true; the input reads as it did. -/
def trieRanksSpec : ChangeSpec := { name := "trieRanks", fn := fun _ => fun
  | [d1, d2, d3] => { results := [.lit (.bool true)], args := [d1, d2, d3] }
  | _ => none }
def trieRanksRow : OpenClaim := { program := "ytnhdcefoigmjpaadoor", sum := "3a2270fb480bc15285a2258231c1b957f159f93d015c3be3206d949e3df7f0e5", func := "stepstone/stepstonelaw11.TrieRanks", spec := "trieRanks", inPlace := ["slices.overlaps[int]"], unfollowed := true, recurses := true, named := ["math/bits.deBruijn64tab"], apart := false, laid := [("math/bits.deBruijn64tab", laid_math_bits_deBruijn64tab)] }
def TrieRanksSaid : Prop := trieRanksRow.holds Tryd.pinned (OpenSpec.ofChange trieRanksSpec)

/-- ITS FALSE NEIGHBOUR: 'it returns false'. Refute it at one input. -/
def trieRanksWrong : ChangeSpec := { name := "trieRanks", fn := fun _ => fun
  | [d1, d2, d3] => { results := [.lit (.bool false)], args := [d1, d2, d3] }
  | _ => none }
def TrieRanksWrongFalsely : Prop := trieRanksRow.holds Tryd.pinned (OpenSpec.ofChange trieRanksWrong)

/-- 'stepstonelaw11.TrieEmpties': WHATEVER THE INPUT: true; the input reads as it did. -/
def trieEmptiesSpec : ChangeSpec := { name := "trieEmpties", fn := fun _ => fun
  | [d1, d2] => { results := [.lit (.bool true)], args := [d1, d2] }
  | _ => none }
def trieEmptiesRow : OpenClaim := { program := "ytnhdcefoigmjpaadoor", sum := "3a2270fb480bc15285a2258231c1b957f159f93d015c3be3206d949e3df7f0e5", func := "stepstone/stepstonelaw11.TrieEmpties", spec := "trieEmpties", inPlace := ["slices.overlaps[int]"], unfollowed := true, recurses := true, named := ["math/bits.deBruijn64tab"], apart := false, laid := [("math/bits.deBruijn64tab", laid_math_bits_deBruijn64tab)] }
def TrieEmptiesSaid : Prop := trieEmptiesRow.holds Tryd.pinned (OpenSpec.ofChange trieEmptiesSpec)

/-- ITS FALSE NEIGHBOUR: 'it returns false'. Refute it at one input. -/
def trieEmptiesWrong : ChangeSpec := { name := "trieEmpties", fn := fun _ => fun
  | [d1, d2] => { results := [.lit (.bool false)], args := [d1, d2] }
  | _ => none }
def TrieEmptiesWrongFalsely : Prop := trieEmptiesRow.holds Tryd.pinned (OpenSpec.ofChange trieEmptiesWrong)

/-- 'stepstonelaw11.TrieNil': WHATEVER THE INPUT: true; the input reads as it did. -/
def trieNilSpec : ChangeSpec := { name := "trieNil", fn := fun _ => fun
  | [d1, d2] => { results := [.lit (.bool true)], args := [d1, d2] }
  | _ => none }
def trieNilRow : OpenClaim := { program := "ytnhdcefoigmjpaadoor", sum := "3a2270fb480bc15285a2258231c1b957f159f93d015c3be3206d949e3df7f0e5", func := "stepstone/stepstonelaw11.TrieNil", spec := "trieNil", inPlace := ["slices.overlaps[int]"], unfollowed := true, recurses := true, named := ["math/bits.deBruijn64tab"], apart := false, laid := [("math/bits.deBruijn64tab", laid_math_bits_deBruijn64tab)] }
def TrieNilSaid : Prop := trieNilRow.holds Tryd.pinned (OpenSpec.ofChange trieNilSpec)

/-- ITS FALSE NEIGHBOUR: 'it returns false'. Refute it at one input. -/
def trieNilWrong : ChangeSpec := { name := "trieNil", fn := fun _ => fun
  | [d1, d2] => { results := [.lit (.bool false)], args := [d1, d2] }
  | _ => none }
def TrieNilWrongFalsely : Prop := trieNilRow.holds Tryd.pinned (OpenSpec.ofChange trieNilWrong)

/-- 'stepstonelaw11.TriePlays': WHATEVER THE INPUT: true; the input reads as it did. -/
def triePlaysSpec : ChangeSpec := { name := "triePlays", fn := fun _ => fun
  | [d1, d2, d3] => { results := [.lit (.bool true)], args := [d1, d2, d3] }
  | _ => none }
def triePlaysRow : OpenClaim := { program := "ytnhdcefoigmjpaadoor", sum := "3a2270fb480bc15285a2258231c1b957f159f93d015c3be3206d949e3df7f0e5", func := "stepstone/stepstonelaw11.TriePlays", spec := "triePlays", inPlace := ["slices.overlaps[int]"], unfollowed := true, recurses := true, named := ["math/bits.deBruijn64tab"], apart := false, laid := [("math/bits.deBruijn64tab", laid_math_bits_deBruijn64tab)] }
def TriePlaysSaid : Prop := triePlaysRow.holds Tryd.pinned (OpenSpec.ofChange triePlaysSpec)

/-- ITS FALSE NEIGHBOUR: 'it returns false'. Refute it at one input. -/
def triePlaysWrong : ChangeSpec := { name := "triePlays", fn := fun _ => fun
  | [d1, d2, d3] => { results := [.lit (.bool false)], args := [d1, d2, d3] }
  | _ => none }
def TriePlaysWrongFalsely : Prop := triePlaysRow.holds Tryd.pinned (OpenSpec.ofChange triePlaysWrong)

/- THE SECOND FORM. 'bulk': how many values and letters a reading holds, each counted each time it is reached (what is shared counts as often as it is met; a slice's spare places count too). A statement '..UptoSaid' is the law's where the arguments, and the package variables that the reading takes, are together of bulk at most 1048576: NARROWER than '..Said'. Prove '..Said' where nothing that the law and all that it calls make is longer than what came in: it says more and counts as full. Else prove '..UptoSaid'. A law counts once. -/
mutual
def uptoBulk {H : Type} : DataW H → Nat
  | .lit (.string bytes) => bytes.length + 1
  | .lit _ => 1
  | .nil => 1
  | .ptr d => uptoBulk d + 1
  | .slice elems spare => uptoBulkAll elems + uptoBulkAll spare + 1
  | .agg parts => uptoBulkAll parts + 1
  | .iface _ d => uptoBulk d + 1
  | .map entries => uptoBulkEntries entries + 1
  | .held _ => 1
def uptoBulkAll {H : Type} : List (DataW H) → Nat
  | [] => 0
  | d :: r => uptoBulk d + uptoBulkAll r
def uptoBulkEntries {H : Type} : List (Lit × DataW H) → Nat
  | [] => 0
  | x :: r => uptoBulkEntry x + uptoBulkEntries r
def uptoBulkEntry {H : Type} : Lit × DataW H → Nat
  | (.string bytes, d) => bytes.length + uptoBulk d + 1
  | (_, d) => uptoBulk d + 1
 end
def uptoSmall : (H : Type) → List (DataW H) → Bool := fun _ ds => decide (uptoBulkAll ds ≤ 1048576)
def OpenSpec.upto (s : _root_.Go.ChangeSpec) : _root_.Go.OpenSpec := { _root_.Go.OpenSpec.ofChange s with cond := some uptoSmall }

/-- 'stepstonelaw11.TrieWalks', WHERE WHAT IT READS IS OF BULK AT MOST 1048576: true; the input reads as it did. -/
def trieWalksUptoRow : OpenClaim := { program := "ytnhdcefoigmjpaadoor", sum := "3a2270fb480bc15285a2258231c1b957f159f93d015c3be3206d949e3df7f0e5", func := "stepstone/stepstonelaw11.TrieWalks", spec := "trieWalks", inPlace := ["slices.overlaps[int]"], unfollowed := true, recurses := true, named := ["math/bits.deBruijn64tab"], apart := false, laid := [("math/bits.deBruijn64tab", laid_math_bits_deBruijn64tab)], narrowed := true }
def TrieWalksUptoSaid : Prop := trieWalksUptoRow.holds Tryd.pinned (OpenSpec.upto trieWalksSpec)

/-- 'stepstonelaw11.TrieFull', WHERE WHAT IT READS IS OF BULK AT MOST 1048576: true; the input reads as it did. -/
def trieFullUptoRow : OpenClaim := { program := "ytnhdcefoigmjpaadoor", sum := "3a2270fb480bc15285a2258231c1b957f159f93d015c3be3206d949e3df7f0e5", func := "stepstone/stepstonelaw11.TrieFull", spec := "trieFull", inPlace := ["slices.overlaps[int]"], unfollowed := true, recurses := true, named := ["math/bits.deBruijn64tab"], apart := false, laid := [("math/bits.deBruijn64tab", laid_math_bits_deBruijn64tab)], narrowed := true }
def TrieFullUptoSaid : Prop := trieFullUptoRow.holds Tryd.pinned (OpenSpec.upto trieFullSpec)

/-- 'stepstonelaw11.TrieRanks', WHERE WHAT IT READS IS OF BULK AT MOST 1048576: true; the input reads as it did. -/
def trieRanksUptoRow : OpenClaim := { program := "ytnhdcefoigmjpaadoor", sum := "3a2270fb480bc15285a2258231c1b957f159f93d015c3be3206d949e3df7f0e5", func := "stepstone/stepstonelaw11.TrieRanks", spec := "trieRanks", inPlace := ["slices.overlaps[int]"], unfollowed := true, recurses := true, named := ["math/bits.deBruijn64tab"], apart := false, laid := [("math/bits.deBruijn64tab", laid_math_bits_deBruijn64tab)], narrowed := true }
def TrieRanksUptoSaid : Prop := trieRanksUptoRow.holds Tryd.pinned (OpenSpec.upto trieRanksSpec)

/-- 'stepstonelaw11.TrieEmpties', WHERE WHAT IT READS IS OF BULK AT MOST 1048576: true; the input reads as it did. -/
def trieEmptiesUptoRow : OpenClaim := { program := "ytnhdcefoigmjpaadoor", sum := "3a2270fb480bc15285a2258231c1b957f159f93d015c3be3206d949e3df7f0e5", func := "stepstone/stepstonelaw11.TrieEmpties", spec := "trieEmpties", inPlace := ["slices.overlaps[int]"], unfollowed := true, recurses := true, named := ["math/bits.deBruijn64tab"], apart := false, laid := [("math/bits.deBruijn64tab", laid_math_bits_deBruijn64tab)], narrowed := true }
def TrieEmptiesUptoSaid : Prop := trieEmptiesUptoRow.holds Tryd.pinned (OpenSpec.upto trieEmptiesSpec)

/-- 'stepstonelaw11.TrieNil', WHERE WHAT IT READS IS OF BULK AT MOST 1048576: true; the input reads as it did. -/
def trieNilUptoRow : OpenClaim := { program := "ytnhdcefoigmjpaadoor", sum := "3a2270fb480bc15285a2258231c1b957f159f93d015c3be3206d949e3df7f0e5", func := "stepstone/stepstonelaw11.TrieNil", spec := "trieNil", inPlace := ["slices.overlaps[int]"], unfollowed := true, recurses := true, named := ["math/bits.deBruijn64tab"], apart := false, laid := [("math/bits.deBruijn64tab", laid_math_bits_deBruijn64tab)], narrowed := true }
def TrieNilUptoSaid : Prop := trieNilUptoRow.holds Tryd.pinned (OpenSpec.upto trieNilSpec)

/-- 'stepstonelaw11.TriePlays', WHERE WHAT IT READS IS OF BULK AT MOST 1048576: true; the input reads as it did. -/
def triePlaysUptoRow : OpenClaim := { program := "ytnhdcefoigmjpaadoor", sum := "3a2270fb480bc15285a2258231c1b957f159f93d015c3be3206d949e3df7f0e5", func := "stepstone/stepstonelaw11.TriePlays", spec := "triePlays", inPlace := ["slices.overlaps[int]"], unfollowed := true, recurses := true, named := ["math/bits.deBruijn64tab"], apart := false, laid := [("math/bits.deBruijn64tab", laid_math_bits_deBruijn64tab)], narrowed := true }
def TriePlaysUptoSaid : Prop := triePlaysUptoRow.holds Tryd.pinned (OpenSpec.upto triePlaysSpec)

end Rows
end Go.Proofs.YtnhdcefoigmjpaaDoor
