/-
  DERIVED. GIVEN WITH THE SEED: THE CARDS: each row of YtkglhinlnkdajaaDoorRows.lean that lists a variable, with what it lists TIED to the program's text (the seventh form; the later family's looks); each row that meets fmt, with fmt's text TOLD by the authors' own Lean function (tested against real Go, not proved from fmt's source: count such statements apart). THE CARD IS WHAT COUNTS. Prove the row's statement (the work); the ties are given (YtkglhinlnkdajaaDoorTie.lean); close each card by the builder's one call (the guide's Derived/Test/ToyasCard.lean, 'card_holds'). Laid BY PROGRAM, IN A SANDBOX (cutbox-door.mjs). By AI agents, Wed Nov 11 2026. No macro, syntax, notation, axiom, sorry.
-/
import Derived.Test.YtkglhinlnkdajaaDoorRows
import GoSem.ClaimSeven
namespace Go.Proofs.YtkglhinlnkdajaaDoor
namespace Rows

/-- THE TIED CARD OF 'stepstonelaw01.BitMasks'. -/
def bitMasksCard : Claim7 := { stood := { row := bitMasksRow, standIns := [], harness := (true, "8835dec974e9427b2c37112c063cd825f87f637050fbd87634a21cf982532a1a"), looks := false }, kinds := [], alts := [], laidByText := true, laidKinds := [.data], laidTests := true, laidLooks := .later }
def BitMasksCardSaid : Prop := Claim7.holds Tryd.pinned (.plain (OpenSpec.ofChange bitMasksSpec)) bitMasksCard

/-- THE TIED CARD OF 'stepstonelaw01.BitAsks'. -/
def bitAsksCard : Claim7 := { stood := { row := bitAsksRow, standIns := [], harness := (true, "8835dec974e9427b2c37112c063cd825f87f637050fbd87634a21cf982532a1a"), looks := false }, kinds := [], alts := [], laidByText := true, laidKinds := [.data], laidTests := true, laidLooks := .later }
def BitAsksCardSaid : Prop := Claim7.holds Tryd.pinned (.plain (OpenSpec.ofChange bitAsksSpec)) bitAsksCard

/-- THE TIED CARD OF 'stepstonelaw01.BitInverse'. -/
def bitInverseCard : Claim7 := { stood := { row := bitInverseRow, standIns := [], harness := (true, "8835dec974e9427b2c37112c063cd825f87f637050fbd87634a21cf982532a1a"), looks := false }, kinds := [], alts := [], laidByText := true, laidKinds := [.data], laidTests := true, laidLooks := .later }
def BitInverseCardSaid : Prop := Claim7.holds Tryd.pinned (.plain (OpenSpec.ofChange bitInverseSpec)) bitInverseCard

/-- THE TIED CARD OF 'stepstonelaw01.BitRest'. -/
def bitRestCard : Claim7 := { stood := { row := bitRestRow, standIns := [], harness := (true, "8835dec974e9427b2c37112c063cd825f87f637050fbd87634a21cf982532a1a"), looks := false }, kinds := [], alts := [], laidByText := true, laidKinds := [.data], laidTests := true, laidLooks := .later }
def BitRestCardSaid : Prop := Claim7.holds Tryd.pinned (.plain (OpenSpec.ofChange bitRestSpec)) bitRestCard

/-- THE TIED CARD OF 'stepstonelaw01.BitSets'. -/
def bitSetsCard : Claim7 := { stood := { row := bitSetsRow, standIns := [], harness := (true, "8835dec974e9427b2c37112c063cd825f87f637050fbd87634a21cf982532a1a"), looks := false }, kinds := [], alts := [], laidByText := true, laidKinds := [.data], laidTests := true, laidLooks := .later }
def BitSetsCardSaid : Prop := Claim7.holds Tryd.pinned (.plain (OpenSpec.ofChange bitSetsSpec)) bitSetsCard

/-- THE TIED CARD OF 'stepstonelaw01.BitLists'. -/
def bitListsCard : Claim7 := { stood := { row := bitListsRow, standIns := [], harness := (true, "8835dec974e9427b2c37112c063cd825f87f637050fbd87634a21cf982532a1a"), looks := false }, kinds := [], alts := [], laidByText := true, laidKinds := [.data], laidTests := true, laidLooks := .later }
def BitListsCardSaid : Prop := Claim7.holds Tryd.pinned (.plain (OpenSpec.ofChange bitListsSpec)) bitListsCard

/-- THE TIED CARD OF 'stepstonelaw01.BitWalks'. -/
def bitWalksCard : Claim7 := { stood := { row := bitWalksRow, standIns := [], harness := (true, "8835dec974e9427b2c37112c063cd825f87f637050fbd87634a21cf982532a1a"), looks := false }, kinds := [], alts := [], laidByText := true, laidKinds := [.data], laidTests := true, laidLooks := .later }
def BitWalksCardSaid : Prop := Claim7.holds Tryd.pinned (.plain (OpenSpec.ofChange bitWalksSpec)) bitWalksCard

/-- THE SECOND FORM's CARD OF 'stepstonelaw01.BitMasks'. -/
def bitMasksUptoCard : Claim7 := { stood := { row := bitMasksUptoRow, standIns := [], harness := (true, "8835dec974e9427b2c37112c063cd825f87f637050fbd87634a21cf982532a1a"), looks := false }, kinds := [], alts := [], laidByText := true, laidKinds := [.data], laidTests := true, laidLooks := .later }
def BitMasksUptoCardSaid : Prop := Claim7.holds Tryd.pinned (.plain (OpenSpec.upto bitMasksSpec)) bitMasksUptoCard

/-- THE SECOND FORM's CARD OF 'stepstonelaw01.BitAsks'. -/
def bitAsksUptoCard : Claim7 := { stood := { row := bitAsksUptoRow, standIns := [], harness := (true, "8835dec974e9427b2c37112c063cd825f87f637050fbd87634a21cf982532a1a"), looks := false }, kinds := [], alts := [], laidByText := true, laidKinds := [.data], laidTests := true, laidLooks := .later }
def BitAsksUptoCardSaid : Prop := Claim7.holds Tryd.pinned (.plain (OpenSpec.upto bitAsksSpec)) bitAsksUptoCard

/-- THE SECOND FORM's CARD OF 'stepstonelaw01.BitInverse'. -/
def bitInverseUptoCard : Claim7 := { stood := { row := bitInverseUptoRow, standIns := [], harness := (true, "8835dec974e9427b2c37112c063cd825f87f637050fbd87634a21cf982532a1a"), looks := false }, kinds := [], alts := [], laidByText := true, laidKinds := [.data], laidTests := true, laidLooks := .later }
def BitInverseUptoCardSaid : Prop := Claim7.holds Tryd.pinned (.plain (OpenSpec.upto bitInverseSpec)) bitInverseUptoCard

/-- THE SECOND FORM's CARD OF 'stepstonelaw01.BitRest'. -/
def bitRestUptoCard : Claim7 := { stood := { row := bitRestUptoRow, standIns := [], harness := (true, "8835dec974e9427b2c37112c063cd825f87f637050fbd87634a21cf982532a1a"), looks := false }, kinds := [], alts := [], laidByText := true, laidKinds := [.data], laidTests := true, laidLooks := .later }
def BitRestUptoCardSaid : Prop := Claim7.holds Tryd.pinned (.plain (OpenSpec.upto bitRestSpec)) bitRestUptoCard

/-- THE SECOND FORM's CARD OF 'stepstonelaw01.BitSets'. -/
def bitSetsUptoCard : Claim7 := { stood := { row := bitSetsUptoRow, standIns := [], harness := (true, "8835dec974e9427b2c37112c063cd825f87f637050fbd87634a21cf982532a1a"), looks := false }, kinds := [], alts := [], laidByText := true, laidKinds := [.data], laidTests := true, laidLooks := .later }
def BitSetsUptoCardSaid : Prop := Claim7.holds Tryd.pinned (.plain (OpenSpec.upto bitSetsSpec)) bitSetsUptoCard

/-- THE SECOND FORM's CARD OF 'stepstonelaw01.BitLists'. -/
def bitListsUptoCard : Claim7 := { stood := { row := bitListsUptoRow, standIns := [], harness := (true, "8835dec974e9427b2c37112c063cd825f87f637050fbd87634a21cf982532a1a"), looks := false }, kinds := [], alts := [], laidByText := true, laidKinds := [.data], laidTests := true, laidLooks := .later }
def BitListsUptoCardSaid : Prop := Claim7.holds Tryd.pinned (.plain (OpenSpec.upto bitListsSpec)) bitListsUptoCard

/-- THE SECOND FORM's CARD OF 'stepstonelaw01.BitWalks'. -/
def bitWalksUptoCard : Claim7 := { stood := { row := bitWalksUptoRow, standIns := [], harness := (true, "8835dec974e9427b2c37112c063cd825f87f637050fbd87634a21cf982532a1a"), looks := false }, kinds := [], alts := [], laidByText := true, laidKinds := [.data], laidTests := true, laidLooks := .later }
def BitWalksUptoCardSaid : Prop := Claim7.holds Tryd.pinned (.plain (OpenSpec.upto bitWalksSpec)) bitWalksUptoCard
end Rows
end Go.Proofs.YtkglhinlnkdajaaDoor
