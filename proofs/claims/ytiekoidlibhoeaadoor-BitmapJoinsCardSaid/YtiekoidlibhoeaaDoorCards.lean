/-
  DERIVED. GIVEN WITH THE SEED: THE CARDS: each row of YtiekoidlibhoeaaDoorRows.lean that lists a variable, with what it lists TIED to the program's text (the seventh form; the later family's looks); each row that meets fmt, with fmt's text TOLD by the authors' own Lean function (tested against real Go, not proved from fmt's source: count such statements apart). THE CARD IS WHAT COUNTS. Prove the row's statement (the work); the ties are given (YtiekoidlibhoeaaDoorTie.lean); close each card by the builder's one call (the guide's Derived/Test/ToyasCard.lean, 'card_holds'). Laid BY PROGRAM, IN A SANDBOX (cutbox-door.mjs). By AI agents, Wed Nov 11 2026. No macro, syntax, notation, axiom, sorry.
-/
import Derived.Test.YtiekoidlibhoeaaDoorRows
import GoSem.ClaimSeven
namespace Go.Proofs.YtiekoidlibhoeaaDoor
namespace Rows

/-- THE TIED CARD OF 'stepstonelaw07.BitmapMakes'. -/
def bitmapMakesCard : Claim7 := { stood := { row := bitmapMakesRow, standIns := [], harness := (true, "ee8343d2457138a1be1c6caa4f186ac12dc2dd54a147a7e196ba3fe54daa9194"), looks := false }, kinds := [], alts := [], laidByText := true, laidKinds := [.data], laidTests := true, laidLooks := .later }
def BitmapMakesCardSaid : Prop := Claim7.holds Tryd.pinned (.plain (OpenSpec.ofChange bitmapMakesSpec)) bitmapMakesCard

/-- THE TIED CARD OF 'stepstonelaw07.BitmapPlays'. -/
def bitmapPlaysCard : Claim7 := { stood := { row := bitmapPlaysRow, standIns := [], harness := (true, "ee8343d2457138a1be1c6caa4f186ac12dc2dd54a147a7e196ba3fe54daa9194"), looks := false }, kinds := [], alts := [], laidByText := true, laidKinds := [.data], laidTests := true, laidLooks := .later }
def BitmapPlaysCardSaid : Prop := Claim7.holds Tryd.pinned (.plain (OpenSpec.ofChange bitmapPlaysSpec)) bitmapPlaysCard

/-- THE TIED CARD OF 'stepstonelaw07.BitmapInverse'. -/
def bitmapInverseCard : Claim7 := { stood := { row := bitmapInverseRow, standIns := [], harness := (true, "ee8343d2457138a1be1c6caa4f186ac12dc2dd54a147a7e196ba3fe54daa9194"), looks := false }, kinds := [], alts := [], laidByText := true, laidKinds := [.data], laidTests := true, laidLooks := .later }
def BitmapInverseCardSaid : Prop := Claim7.holds Tryd.pinned (.plain (OpenSpec.ofChange bitmapInverseSpec)) bitmapInverseCard

/-- THE TIED CARD OF 'stepstonelaw07.BitmapAsks'. -/
def bitmapAsksCard : Claim7 := { stood := { row := bitmapAsksRow, standIns := [], harness := (true, "ee8343d2457138a1be1c6caa4f186ac12dc2dd54a147a7e196ba3fe54daa9194"), looks := false }, kinds := [], alts := [], laidByText := true, laidKinds := [.data], laidTests := true, laidLooks := .later }
def BitmapAsksCardSaid : Prop := Claim7.holds Tryd.pinned (.plain (OpenSpec.ofChange bitmapAsksSpec)) bitmapAsksCard

/-- THE TIED CARD OF 'stepstonelaw07.BitmapJoins'. -/
def bitmapJoinsCard : Claim7 := { stood := { row := bitmapJoinsRow, standIns := [], harness := (true, "ee8343d2457138a1be1c6caa4f186ac12dc2dd54a147a7e196ba3fe54daa9194"), looks := false }, kinds := [], alts := [], laidByText := true, laidKinds := [.data], laidTests := true, laidLooks := .later }
def BitmapJoinsCardSaid : Prop := Claim7.holds Tryd.pinned (.plain (OpenSpec.ofChange bitmapJoinsSpec)) bitmapJoinsCard

/-- THE SECOND FORM's CARD OF 'stepstonelaw07.BitmapMakes'. -/
def bitmapMakesUptoCard : Claim7 := { stood := { row := bitmapMakesUptoRow, standIns := [], harness := (true, "ee8343d2457138a1be1c6caa4f186ac12dc2dd54a147a7e196ba3fe54daa9194"), looks := false }, kinds := [], alts := [], laidByText := true, laidKinds := [.data], laidTests := true, laidLooks := .later }
def BitmapMakesUptoCardSaid : Prop := Claim7.holds Tryd.pinned (.plain (OpenSpec.upto bitmapMakesSpec)) bitmapMakesUptoCard

/-- THE SECOND FORM's CARD OF 'stepstonelaw07.BitmapPlays'. -/
def bitmapPlaysUptoCard : Claim7 := { stood := { row := bitmapPlaysUptoRow, standIns := [], harness := (true, "ee8343d2457138a1be1c6caa4f186ac12dc2dd54a147a7e196ba3fe54daa9194"), looks := false }, kinds := [], alts := [], laidByText := true, laidKinds := [.data], laidTests := true, laidLooks := .later }
def BitmapPlaysUptoCardSaid : Prop := Claim7.holds Tryd.pinned (.plain (OpenSpec.upto bitmapPlaysSpec)) bitmapPlaysUptoCard

/-- THE SECOND FORM's CARD OF 'stepstonelaw07.BitmapInverse'. -/
def bitmapInverseUptoCard : Claim7 := { stood := { row := bitmapInverseUptoRow, standIns := [], harness := (true, "ee8343d2457138a1be1c6caa4f186ac12dc2dd54a147a7e196ba3fe54daa9194"), looks := false }, kinds := [], alts := [], laidByText := true, laidKinds := [.data], laidTests := true, laidLooks := .later }
def BitmapInverseUptoCardSaid : Prop := Claim7.holds Tryd.pinned (.plain (OpenSpec.upto bitmapInverseSpec)) bitmapInverseUptoCard

/-- THE SECOND FORM's CARD OF 'stepstonelaw07.BitmapAsks'. -/
def bitmapAsksUptoCard : Claim7 := { stood := { row := bitmapAsksUptoRow, standIns := [], harness := (true, "ee8343d2457138a1be1c6caa4f186ac12dc2dd54a147a7e196ba3fe54daa9194"), looks := false }, kinds := [], alts := [], laidByText := true, laidKinds := [.data], laidTests := true, laidLooks := .later }
def BitmapAsksUptoCardSaid : Prop := Claim7.holds Tryd.pinned (.plain (OpenSpec.upto bitmapAsksSpec)) bitmapAsksUptoCard

/-- THE SECOND FORM's CARD OF 'stepstonelaw07.BitmapJoins'. -/
def bitmapJoinsUptoCard : Claim7 := { stood := { row := bitmapJoinsUptoRow, standIns := [], harness := (true, "ee8343d2457138a1be1c6caa4f186ac12dc2dd54a147a7e196ba3fe54daa9194"), looks := false }, kinds := [], alts := [], laidByText := true, laidKinds := [.data], laidTests := true, laidLooks := .later }
def BitmapJoinsUptoCardSaid : Prop := Claim7.holds Tryd.pinned (.plain (OpenSpec.upto bitmapJoinsSpec)) bitmapJoinsUptoCard
end Rows
end Go.Proofs.YtiekoidlibhoeaaDoor
