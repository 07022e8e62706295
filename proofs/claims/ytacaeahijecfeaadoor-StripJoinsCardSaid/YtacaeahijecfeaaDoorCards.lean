/-
  DERIVED. GIVEN WITH THE SEED: THE CARDS: each row of YtacaeahijecfeaaDoorRows.lean that lists a variable, with what it lists TIED to the program's text (the seventh form; the later family's looks); each row that meets fmt, with fmt's text TOLD by the authors' own Lean function (tested against real Go, not proved from fmt's source: count such statements apart). THE CARD IS WHAT COUNTS. Prove the row's statement (the work); the ties are given (YtacaeahijecfeaaDoorTie.lean); close each card by the builder's one call (the guide's Derived/Test/ToyasCard.lean, 'card_holds'). Laid BY PROGRAM, IN A SANDBOX (cutbox-door.mjs). By AI agents, Wed Nov 11 2026. No macro, syntax, notation, axiom, sorry.
-/
import Derived.Test.YtacaeahijecfeaaDoorRows
import GoSem.ClaimSeven
namespace Go.Proofs.YtacaeahijecfeaaDoor
namespace Rows

/-- THE TIED CARD OF 'stepstonelaw02.StripRanges'. -/
def stripRangesCard : Claim7 := { stood := { row := stripRangesRow, standIns := [], harness := (true, "4a9ff03be777ea29563615b676fd42efe1f9a7f6592c4fab4f42ed5718adce11"), looks := false }, kinds := [], alts := [], laidByText := true, laidKinds := [.data], laidTests := true, laidLooks := .later }
def StripRangesCardSaid : Prop := Claim7.holds Tryd.pinned (.plain (OpenSpec.ofChange stripRangesSpec)) stripRangesCard

/-- THE TIED CARD OF 'stepstonelaw02.StripPlays'. -/
def stripPlaysCard : Claim7 := { stood := { row := stripPlaysRow, standIns := [], harness := (true, "4a9ff03be777ea29563615b676fd42efe1f9a7f6592c4fab4f42ed5718adce11"), looks := false }, kinds := [], alts := [], laidByText := true, laidKinds := [.data], laidTests := true, laidLooks := .later }
def StripPlaysCardSaid : Prop := Claim7.holds Tryd.pinned (.plain (OpenSpec.ofChange stripPlaysSpec)) stripPlaysCard

/-- THE TIED CARD OF 'stepstonelaw02.StripCopies'. -/
def stripCopiesCard : Claim7 := { stood := { row := stripCopiesRow, standIns := [], harness := (true, "4a9ff03be777ea29563615b676fd42efe1f9a7f6592c4fab4f42ed5718adce11"), looks := false }, kinds := [], alts := [], laidByText := true, laidKinds := [.data], laidTests := true, laidLooks := .later }
def StripCopiesCardSaid : Prop := Claim7.holds Tryd.pinned (.plain (OpenSpec.ofChange stripCopiesSpec)) stripCopiesCard

/-- THE TIED CARD OF 'stepstonelaw02.StripJoins'. -/
def stripJoinsCard : Claim7 := { stood := { row := stripJoinsRow, standIns := [], harness := (true, "4a9ff03be777ea29563615b676fd42efe1f9a7f6592c4fab4f42ed5718adce11"), looks := false }, kinds := [], alts := [], laidByText := true, laidKinds := [.data], laidTests := true, laidLooks := .later }
def StripJoinsCardSaid : Prop := Claim7.holds Tryd.pinned (.plain (OpenSpec.ofChange stripJoinsSpec)) stripJoinsCard

/-- THE TIED CARD OF 'stepstonelaw02.StripAsks'. -/
def stripAsksCard : Claim7 := { stood := { row := stripAsksRow, standIns := [], harness := (true, "4a9ff03be777ea29563615b676fd42efe1f9a7f6592c4fab4f42ed5718adce11"), looks := false }, kinds := [], alts := [], laidByText := true, laidKinds := [.data], laidTests := true, laidLooks := .later }
def StripAsksCardSaid : Prop := Claim7.holds Tryd.pinned (.plain (OpenSpec.ofChange stripAsksSpec)) stripAsksCard

/-- THE TIED CARD OF 'stepstonelaw02.StripInverse'. -/
def stripInverseCard : Claim7 := { stood := { row := stripInverseRow, standIns := [], harness := (true, "4a9ff03be777ea29563615b676fd42efe1f9a7f6592c4fab4f42ed5718adce11"), looks := false }, kinds := [], alts := [], laidByText := true, laidKinds := [.data], laidTests := true, laidLooks := .later }
def StripInverseCardSaid : Prop := Claim7.holds Tryd.pinned (.plain (OpenSpec.ofChange stripInverseSpec)) stripInverseCard

/-- THE TIED CARD OF 'stepstonelaw02.StripArgs'. -/
def stripArgsCard : Claim7 := { stood := { row := stripArgsRow, standIns := [], harness := (true, "4a9ff03be777ea29563615b676fd42efe1f9a7f6592c4fab4f42ed5718adce11"), looks := false }, kinds := [], alts := [], laidByText := true, laidKinds := [.data], laidTests := true, laidLooks := .later }
def StripArgsCardSaid : Prop := Claim7.holds Tryd.pinned (.plain (OpenSpec.ofChange stripArgsSpec)) stripArgsCard

/-- THE SECOND FORM's CARD OF 'stepstonelaw02.StripRanges'. -/
def stripRangesUptoCard : Claim7 := { stood := { row := stripRangesUptoRow, standIns := [], harness := (true, "4a9ff03be777ea29563615b676fd42efe1f9a7f6592c4fab4f42ed5718adce11"), looks := false }, kinds := [], alts := [], laidByText := true, laidKinds := [.data], laidTests := true, laidLooks := .later }
def StripRangesUptoCardSaid : Prop := Claim7.holds Tryd.pinned (.plain (OpenSpec.upto stripRangesSpec)) stripRangesUptoCard

/-- THE SECOND FORM's CARD OF 'stepstonelaw02.StripPlays'. -/
def stripPlaysUptoCard : Claim7 := { stood := { row := stripPlaysUptoRow, standIns := [], harness := (true, "4a9ff03be777ea29563615b676fd42efe1f9a7f6592c4fab4f42ed5718adce11"), looks := false }, kinds := [], alts := [], laidByText := true, laidKinds := [.data], laidTests := true, laidLooks := .later }
def StripPlaysUptoCardSaid : Prop := Claim7.holds Tryd.pinned (.plain (OpenSpec.upto stripPlaysSpec)) stripPlaysUptoCard

/-- THE SECOND FORM's CARD OF 'stepstonelaw02.StripCopies'. -/
def stripCopiesUptoCard : Claim7 := { stood := { row := stripCopiesUptoRow, standIns := [], harness := (true, "4a9ff03be777ea29563615b676fd42efe1f9a7f6592c4fab4f42ed5718adce11"), looks := false }, kinds := [], alts := [], laidByText := true, laidKinds := [.data], laidTests := true, laidLooks := .later }
def StripCopiesUptoCardSaid : Prop := Claim7.holds Tryd.pinned (.plain (OpenSpec.upto stripCopiesSpec)) stripCopiesUptoCard

/-- THE SECOND FORM's CARD OF 'stepstonelaw02.StripJoins'. -/
def stripJoinsUptoCard : Claim7 := { stood := { row := stripJoinsUptoRow, standIns := [], harness := (true, "4a9ff03be777ea29563615b676fd42efe1f9a7f6592c4fab4f42ed5718adce11"), looks := false }, kinds := [], alts := [], laidByText := true, laidKinds := [.data], laidTests := true, laidLooks := .later }
def StripJoinsUptoCardSaid : Prop := Claim7.holds Tryd.pinned (.plain (OpenSpec.upto stripJoinsSpec)) stripJoinsUptoCard

/-- THE SECOND FORM's CARD OF 'stepstonelaw02.StripAsks'. -/
def stripAsksUptoCard : Claim7 := { stood := { row := stripAsksUptoRow, standIns := [], harness := (true, "4a9ff03be777ea29563615b676fd42efe1f9a7f6592c4fab4f42ed5718adce11"), looks := false }, kinds := [], alts := [], laidByText := true, laidKinds := [.data], laidTests := true, laidLooks := .later }
def StripAsksUptoCardSaid : Prop := Claim7.holds Tryd.pinned (.plain (OpenSpec.upto stripAsksSpec)) stripAsksUptoCard

/-- THE SECOND FORM's CARD OF 'stepstonelaw02.StripInverse'. -/
def stripInverseUptoCard : Claim7 := { stood := { row := stripInverseUptoRow, standIns := [], harness := (true, "4a9ff03be777ea29563615b676fd42efe1f9a7f6592c4fab4f42ed5718adce11"), looks := false }, kinds := [], alts := [], laidByText := true, laidKinds := [.data], laidTests := true, laidLooks := .later }
def StripInverseUptoCardSaid : Prop := Claim7.holds Tryd.pinned (.plain (OpenSpec.upto stripInverseSpec)) stripInverseUptoCard

/-- THE SECOND FORM's CARD OF 'stepstonelaw02.StripArgs'. -/
def stripArgsUptoCard : Claim7 := { stood := { row := stripArgsUptoRow, standIns := [], harness := (true, "4a9ff03be777ea29563615b676fd42efe1f9a7f6592c4fab4f42ed5718adce11"), looks := false }, kinds := [], alts := [], laidByText := true, laidKinds := [.data], laidTests := true, laidLooks := .later }
def StripArgsUptoCardSaid : Prop := Claim7.holds Tryd.pinned (.plain (OpenSpec.upto stripArgsSpec)) stripArgsUptoCard
end Rows
end Go.Proofs.YtacaeahijecfeaaDoor
