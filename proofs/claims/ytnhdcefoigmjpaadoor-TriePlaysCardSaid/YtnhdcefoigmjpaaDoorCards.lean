/-
  DERIVED. GIVEN WITH THE SEED: THE CARDS: each row of YtnhdcefoigmjpaaDoorRows.lean that lists a variable, with what it lists TIED to the program's text (the seventh form; the later family's looks); each row that meets fmt, with fmt's text TOLD by the authors' own Lean function (tested against real Go, not proved from fmt's source: count such statements apart). THE CARD IS WHAT COUNTS. Prove the row's statement (the work); the ties are given (YtnhdcefoigmjpaaDoorTie.lean); close each card by the builder's one call (the guide's Derived/Test/ToyasCard.lean, 'card_holds'). Laid BY PROGRAM, IN A SANDBOX (cutbox-door.mjs). By AI agents, Wed Nov 11 2026. No macro, syntax, notation, axiom, sorry.
-/
import Derived.Test.YtnhdcefoigmjpaaDoorRows
import GoSem.ClaimSeven
namespace Go.Proofs.YtnhdcefoigmjpaaDoor
namespace Rows

/-- THE TIED CARD OF 'stepstonelaw11.TrieWalks'. -/
def trieWalksCard : Claim7 := { stood := { row := trieWalksRow, standIns := [], harness := (true, "f0fef51cf7f40e6909a10d125df222f11a987989a800434060983d42ed145f2d"), looks := false }, kinds := [], alts := [], laidByText := true, laidKinds := [.data], laidTests := true, laidLooks := .later }
def TrieWalksCardSaid : Prop := Claim7.holds Tryd.pinned (.plain (OpenSpec.ofChange trieWalksSpec)) trieWalksCard

/-- THE TIED CARD OF 'stepstonelaw11.TrieFull'. -/
def trieFullCard : Claim7 := { stood := { row := trieFullRow, standIns := [], harness := (true, "f0fef51cf7f40e6909a10d125df222f11a987989a800434060983d42ed145f2d"), looks := false }, kinds := [], alts := [], laidByText := true, laidKinds := [.data], laidTests := true, laidLooks := .later }
def TrieFullCardSaid : Prop := Claim7.holds Tryd.pinned (.plain (OpenSpec.ofChange trieFullSpec)) trieFullCard

/-- THE TIED CARD OF 'stepstonelaw11.TrieRanks'. -/
def trieRanksCard : Claim7 := { stood := { row := trieRanksRow, standIns := [], harness := (true, "f0fef51cf7f40e6909a10d125df222f11a987989a800434060983d42ed145f2d"), looks := false }, kinds := [], alts := [], laidByText := true, laidKinds := [.data], laidTests := true, laidLooks := .later }
def TrieRanksCardSaid : Prop := Claim7.holds Tryd.pinned (.plain (OpenSpec.ofChange trieRanksSpec)) trieRanksCard

/-- THE TIED CARD OF 'stepstonelaw11.TrieEmpties'. -/
def trieEmptiesCard : Claim7 := { stood := { row := trieEmptiesRow, standIns := [], harness := (true, "f0fef51cf7f40e6909a10d125df222f11a987989a800434060983d42ed145f2d"), looks := false }, kinds := [], alts := [], laidByText := true, laidKinds := [.data], laidTests := true, laidLooks := .later }
def TrieEmptiesCardSaid : Prop := Claim7.holds Tryd.pinned (.plain (OpenSpec.ofChange trieEmptiesSpec)) trieEmptiesCard

/-- THE TIED CARD OF 'stepstonelaw11.TrieNil'. -/
def trieNilCard : Claim7 := { stood := { row := trieNilRow, standIns := [], harness := (true, "f0fef51cf7f40e6909a10d125df222f11a987989a800434060983d42ed145f2d"), looks := false }, kinds := [], alts := [], laidByText := true, laidKinds := [.data], laidTests := true, laidLooks := .later }
def TrieNilCardSaid : Prop := Claim7.holds Tryd.pinned (.plain (OpenSpec.ofChange trieNilSpec)) trieNilCard

/-- THE TIED CARD OF 'stepstonelaw11.TriePlays'. -/
def triePlaysCard : Claim7 := { stood := { row := triePlaysRow, standIns := [], harness := (true, "f0fef51cf7f40e6909a10d125df222f11a987989a800434060983d42ed145f2d"), looks := false }, kinds := [], alts := [], laidByText := true, laidKinds := [.data], laidTests := true, laidLooks := .later }
def TriePlaysCardSaid : Prop := Claim7.holds Tryd.pinned (.plain (OpenSpec.ofChange triePlaysSpec)) triePlaysCard

/-- THE SECOND FORM's CARD OF 'stepstonelaw11.TrieWalks'. -/
def trieWalksUptoCard : Claim7 := { stood := { row := trieWalksUptoRow, standIns := [], harness := (true, "f0fef51cf7f40e6909a10d125df222f11a987989a800434060983d42ed145f2d"), looks := false }, kinds := [], alts := [], laidByText := true, laidKinds := [.data], laidTests := true, laidLooks := .later }
def TrieWalksUptoCardSaid : Prop := Claim7.holds Tryd.pinned (.plain (OpenSpec.upto trieWalksSpec)) trieWalksUptoCard

/-- THE SECOND FORM's CARD OF 'stepstonelaw11.TrieFull'. -/
def trieFullUptoCard : Claim7 := { stood := { row := trieFullUptoRow, standIns := [], harness := (true, "f0fef51cf7f40e6909a10d125df222f11a987989a800434060983d42ed145f2d"), looks := false }, kinds := [], alts := [], laidByText := true, laidKinds := [.data], laidTests := true, laidLooks := .later }
def TrieFullUptoCardSaid : Prop := Claim7.holds Tryd.pinned (.plain (OpenSpec.upto trieFullSpec)) trieFullUptoCard

/-- THE SECOND FORM's CARD OF 'stepstonelaw11.TrieRanks'. -/
def trieRanksUptoCard : Claim7 := { stood := { row := trieRanksUptoRow, standIns := [], harness := (true, "f0fef51cf7f40e6909a10d125df222f11a987989a800434060983d42ed145f2d"), looks := false }, kinds := [], alts := [], laidByText := true, laidKinds := [.data], laidTests := true, laidLooks := .later }
def TrieRanksUptoCardSaid : Prop := Claim7.holds Tryd.pinned (.plain (OpenSpec.upto trieRanksSpec)) trieRanksUptoCard

/-- THE SECOND FORM's CARD OF 'stepstonelaw11.TrieEmpties'. -/
def trieEmptiesUptoCard : Claim7 := { stood := { row := trieEmptiesUptoRow, standIns := [], harness := (true, "f0fef51cf7f40e6909a10d125df222f11a987989a800434060983d42ed145f2d"), looks := false }, kinds := [], alts := [], laidByText := true, laidKinds := [.data], laidTests := true, laidLooks := .later }
def TrieEmptiesUptoCardSaid : Prop := Claim7.holds Tryd.pinned (.plain (OpenSpec.upto trieEmptiesSpec)) trieEmptiesUptoCard

/-- THE SECOND FORM's CARD OF 'stepstonelaw11.TrieNil'. -/
def trieNilUptoCard : Claim7 := { stood := { row := trieNilUptoRow, standIns := [], harness := (true, "f0fef51cf7f40e6909a10d125df222f11a987989a800434060983d42ed145f2d"), looks := false }, kinds := [], alts := [], laidByText := true, laidKinds := [.data], laidTests := true, laidLooks := .later }
def TrieNilUptoCardSaid : Prop := Claim7.holds Tryd.pinned (.plain (OpenSpec.upto trieNilSpec)) trieNilUptoCard

/-- THE SECOND FORM's CARD OF 'stepstonelaw11.TriePlays'. -/
def triePlaysUptoCard : Claim7 := { stood := { row := triePlaysUptoRow, standIns := [], harness := (true, "f0fef51cf7f40e6909a10d125df222f11a987989a800434060983d42ed145f2d"), looks := false }, kinds := [], alts := [], laidByText := true, laidKinds := [.data], laidTests := true, laidLooks := .later }
def TriePlaysUptoCardSaid : Prop := Claim7.holds Tryd.pinned (.plain (OpenSpec.upto triePlaysSpec)) triePlaysUptoCard
end Rows
end Go.Proofs.YtnhdcefoigmjpaaDoor
