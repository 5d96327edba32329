/-
  DERIVED. GIVEN WITH THE SEED: THE CARDS: each row of YtbalajldicbbbaaDoorRows.lean that lists a variable, with what it lists TIED to the program's text (the seventh form; the later family's looks); each row that meets fmt, with fmt's text TOLD by the authors' own Lean function (tested against real Go, not proved from fmt's source: count such statements apart). THE CARD IS WHAT COUNTS. Prove the row's statement (the work); the ties are given (YtbalajldicbbbaaDoorTie.lean); close each card by the builder's one call (the guide's Derived/Test/ToyasCard.lean, 'card_holds'). Laid BY PROGRAM, IN A SANDBOX (cutbox-door.mjs). By AI agents, Wed Nov 11 2026. No macro, syntax, notation, axiom, sorry.
-/
import Derived.Test.YtbalajldicbbbaaDoorRows
import GoSem.ClaimSeven
namespace Go.Proofs.YtbalajldicbbbaaDoor
namespace Rows

/-- THE TIED CARD OF 'weirgatelaw08.LexLong'. -/
def lexLongCard : Claim7 := { stood := { row := lexLongRow, standIns := [], harness := (true, "f248c1c4673826879ad8c7bb3eab82a3590e6754a5da2ba1304a0ff31eccd1ab"), looks := false }, kinds := [], alts := [], laidByText := true, laidKinds := [.listed, .data], laidTests := true, laidLooks := .later }
def LexLongCardSaid : Prop := Claim7.holds Tryd.pinned (.plain (OpenSpec.ofChange lexLongSpec)) lexLongCard

/-- THE TIED CARD OF 'weirgatelaw08.LexNames'. -/
def lexNamesCard : Claim7 := { stood := { row := lexNamesRow, standIns := [], harness := (true, "f248c1c4673826879ad8c7bb3eab82a3590e6754a5da2ba1304a0ff31eccd1ab"), looks := false }, kinds := [], alts := [], laidByText := true, laidKinds := [.listed, .data], laidTests := true, laidLooks := .later }
def LexNamesCardSaid : Prop := Claim7.holds Tryd.pinned (.plain (OpenSpec.ofChange lexNamesSpec)) lexNamesCard

/-- THE TIED CARD OF 'weirgatelaw08.LexPlaces'. -/
def lexPlacesCard : Claim7 := { stood := { row := lexPlacesRow, standIns := [], harness := (true, "f248c1c4673826879ad8c7bb3eab82a3590e6754a5da2ba1304a0ff31eccd1ab"), looks := false }, kinds := [], alts := [], laidByText := true, laidKinds := [.listed, .data], laidTests := true, laidLooks := .later }
def LexPlacesCardSaid : Prop := Claim7.holds Tryd.pinned (.plain (OpenSpec.ofChange lexPlacesSpec)) lexPlacesCard

/-- THE SECOND FORM's CARD OF 'weirgatelaw08.LexLong'. -/
def lexLongUptoCard : Claim7 := { stood := { row := lexLongUptoRow, standIns := [], harness := (true, "f248c1c4673826879ad8c7bb3eab82a3590e6754a5da2ba1304a0ff31eccd1ab"), looks := false }, kinds := [], alts := [], laidByText := true, laidKinds := [.listed, .data], laidTests := true, laidLooks := .later }
def LexLongUptoCardSaid : Prop := Claim7.holds Tryd.pinned (.plain (OpenSpec.upto lexLongSpec)) lexLongUptoCard

/-- THE SECOND FORM's CARD OF 'weirgatelaw08.LexNames'. -/
def lexNamesUptoCard : Claim7 := { stood := { row := lexNamesUptoRow, standIns := [], harness := (true, "f248c1c4673826879ad8c7bb3eab82a3590e6754a5da2ba1304a0ff31eccd1ab"), looks := false }, kinds := [], alts := [], laidByText := true, laidKinds := [.listed, .data], laidTests := true, laidLooks := .later }
def LexNamesUptoCardSaid : Prop := Claim7.holds Tryd.pinned (.plain (OpenSpec.upto lexNamesSpec)) lexNamesUptoCard

/-- THE SECOND FORM's CARD OF 'weirgatelaw08.LexPlaces'. -/
def lexPlacesUptoCard : Claim7 := { stood := { row := lexPlacesUptoRow, standIns := [], harness := (true, "f248c1c4673826879ad8c7bb3eab82a3590e6754a5da2ba1304a0ff31eccd1ab"), looks := false }, kinds := [], alts := [], laidByText := true, laidKinds := [.listed, .data], laidTests := true, laidLooks := .later }
def LexPlacesUptoCardSaid : Prop := Claim7.holds Tryd.pinned (.plain (OpenSpec.upto lexPlacesSpec)) lexPlacesUptoCard
end Rows
end Go.Proofs.YtbalajldicbbbaaDoor
