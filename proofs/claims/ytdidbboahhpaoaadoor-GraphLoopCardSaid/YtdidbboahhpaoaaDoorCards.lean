/-
  DERIVED. GIVEN WITH THE SEED: THE CARDS: each row of YtdidbboahhpaoaaDoorRows.lean that lists a variable, with what it lists TIED to the program's text (the seventh form; the later family's looks); each row that meets fmt, with fmt's text TOLD by the authors' own Lean function (tested against real Go, not proved from fmt's source: count such statements apart). THE CARD IS WHAT COUNTS. Prove the row's statement (the work); the ties are given (YtdidbboahhpaoaaDoorTie.lean); close each card by the builder's one call (the guide's Derived/Test/ToyasCard.lean, 'card_holds'). Laid BY PROGRAM, IN A SANDBOX (cutbox-door.mjs). By AI agents, Wed Nov 11 2026. No macro, syntax, notation, axiom, sorry.
-/
import Derived.Test.YtdidbboahhpaoaaDoorRows
import GoSem.ClaimSeven
namespace Go.Proofs.YtdidbboahhpaoaaDoor
namespace Rows

/-- THE TIED CARD OF 'weirgatelaw05.GraphOnce'. -/
def graphOnceCard : Claim7 := { stood := { row := graphOnceRow, standIns := [], harness := (true, "02cf94bc0e9517536c5eb0d69b3825a59943c059622d4d37beb1eb9378ef9c6a"), looks := false }, kinds := [], alts := [], laidByText := true, laidKinds := [.data], laidTests := true, laidLooks := .later }
def GraphOnceCardSaid : Prop := Claim7.holds Tryd.pinned (.plain (OpenSpec.ofChange graphOnceSpec)) graphOnceCard

/-- THE TIED CARD OF 'weirgatelaw05.GraphLoop'. -/
def graphLoopCard : Claim7 := { stood := { row := graphLoopRow, standIns := [], harness := (true, "02cf94bc0e9517536c5eb0d69b3825a59943c059622d4d37beb1eb9378ef9c6a"), looks := false }, kinds := [], alts := [], laidByText := true, laidKinds := [.data], laidTests := true, laidLooks := .later }
def GraphLoopCardSaid : Prop := Claim7.holds Tryd.pinned (.plain (OpenSpec.ofChange graphLoopSpec)) graphLoopCard

/-- THE SECOND FORM's CARD OF 'weirgatelaw05.GraphOnce'. -/
def graphOnceUptoCard : Claim7 := { stood := { row := graphOnceUptoRow, standIns := [], harness := (true, "02cf94bc0e9517536c5eb0d69b3825a59943c059622d4d37beb1eb9378ef9c6a"), looks := false }, kinds := [], alts := [], laidByText := true, laidKinds := [.data], laidTests := true, laidLooks := .later }
def GraphOnceUptoCardSaid : Prop := Claim7.holds Tryd.pinned (.plain (OpenSpec.upto graphOnceSpec)) graphOnceUptoCard

/-- THE SECOND FORM's CARD OF 'weirgatelaw05.GraphLoop'. -/
def graphLoopUptoCard : Claim7 := { stood := { row := graphLoopUptoRow, standIns := [], harness := (true, "02cf94bc0e9517536c5eb0d69b3825a59943c059622d4d37beb1eb9378ef9c6a"), looks := false }, kinds := [], alts := [], laidByText := true, laidKinds := [.data], laidTests := true, laidLooks := .later }
def GraphLoopUptoCardSaid : Prop := Claim7.holds Tryd.pinned (.plain (OpenSpec.upto graphLoopSpec)) graphLoopUptoCard
end Rows
end Go.Proofs.YtdidbboahhpaoaaDoor
