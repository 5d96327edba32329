/-
  DERIVED. GIVEN WITH THE SEED: THE CARDS: each row of YtblcophaibakmaaDoorRows.lean that lists a variable, with what it lists TIED to the program's text (the seventh form; the later family's looks); each row that meets fmt, with fmt's text TOLD by the authors' own Lean function (tested against real Go, not proved from fmt's source: count such statements apart). THE CARD IS WHAT COUNTS. Prove the row's statement (the work); the ties are given (YtblcophaibakmaaDoorTie.lean); close each card by the builder's one call (the guide's Derived/Test/ToyasCard.lean, 'card_holds'). Laid BY PROGRAM, IN A SANDBOX (cutbox-door.mjs). By AI agents, Wed Nov 11 2026. No macro, syntax, notation, axiom, sorry.
-/
import Derived.Test.YtblcophaibakmaaDoorRows
import GoSem.ClaimSeven
namespace Go.Proofs.YtblcophaibakmaaDoor
namespace Rows

/-- THE TIED CARD OF 'weirgatelaw11.ScopeApart'. -/
def scopeApartCard : Claim7 := { stood := { row := scopeApartRow, standIns := [], harness := (true, "e2277a7e0fbdb9e6e47b13f203be94a8023acb6223c994e66f03c447cc52063e"), looks := false }, kinds := [], alts := [], laidByText := true, laidKinds := [.listed, .data], laidTests := true, laidLooks := .later }
def ScopeApartCardSaid : Prop := Claim7.holds Tryd.pinned (.plain (OpenSpec.ofChange scopeApartSpec)) scopeApartCard

/-- THE TIED CARD OF 'weirgatelaw11.ScopeTwice'. -/
def scopeTwiceCard : Claim7 := { stood := { row := scopeTwiceRow, standIns := [], harness := (true, "e2277a7e0fbdb9e6e47b13f203be94a8023acb6223c994e66f03c447cc52063e"), looks := false }, kinds := [], alts := [], laidByText := true, laidKinds := [.listed, .data], laidTests := true, laidLooks := .later }
def ScopeTwiceCardSaid : Prop := Claim7.holds Tryd.pinned (.plain (OpenSpec.ofChange scopeTwiceSpec)) scopeTwiceCard

/-- THE TIED CARD OF 'weirgatelaw11.ScopeAhead'. -/
def scopeAheadCard : Claim7 := { stood := { row := scopeAheadRow, standIns := [], harness := (true, "e2277a7e0fbdb9e6e47b13f203be94a8023acb6223c994e66f03c447cc52063e"), looks := false }, kinds := [], alts := [], laidByText := true, laidKinds := [.listed, .data], laidTests := true, laidLooks := .later }
def ScopeAheadCardSaid : Prop := Claim7.holds Tryd.pinned (.plain (OpenSpec.ofChange scopeAheadSpec)) scopeAheadCard

/-- THE SECOND FORM's CARD OF 'weirgatelaw11.ScopeApart'. -/
def scopeApartUptoCard : Claim7 := { stood := { row := scopeApartUptoRow, standIns := [], harness := (true, "e2277a7e0fbdb9e6e47b13f203be94a8023acb6223c994e66f03c447cc52063e"), looks := false }, kinds := [], alts := [], laidByText := true, laidKinds := [.listed, .data], laidTests := true, laidLooks := .later }
def ScopeApartUptoCardSaid : Prop := Claim7.holds Tryd.pinned (.plain (OpenSpec.upto scopeApartSpec)) scopeApartUptoCard

/-- THE SECOND FORM's CARD OF 'weirgatelaw11.ScopeTwice'. -/
def scopeTwiceUptoCard : Claim7 := { stood := { row := scopeTwiceUptoRow, standIns := [], harness := (true, "e2277a7e0fbdb9e6e47b13f203be94a8023acb6223c994e66f03c447cc52063e"), looks := false }, kinds := [], alts := [], laidByText := true, laidKinds := [.listed, .data], laidTests := true, laidLooks := .later }
def ScopeTwiceUptoCardSaid : Prop := Claim7.holds Tryd.pinned (.plain (OpenSpec.upto scopeTwiceSpec)) scopeTwiceUptoCard

/-- THE SECOND FORM's CARD OF 'weirgatelaw11.ScopeAhead'. -/
def scopeAheadUptoCard : Claim7 := { stood := { row := scopeAheadUptoRow, standIns := [], harness := (true, "e2277a7e0fbdb9e6e47b13f203be94a8023acb6223c994e66f03c447cc52063e"), looks := false }, kinds := [], alts := [], laidByText := true, laidKinds := [.listed, .data], laidTests := true, laidLooks := .later }
def ScopeAheadUptoCardSaid : Prop := Claim7.holds Tryd.pinned (.plain (OpenSpec.upto scopeAheadSpec)) scopeAheadUptoCard
end Rows
end Go.Proofs.YtblcophaibakmaaDoor
