/-
  DERIVED. GIVEN WITH THE SEED: THE CARDS: each row of YtgknkkdemjjeoaaGreatDoorRows.lean that lists a variable, with what it lists TIED to the program's text (the seventh form; the later family's looks); each row that meets fmt, with fmt's text TOLD by the authors' own Lean function (tested against real Go, not proved from fmt's source: count such statements apart). THE CARD IS WHAT COUNTS. Prove the row's statement (the work); the ties are given (YtgknkkdemjjeoaaGreatDoorTie.lean); close each card by the builder's one call (the guide's Derived/Test/ToyasCard.lean, 'card_holds'). Laid BY PROGRAM, IN A SANDBOX (cutbox-door.mjs). By AI agents, Wed Nov 11 2026. No macro, syntax, notation, axiom, sorry.
-/
import Derived.Test.YtgknkkdemjjeoaaGreatDoorRows
import GoSem.ClaimSeven
namespace Go.Proofs.YtgknkkdemjjeoaaGreatDoor
namespace Rows

/-- THE TIED CARD OF 'weirgatelaw12.TypingCopies'. -/
def typingCopiesCard : Claim7 := { stood := { row := typingCopiesRow, standIns := [], harness := (true, "3c5a606c523550e4d46bd844851c881d624b91c6946a9329cc9cd26554bc359f"), looks := false }, kinds := [], alts := [], laidByText := true, laidKinds := [.listed, .data], laidTests := true, laidLooks := .later }
def TypingCopiesCardSaid : Prop := Claim7.holds Tryz.pinned (.plain (OpenSpec.ofChange typingCopiesSpec)) typingCopiesCard

/-- THE TIED CARD OF 'weirgatelaw12.TypingAtomics'. -/
def typingAtomicsCard : Claim7 := { stood := { row := typingAtomicsRow, standIns := [], harness := (true, "3c5a606c523550e4d46bd844851c881d624b91c6946a9329cc9cd26554bc359f"), looks := false }, kinds := [], alts := [], laidByText := true, laidKinds := [.listed, .data], laidTests := true, laidLooks := .later }
def TypingAtomicsCardSaid : Prop := Claim7.holds Tryz.pinned (.plain (OpenSpec.ofChange typingAtomicsSpec)) typingAtomicsCard

/-- THE SECOND FORM's CARD OF 'weirgatelaw12.TypingCopies'. -/
def typingCopiesUptoCard : Claim7 := { stood := { row := typingCopiesUptoRow, standIns := [], harness := (true, "3c5a606c523550e4d46bd844851c881d624b91c6946a9329cc9cd26554bc359f"), looks := false }, kinds := [], alts := [], laidByText := true, laidKinds := [.listed, .data], laidTests := true, laidLooks := .later }
def TypingCopiesUptoCardSaid : Prop := Claim7.holds Tryz.pinned (.plain (OpenSpec.upto typingCopiesSpec)) typingCopiesUptoCard

/-- THE SECOND FORM's CARD OF 'weirgatelaw12.TypingAtomics'. -/
def typingAtomicsUptoCard : Claim7 := { stood := { row := typingAtomicsUptoRow, standIns := [], harness := (true, "3c5a606c523550e4d46bd844851c881d624b91c6946a9329cc9cd26554bc359f"), looks := false }, kinds := [], alts := [], laidByText := true, laidKinds := [.listed, .data], laidTests := true, laidLooks := .later }
def TypingAtomicsUptoCardSaid : Prop := Claim7.holds Tryz.pinned (.plain (OpenSpec.upto typingAtomicsSpec)) typingAtomicsUptoCard
end Rows
end Go.Proofs.YtgknkkdemjjeoaaGreatDoor
