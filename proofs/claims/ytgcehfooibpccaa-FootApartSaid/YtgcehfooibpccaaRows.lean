/-
  No cell of these rows narrows 'for every input' (looked for: loops, veiled, ifaces, maps, wideKeys, modest, calm, conditions, laid).
  DERIVED. THE GIVEN ROWS OF THIS SEAT. 4 by the template 'for every input the law returns true; each argument reads behind the call as it read before'; 0 by the template 'total and deterministic' (their statements: YtgcehfooibpccaaTotals.lean).
  GIVEN WITH THE SEED: the statements are not yours to turn. If you find one false, say at which input.
  Laid BY PROGRAM, IN A SANDBOX (cutbox-rows.mjs): the forced cells as the released guide's own fill.sh prints them over the translation a4bd4538c33c7379… (all of the seat's roots in one cut). By AI agents, Wed Nov 11 2026. No macro, syntax, notation, axiom, sorry.
-/
import Derived.Test.YtgcehfooibpccaaChecked
import GoSem.Claim
import GoSem.ClaimJoined
import GoSem.ClaimMapViews
import Derived.JoinedTies
import Derived.KernelRfl
namespace Go.Proofs.Ytgcehfooibpccaa
/- THE CELL 'sum', in the pinned program and in every row, IS THE sha256 OF THE DUMP (.gsa) THAT YtgcehfooibpccaaProg.lean LOADS. Nothing in Lean hashes anything: it is a label: what it is worth is what the hold of that sum in a sandbox is worth. -/
noncomputable def Try.pinned : Pinned := { name := "ytgcehfooibpccaa", sum := "a4bd4538c33c7379c7c60bb0f07b97212f1e219fdbc300848726167a15156280", checked := Try.checked }
namespace Rows
def none {H : Type} : Left H := { results := [], args := [] }

/-- 'weirgatelaw18.FootOwn': WHATEVER THE INPUT: true; the input reads as it did. -/
def footOwnSpec : ChangeSpec := { name := "footOwn", fn := fun _ => fun
  | [d] => { results := [.lit (.bool true)], args := [d] }
  | _ => none }
def footOwnRow : OpenClaim := { program := "ytgcehfooibpccaa", sum := "a4bd4538c33c7379c7c60bb0f07b97212f1e219fdbc300848726167a15156280", func := "weirgate/weirgatelaw18.FootOwn", spec := "footOwn", unfollowed := true, recurses := true, apart := false }
def FootOwnSaid : Prop := footOwnRow.holds Try.pinned (OpenSpec.ofChange footOwnSpec)

/-- ITS FALSE NEIGHBOUR: 'it returns false'. Refute it at one input. -/
def footOwnWrong : ChangeSpec := { name := "footOwn", fn := fun _ => fun
  | [d] => { results := [.lit (.bool false)], args := [d] }
  | _ => none }
def FootOwnWrongFalsely : Prop := footOwnRow.holds Try.pinned (OpenSpec.ofChange footOwnWrong)

/-- 'weirgatelaw18.FootApart': WHATEVER THE INPUT: true; the input reads as it did. -/
def footApartSpec : ChangeSpec := { name := "footApart", fn := fun _ => fun
  | [d1, d2] => { results := [.lit (.bool true)], args := [d1, d2] }
  | _ => none }
def footApartRow : OpenClaim := { program := "ytgcehfooibpccaa", sum := "a4bd4538c33c7379c7c60bb0f07b97212f1e219fdbc300848726167a15156280", func := "weirgate/weirgatelaw18.FootApart", spec := "footApart", unfollowed := true, recurses := true, apart := false }
def FootApartSaid : Prop := footApartRow.holds Try.pinned (OpenSpec.ofChange footApartSpec)

/-- ITS FALSE NEIGHBOUR: 'it returns false'. Refute it at one input. -/
def footApartWrong : ChangeSpec := { name := "footApart", fn := fun _ => fun
  | [d1, d2] => { results := [.lit (.bool false)], args := [d1, d2] }
  | _ => none }
def FootApartWrongFalsely : Prop := footApartRow.holds Try.pinned (OpenSpec.ofChange footApartWrong)

/-- 'weirgatelaw18.FootTurns': WHATEVER THE INPUT: true; the input reads as it did. -/
def footTurnsSpec : ChangeSpec := { name := "footTurns", fn := fun _ => fun
  | [d1, d2] => { results := [.lit (.bool true)], args := [d1, d2] }
  | _ => none }
def footTurnsRow : OpenClaim := { program := "ytgcehfooibpccaa", sum := "a4bd4538c33c7379c7c60bb0f07b97212f1e219fdbc300848726167a15156280", func := "weirgate/weirgatelaw18.FootTurns", spec := "footTurns", unfollowed := true, recurses := true, apart := false }
def FootTurnsSaid : Prop := footTurnsRow.holds Try.pinned (OpenSpec.ofChange footTurnsSpec)

/-- ITS FALSE NEIGHBOUR: 'it returns false'. Refute it at one input. -/
def footTurnsWrong : ChangeSpec := { name := "footTurns", fn := fun _ => fun
  | [d1, d2] => { results := [.lit (.bool false)], args := [d1, d2] }
  | _ => none }
def FootTurnsWrongFalsely : Prop := footTurnsRow.holds Try.pinned (OpenSpec.ofChange footTurnsWrong)

/-- 'weirgatelaw18.FootSame': WHATEVER THE INPUT: true; the input reads as it did. -/
def footSameSpec : ChangeSpec := { name := "footSame", fn := fun _ => fun
  | [d] => { results := [.lit (.bool true)], args := [d] }
  | _ => none }
def footSameRow : OpenClaim := { program := "ytgcehfooibpccaa", sum := "a4bd4538c33c7379c7c60bb0f07b97212f1e219fdbc300848726167a15156280", func := "weirgate/weirgatelaw18.FootSame", spec := "footSame", unfollowed := true, recurses := true, apart := false }
def FootSameSaid : Prop := footSameRow.holds Try.pinned (OpenSpec.ofChange footSameSpec)

/-- ITS FALSE NEIGHBOUR: 'it returns false'. Refute it at one input. -/
def footSameWrong : ChangeSpec := { name := "footSame", fn := fun _ => fun
  | [d] => { results := [.lit (.bool false)], args := [d] }
  | _ => none }
def FootSameWrongFalsely : Prop := footSameRow.holds Try.pinned (OpenSpec.ofChange footSameWrong)

/- THE SECOND FORM. 'bulk': how many values and letters a reading holds, each counted each time it is reached (what is shared counts as often as it is met; a slice's spare places count too). A statement '..UptoSaid' is the law's where the arguments, and the package variables that the reading takes, are together of bulk at most 1048576: NARROWER than '..Said'. Prove '..Said' where nothing that the law and all that it calls make is longer than what came in: it says more and counts as full. Else prove '..UptoSaid'. A law counts once. -/
mutual
def uptoBulk {H : Type} : DataW H → Nat
  | .lit (.string bytes) => bytes.length + 1
  | .lit _ => 1
  | .nil => 1
  | .ptr d => uptoBulk d + 1
  | .slice elems spare => uptoBulkAll elems + uptoBulkAll spare + 1
  | .agg parts => uptoBulkAll parts + 1
  | .iface _ d => uptoBulk d + 1
  | .map entries => uptoBulkEntries entries + 1
  | .held _ => 1
def uptoBulkAll {H : Type} : List (DataW H) → Nat
  | [] => 0
  | d :: r => uptoBulk d + uptoBulkAll r
def uptoBulkEntries {H : Type} : List (Lit × DataW H) → Nat
  | [] => 0
  | x :: r => uptoBulkEntry x + uptoBulkEntries r
def uptoBulkEntry {H : Type} : Lit × DataW H → Nat
  | (.string bytes, d) => bytes.length + uptoBulk d + 1
  | (_, d) => uptoBulk d + 1
 end
def uptoSmall : (H : Type) → List (DataW H) → Bool := fun _ ds => decide (uptoBulkAll ds ≤ 1048576)
def OpenSpec.upto (s : _root_.Go.ChangeSpec) : _root_.Go.OpenSpec := { _root_.Go.OpenSpec.ofChange s with cond := some uptoSmall }

/-- 'weirgatelaw18.FootOwn', WHERE WHAT IT READS IS OF BULK AT MOST 1048576: true; the input reads as it did. -/
def footOwnUptoRow : OpenClaim := { program := "ytgcehfooibpccaa", sum := "a4bd4538c33c7379c7c60bb0f07b97212f1e219fdbc300848726167a15156280", func := "weirgate/weirgatelaw18.FootOwn", spec := "footOwn", unfollowed := true, recurses := true, apart := false, narrowed := true }
def FootOwnUptoSaid : Prop := footOwnUptoRow.holds Try.pinned (OpenSpec.upto footOwnSpec)

/-- 'weirgatelaw18.FootApart', WHERE WHAT IT READS IS OF BULK AT MOST 1048576: true; the input reads as it did. -/
def footApartUptoRow : OpenClaim := { program := "ytgcehfooibpccaa", sum := "a4bd4538c33c7379c7c60bb0f07b97212f1e219fdbc300848726167a15156280", func := "weirgate/weirgatelaw18.FootApart", spec := "footApart", unfollowed := true, recurses := true, apart := false, narrowed := true }
def FootApartUptoSaid : Prop := footApartUptoRow.holds Try.pinned (OpenSpec.upto footApartSpec)

/-- 'weirgatelaw18.FootTurns', WHERE WHAT IT READS IS OF BULK AT MOST 1048576: true; the input reads as it did. -/
def footTurnsUptoRow : OpenClaim := { program := "ytgcehfooibpccaa", sum := "a4bd4538c33c7379c7c60bb0f07b97212f1e219fdbc300848726167a15156280", func := "weirgate/weirgatelaw18.FootTurns", spec := "footTurns", unfollowed := true, recurses := true, apart := false, narrowed := true }
def FootTurnsUptoSaid : Prop := footTurnsUptoRow.holds Try.pinned (OpenSpec.upto footTurnsSpec)

/-- 'weirgatelaw18.FootSame', WHERE WHAT IT READS IS OF BULK AT MOST 1048576: true; the input reads as it did. -/
def footSameUptoRow : OpenClaim := { program := "ytgcehfooibpccaa", sum := "a4bd4538c33c7379c7c60bb0f07b97212f1e219fdbc300848726167a15156280", func := "weirgate/weirgatelaw18.FootSame", spec := "footSame", unfollowed := true, recurses := true, apart := false, narrowed := true }
def FootSameUptoSaid : Prop := footSameUptoRow.holds Try.pinned (OpenSpec.upto footSameSpec)

end Rows
end Go.Proofs.Ytgcehfooibpccaa
