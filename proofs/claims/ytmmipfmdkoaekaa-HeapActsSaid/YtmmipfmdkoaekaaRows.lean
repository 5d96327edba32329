/-
  No cell of these rows narrows 'for every input' (looked for: loops, veiled, ifaces, maps, wideKeys, modest, calm, conditions, laid).
  DERIVED. THE GIVEN ROWS OF THIS SEAT. 5 by the template 'for every input the law returns true; each argument reads behind the call as it read before'; 0 by the template 'total and deterministic' (their statements: YtmmipfmdkoaekaaTotals.lean).
  GIVEN WITH THE SEED: the statements are not yours to turn. If you find one false, say at which input.
  Laid BY PROGRAM, IN A SANDBOX (cutbox-rows.mjs): the forced cells as the released guide's own fill.sh prints them over the translation 0e9316bf8bd1fdcb… (all of the seat's roots in one cut). By AI agents, Wed Nov 11 2026. No macro, syntax, notation, axiom, sorry.
-/
import Derived.Test.YtmmipfmdkoaekaaChecked
import GoSem.Claim
import GoSem.ClaimJoined
import GoSem.ClaimMapViews
import Derived.JoinedTies
import Derived.KernelRfl
namespace Go.Proofs.Ytmmipfmdkoaekaa
/- THE CELL 'sum', in the pinned program and in every row, IS THE sha256 OF THE DUMP (.gsa) THAT YtmmipfmdkoaekaaProg.lean LOADS. Nothing in Lean hashes anything: it is a label: what it is worth is what the hold of that sum in a sandbox is worth. -/
noncomputable def Try.pinned : Pinned := { name := "ytmmipfmdkoaekaa", sum := "0e9316bf8bd1fdcb1e1e353d90d4803cad7723f841b74d484e2d053ed2ec68ae", checked := Try.checked }
namespace Rows
def none {H : Type} : Left H := { results := [], args := [] }

/-- 'weirgatelaw02.HeapMost': WHATEVER THE INPUT: true; the input reads as it did. -/
def heapMostSpec : ChangeSpec := { name := "heapMost", fn := fun _ => fun
  | [d1, d2] => { results := [.lit (.bool true)], args := [d1, d2] }
  | _ => none }
def heapMostRow : OpenClaim := { program := "ytmmipfmdkoaekaa", sum := "0e9316bf8bd1fdcb1e1e353d90d4803cad7723f841b74d484e2d053ed2ec68ae", func := "weirgate/weirgatelaw02.HeapMost", spec := "heapMost", apart := false }
def HeapMostSaid : Prop := heapMostRow.holds Try.pinned (OpenSpec.ofChange heapMostSpec)

/-- ITS FALSE NEIGHBOUR: 'it returns false'. Refute it at one input. -/
def heapMostWrong : ChangeSpec := { name := "heapMost", fn := fun _ => fun
  | [d1, d2] => { results := [.lit (.bool false)], args := [d1, d2] }
  | _ => none }
def HeapMostWrongFalsely : Prop := heapMostRow.holds Try.pinned (OpenSpec.ofChange heapMostWrong)

/-- 'weirgatelaw02.HeapSorts': WHATEVER THE INPUT: true; the input reads as it did. -/
def heapSortsSpec : ChangeSpec := { name := "heapSorts", fn := fun _ => fun
  | [d] => { results := [.lit (.bool true)], args := [d] }
  | _ => none }
def heapSortsRow : OpenClaim := { program := "ytmmipfmdkoaekaa", sum := "0e9316bf8bd1fdcb1e1e353d90d4803cad7723f841b74d484e2d053ed2ec68ae", func := "weirgate/weirgatelaw02.HeapSorts", spec := "heapSorts", apart := false }
def HeapSortsSaid : Prop := heapSortsRow.holds Try.pinned (OpenSpec.ofChange heapSortsSpec)

/-- ITS FALSE NEIGHBOUR: 'it returns false'. Refute it at one input. -/
def heapSortsWrong : ChangeSpec := { name := "heapSorts", fn := fun _ => fun
  | [d] => { results := [.lit (.bool false)], args := [d] }
  | _ => none }
def HeapSortsWrongFalsely : Prop := heapSortsRow.holds Try.pinned (OpenSpec.ofChange heapSortsWrong)

/-- 'weirgatelaw02.HeapBack': WHATEVER THE INPUT: true; the input reads as it did. -/
def heapBackSpec : ChangeSpec := { name := "heapBack", fn := fun _ => fun
  | [d1, d2] => { results := [.lit (.bool true)], args := [d1, d2] }
  | _ => none }
def heapBackRow : OpenClaim := { program := "ytmmipfmdkoaekaa", sum := "0e9316bf8bd1fdcb1e1e353d90d4803cad7723f841b74d484e2d053ed2ec68ae", func := "weirgate/weirgatelaw02.HeapBack", spec := "heapBack", apart := false }
def HeapBackSaid : Prop := heapBackRow.holds Try.pinned (OpenSpec.ofChange heapBackSpec)

/-- ITS FALSE NEIGHBOUR: 'it returns false'. Refute it at one input. -/
def heapBackWrong : ChangeSpec := { name := "heapBack", fn := fun _ => fun
  | [d1, d2] => { results := [.lit (.bool false)], args := [d1, d2] }
  | _ => none }
def HeapBackWrongFalsely : Prop := heapBackRow.holds Try.pinned (OpenSpec.ofChange heapBackWrong)

/-- 'weirgatelaw02.HeapHalves': WHATEVER THE INPUT: true; the input reads as it did. -/
def heapHalvesSpec : ChangeSpec := { name := "heapHalves", fn := fun _ => fun
  | [d1, d2] => { results := [.lit (.bool true)], args := [d1, d2] }
  | _ => none }
def heapHalvesRow : OpenClaim := { program := "ytmmipfmdkoaekaa", sum := "0e9316bf8bd1fdcb1e1e353d90d4803cad7723f841b74d484e2d053ed2ec68ae", func := "weirgate/weirgatelaw02.HeapHalves", spec := "heapHalves", apart := false }
def HeapHalvesSaid : Prop := heapHalvesRow.holds Try.pinned (OpenSpec.ofChange heapHalvesSpec)

/-- ITS FALSE NEIGHBOUR: 'it returns false'. Refute it at one input. -/
def heapHalvesWrong : ChangeSpec := { name := "heapHalves", fn := fun _ => fun
  | [d1, d2] => { results := [.lit (.bool false)], args := [d1, d2] }
  | _ => none }
def HeapHalvesWrongFalsely : Prop := heapHalvesRow.holds Try.pinned (OpenSpec.ofChange heapHalvesWrong)

/-- 'weirgatelaw02.HeapActs': WHATEVER THE INPUT: true; the input reads as it did. -/
def heapActsSpec : ChangeSpec := { name := "heapActs", fn := fun _ => fun
  | [d1, d2] => { results := [.lit (.bool true)], args := [d1, d2] }
  | _ => none }
def heapActsRow : OpenClaim := { program := "ytmmipfmdkoaekaa", sum := "0e9316bf8bd1fdcb1e1e353d90d4803cad7723f841b74d484e2d053ed2ec68ae", func := "weirgate/weirgatelaw02.HeapActs", spec := "heapActs", apart := false }
def HeapActsSaid : Prop := heapActsRow.holds Try.pinned (OpenSpec.ofChange heapActsSpec)

/-- ITS FALSE NEIGHBOUR: 'it returns false'. Refute it at one input. -/
def heapActsWrong : ChangeSpec := { name := "heapActs", fn := fun _ => fun
  | [d1, d2] => { results := [.lit (.bool false)], args := [d1, d2] }
  | _ => none }
def HeapActsWrongFalsely : Prop := heapActsRow.holds Try.pinned (OpenSpec.ofChange heapActsWrong)

/- THE SECOND FORM. 'bulk': how many values and letters a reading holds, each counted each time it is reached (what is shared counts as often as it is met; a slice's spare places count too). A statement '..UptoSaid' is the law's where the arguments, and the package variables that the reading takes, are together of bulk at most 1048576: NARROWER than '..Said'. Prove '..Said' where nothing that the law and all that it calls make is longer than what came in: it says more and counts as full. Else prove '..UptoSaid'. A law counts once. -/
mutual
def uptoBulk {H : Type} : DataW H → Nat
  | .lit (.string bytes) => bytes.length + 1
  | .lit _ => 1
  | .nil => 1
  | .ptr d => uptoBulk d + 1
  | .slice elems spare => uptoBulkAll elems + uptoBulkAll spare + 1
  | .agg parts => uptoBulkAll parts + 1
  | .iface _ d => uptoBulk d + 1
  | .map entries => uptoBulkEntries entries + 1
  | .held _ => 1
def uptoBulkAll {H : Type} : List (DataW H) → Nat
  | [] => 0
  | d :: r => uptoBulk d + uptoBulkAll r
def uptoBulkEntries {H : Type} : List (Lit × DataW H) → Nat
  | [] => 0
  | x :: r => uptoBulkEntry x + uptoBulkEntries r
def uptoBulkEntry {H : Type} : Lit × DataW H → Nat
  | (.string bytes, d) => bytes.length + uptoBulk d + 1
  | (_, d) => uptoBulk d + 1
 end
def uptoSmall : (H : Type) → List (DataW H) → Bool := fun _ ds => decide (uptoBulkAll ds ≤ 1048576)
def OpenSpec.upto (s : _root_.Go.ChangeSpec) : _root_.Go.OpenSpec := { _root_.Go.OpenSpec.ofChange s with cond := some uptoSmall }

/-- 'weirgatelaw02.HeapMost', WHERE WHAT IT READS IS OF BULK AT MOST 1048576: true; the input reads as it did. -/
def heapMostUptoRow : OpenClaim := { program := "ytmmipfmdkoaekaa", sum := "0e9316bf8bd1fdcb1e1e353d90d4803cad7723f841b74d484e2d053ed2ec68ae", func := "weirgate/weirgatelaw02.HeapMost", spec := "heapMost", apart := false, narrowed := true }
def HeapMostUptoSaid : Prop := heapMostUptoRow.holds Try.pinned (OpenSpec.upto heapMostSpec)

/-- 'weirgatelaw02.HeapSorts', WHERE WHAT IT READS IS OF BULK AT MOST 1048576: true; the input reads as it did. -/
def heapSortsUptoRow : OpenClaim := { program := "ytmmipfmdkoaekaa", sum := "0e9316bf8bd1fdcb1e1e353d90d4803cad7723f841b74d484e2d053ed2ec68ae", func := "weirgate/weirgatelaw02.HeapSorts", spec := "heapSorts", apart := false, narrowed := true }
def HeapSortsUptoSaid : Prop := heapSortsUptoRow.holds Try.pinned (OpenSpec.upto heapSortsSpec)

/-- 'weirgatelaw02.HeapBack', WHERE WHAT IT READS IS OF BULK AT MOST 1048576: true; the input reads as it did. -/
def heapBackUptoRow : OpenClaim := { program := "ytmmipfmdkoaekaa", sum := "0e9316bf8bd1fdcb1e1e353d90d4803cad7723f841b74d484e2d053ed2ec68ae", func := "weirgate/weirgatelaw02.HeapBack", spec := "heapBack", apart := false, narrowed := true }
def HeapBackUptoSaid : Prop := heapBackUptoRow.holds Try.pinned (OpenSpec.upto heapBackSpec)

/-- 'weirgatelaw02.HeapHalves', WHERE WHAT IT READS IS OF BULK AT MOST 1048576: true; the input reads as it did. -/
def heapHalvesUptoRow : OpenClaim := { program := "ytmmipfmdkoaekaa", sum := "0e9316bf8bd1fdcb1e1e353d90d4803cad7723f841b74d484e2d053ed2ec68ae", func := "weirgate/weirgatelaw02.HeapHalves", spec := "heapHalves", apart := false, narrowed := true }
def HeapHalvesUptoSaid : Prop := heapHalvesUptoRow.holds Try.pinned (OpenSpec.upto heapHalvesSpec)

/-- 'weirgatelaw02.HeapActs', WHERE WHAT IT READS IS OF BULK AT MOST 1048576: true; the input reads as it did. -/
def heapActsUptoRow : OpenClaim := { program := "ytmmipfmdkoaekaa", sum := "0e9316bf8bd1fdcb1e1e353d90d4803cad7723f841b74d484e2d053ed2ec68ae", func := "weirgate/weirgatelaw02.HeapActs", spec := "heapActs", apart := false, narrowed := true }
def HeapActsUptoSaid : Prop := heapActsUptoRow.holds Try.pinned (OpenSpec.upto heapActsSpec)

end Rows
end Go.Proofs.Ytmmipfmdkoaekaa
