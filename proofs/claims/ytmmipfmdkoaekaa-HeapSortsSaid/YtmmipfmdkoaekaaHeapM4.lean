/- A part of the proof: HeapM4. No condition. -/
import Derived.Test.YtmmipfmdkoaekaaHeapSlR
import Derived.Test.YtmmipfmdkoaekaaHeapL4
set_option linter.all false
set_option maxRecDepth 100000
namespace Go.Proofs.Ytmmipfmdkoaekaa.Code
open Go.Mini Go.HeapMath Go.HeapRun
set_option linter.all false
theorem heapSorts_run (x0 : V) (h0 : hasV Try.prog 4 22 x0) : PureOk Try.prog (fun _ => none) 4 [x0] (.bool true) := by
  have g := vb1 (hasV_vb h0)
  obtain ⟨n, k, hs⟩ := listSl h0
  exact heap_pure (sort_law hs) g
end Go.Proofs.Ytmmipfmdkoaekaa.Code
