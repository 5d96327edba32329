/- A part of the proof: HeapM5. No condition. -/
import Derived.Test.YtmmipfmdkoaekaaHeapSlR
import Derived.Test.YtmmipfmdkoaekaaHeapL5
set_option linter.all false
set_option maxRecDepth 100000
namespace Go.Proofs.Ytmmipfmdkoaekaa.Code
open Go.Mini Go.HeapMath Go.HeapRun
set_option linter.all false
theorem heapBack_run (x0 x1 : V) (h0 : hasV Try.prog 4 22 x0) (h1 : hasV Try.prog 4 5 x1) : PureOk Try.prog (fun _ => none) 5 [x0, x1] (.bool true) := by
  have g := vb2 (hasV_vb h0) (hasV_vb h1)
  obtain ⟨a, rfl, ha⟩ := u8Of h1
  obtain ⟨n, k, hs⟩ := listSl h0
  exact heap_pure (back_law hs ha) g
end Go.Proofs.Ytmmipfmdkoaekaa.Code
