/- A part of the proof: HeapSlR. No condition. -/
import Derived.Test.YtmmipfmdkoaekaaHeapR
import Derived.Test.YtmmipfmdkoaekaaHeapSl
set_option linter.all false
set_option maxRecDepth 100000
namespace Go.Proofs.Ytmmipfmdkoaekaa.Code
open Go.Mini Go.HeapMath Go.HeapRun
set_option linter.all false
theorem listSl {x : V} (h : hasV Try.prog 4 22 x) : ∃ n g, Sl x n g := by
  rcases listOf h with rfl | ⟨By, rfl, hby⟩
  · exact ⟨_, _, sl_nil⟩
  · exact ⟨_, _, sl_rs hby⟩
end Go.Proofs.Ytmmipfmdkoaekaa.Code
