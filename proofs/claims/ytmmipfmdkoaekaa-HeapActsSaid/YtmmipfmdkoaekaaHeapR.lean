/- A part of the proof: HeapR. No condition. -/
import Derived.Test.YtmmipfmdkoaekaaHeapAbs
import Derived.Test.YtmmipfmdkoaekaaKnownH
import Derived.Test.YtmmipfmdkoaekaaMiniC
set_option linter.all false
set_option maxRecDepth 100000
namespace Go.Proofs.Ytmmipfmdkoaekaa.Code
open Go.Mini Go.HeapMath Go.HeapRun
set_option linter.all false
set_option maxRecDepth 100000
theorem heap_pure {f : FuncId} {args : List V} (h : Pures EH f args (.bool true)) (ha : ∀ x ∈ args, VB 0 x) : PureOk Try.prog (fun _ => none) f args (.bool true) := by
  obtain ⟨n, hn⟩ := h
  exact run_ok tab_ok mix modeH (l := [(8, [], .bool true)]) (.cons k0 .nil) ha hn
theorem ints_of {els : List (List V)} (h : ∀ el ∈ els, ∃ n, el = [V.int .i64 n] ∧ -9223372036854775808 ≤ n ∧ n ≤ 9223372036854775807) : ∃ By, els = ints By ∧ ∀ x, -9223372036854775808 ≤ gI By x ∧ gI By x ≤ 9223372036854775807 := by
  induction els with
  | nil => exact ⟨[], rfl, fun x => by unfold gI; simp⟩
  | cons el els ih =>
    obtain ⟨By, h1, h2⟩ := ih fun el hel => h el (by simp [hel])
    obtain ⟨n, h3, h4⟩ := h el (by simp)
    refine ⟨n :: By, by rw [h1, h3]; rfl, fun x => ?_⟩
    cases x with
    | zero => exact h4
    | succ x => exact h2 x
theorem listOf {x : V} (h : hasV Try.prog 4 22 x) : x = .nils ∨ ∃ By, x = .rs 1 (ints By) ∧ ∀ x, -9223372036854775808 ≤ gI By x ∧ gI By x ≤ 9223372036854775807 := by
  rw [hasV_slice Try.underlying22, hasT_slice Try.underlying22] at h
  rcases h with h | ⟨els, h, _, h2⟩
  · left; cases h; rfl
  · right
    cases h
    obtain ⟨By, h3, h4⟩ := ints_of (els := els) (fun el hel => by
      have := h2 el hel
      rw [hasT_int Try.underlying2] at this
      obtain ⟨n, e1, e2, e3⟩ := this
      exact ⟨n, e1, e2, e3⟩)
    refine ⟨By, ?_, h4⟩
    rw [h3, show Try.prog.cellsOf 2 = 1 by kernel_rfl]
theorem u8Of {x : V} (h : hasV Try.prog 4 5 x) : ∃ n : Nat, x = .int .u8 (n : Int) ∧ n < 256 := by
  rw [hasV_int Try.underlying5, hasT_int Try.underlying5] at h
  obtain ⟨z, h1, h2, h3⟩ := h
  have h2 : (0 : Int) ≤ z := h2
  have h3 : z ≤ 255 := h3
  cases h1
  exact ⟨z.toNat, by rw [Int.toNat_of_nonneg h2], by omega⟩
theorem vb2 {x y : V} (hx : VB 0 x) (hy : VB 0 y) : ∀ z ∈ [x, y], VB 0 z := by
  intro z hz
  simp only [List.mem_cons, List.not_mem_nil, or_false] at hz
  rcases hz with rfl | rfl
  · exact hx
  · exact hy
theorem vb1 {x : V} (hx : VB 0 x) : ∀ z ∈ [x], VB 0 z := by
  intro z hz
  simp only [List.mem_cons, List.not_mem_nil, or_false] at hz
  subst hz; exact hx
end Go.Proofs.Ytmmipfmdkoaekaa.Code
