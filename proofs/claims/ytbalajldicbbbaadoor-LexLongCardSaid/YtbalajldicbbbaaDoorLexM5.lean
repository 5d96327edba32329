/- A part of the proof: LexM5. No condition. -/
import Derived.Test.YtbalajldicbbbaaDoorLexPl2
set_option linter.all false
set_option maxRecDepth 100000
set_option linter.all false
namespace Go.Proofs.YtbalajldicbbbaaDoor.Code
open Go.Mini
theorem strOfL {x : V} (h : hasV Tryd.prog 3 9 x) : ∃ s, x = .str s := by
  unfold hasV at h
  rw [show Tryd.prog.underlying 9 = some TypeDesc.string from Tryd.underlying9] at h
  have h : hasT Tryd.prog 3 9 [x] := h
  rw [hasT_str Tryd.underlying9] at h
  obtain ⟨s, h⟩ := h
  cases h
  exact ⟨s, rfl⟩
theorem intOfL {x : V} (h : hasV Tryd.prog 3 3 x) : ∃ n, x = .int .i64 n ∧ -9223372036854775808 ≤ n ∧ n ≤ 9223372036854775807 := by
  rw [hasV_int Tryd.underlying3, hasT_int Tryd.underlying3] at h
  obtain ⟨z, h1, h2, h3⟩ := h
  cases h1
  exact ⟨z, rfl, h2, h3⟩
theorem vb2 {s : List UInt8} {a : Int} : ∀ x ∈ [V.str s, V.int .i64 a], VB 0 x := by
  intro x hx
  simp only [List.mem_cons, List.not_mem_nil, or_false] at hx
  rcases hx with rfl | rfl <;> constructor
theorem lexPlaces_run (x0 x1 : V) (h0 : hasV Tryd.prog 3 9 x0) (h1 : hasV Tryd.prog 3 3 x1) : PureOk Tryd.prog gS 5 [x0, x1] (.bool true) := by
  obtain ⟨s, rfl⟩ := strOfL h0
  obtain ⟨n, rfl, hn, hm⟩ := intOfL h1
  exact pureL vb2 (places_law hn hm)
end Go.Proofs.YtbalajldicbbbaaDoor.Code
