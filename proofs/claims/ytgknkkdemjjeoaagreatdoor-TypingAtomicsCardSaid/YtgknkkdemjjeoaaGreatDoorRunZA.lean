/- A part of the proof: RunZA. No condition. -/
import Derived.Test.YtgknkkdemjjeoaaGreatDoorCaseZA
import Derived.Test.YtgknkkdemjjeoaaGreatDoorMiniLaw
set_option linter.all false
set_option maxRecDepth 100000
set_option linter.all false
set_option maxRecDepth 100000
namespace Go.Proofs.YtgknkkdemjjeoaaGreatDoor.Code
open Go.Mini
theorem u8OfZ {x : V} (h : hasV Tryz.prog 3 5 x) : ∃ n : Nat, x = .int .u8 n ∧ n < 256 := by
  rw [hasV_int Tryz.underlying5, hasT_int Tryz.underlying5] at h
  obtain ⟨z, h1, h2, h3⟩ := h
  have h2 : (0 : Int) ≤ z := h2
  have h3 : z ≤ 255 := h3
  obtain ⟨n, rfl, hn⟩ := u8_nat h2 h3
  cases h1
  exact ⟨n, rfl, hn⟩
theorem boolOfZ {x : V} (h : hasV Tryz.prog 3 4 x) : ∃ b, x = .bool b := by
  unfold hasV at h
  rw [show Tryz.prog.underlying 4 = some TypeDesc.bool from Tryz.underlying4] at h
  have h : hasT Tryz.prog 3 4 [x] := h
  rw [hasT_bool Tryz.underlying4] at h
  obtain ⟨b, h⟩ := h
  cases h
  exact ⟨b, rfl⟩
theorem runZA (x0 x1 : V) (h0 : hasV Tryz.prog 3 5 x0) (h1 : hasV Tryz.prog 3 4 x1) : PureOk Tryz.prog gS 4 [x0, x1] (.bool true) := by
  obtain ⟨n, rfl, hn⟩ := u8OfZ h0
  obtain ⟨b, rfl⟩ := boolOfZ h1
  rcases (by omega : n % 5 = 0 ∨ n % 5 = 1 ∨ n % 5 = 2 ∨ n % 5 = 3 ∨ n % 5 = 4) with h | h | h | h | h
  · cases b
    · exact rZA0 n hn h
    · exact rZA1 n hn h
  · cases b
    · exact rZA2 n hn h
    · exact rZA3 n hn h
  · cases b
    · exact rZA4 n hn h
    · exact rZA5 n hn h
  · cases b
    · exact rZA6 n hn h
    · exact rZA7 n hn h
  · cases b
    · exact rZA8 n hn h
    · exact rZA9 n hn h
end Go.Proofs.YtgknkkdemjjeoaaGreatDoor.Code
