/- A part of the proof: Run5. No condition. -/
import Derived.Test.YtblcophaibakmaaDoorCase5
import Derived.Test.YtblcophaibakmaaDoorMiniLaw
set_option linter.all false
set_option maxRecDepth 100000
set_option linter.all false
set_option maxRecDepth 100000
namespace Go.Proofs.YtblcophaibakmaaDoor.Code
open Go.Mini
theorem u8OfB5 {x : V} (h : hasV Tryd.prog 3 5 x) : ∃ n : Nat, x = .int .u8 n ∧ n < 256 := by
  rw [hasV_int Tryd.underlying5, hasT_int Tryd.underlying5] at h
  obtain ⟨z, h1, h2, h3⟩ := h
  have h2 : (0 : Int) ≤ z := h2
  have h3 : z ≤ 255 := h3
  obtain ⟨n, rfl, hn⟩ := u8_nat h2 h3
  cases h1
  exact ⟨n, rfl, hn⟩
theorem boolOfB5 {x : V} (h : hasV Tryd.prog 3 4 x) : ∃ b, x = .bool b := by
  unfold hasV at h
  rw [show Tryd.prog.underlying 4 = some TypeDesc.bool from Tryd.underlying4] at h
  have h : hasT Tryd.prog 3 4 [x] := h
  rw [hasT_bool Tryd.underlying4] at h
  obtain ⟨b, h⟩ := h
  cases h
  exact ⟨b, rfl⟩
theorem runB5 (x0 x1 : V) (h0 : hasV Tryd.prog 3 5 x0) (h1 : hasV Tryd.prog 3 4 x1) : PureOk Tryd.prog gS 5 [x0, x1] (.bool true) := by
  obtain ⟨n, rfl, hn⟩ := u8OfB5 h0
  obtain ⟨b, rfl⟩ := boolOfB5 h1
  rcases (by omega : n % 4 = 0 ∨ n % 4 = 1 ∨ n % 4 = 2 ∨ n % 4 = 3) with h | h | h | h
  · cases b
    · exact rB51 n hn h
    · exact rB50 n hn h
  · cases b
    · exact rB53 n hn h
    · exact rB52 n hn h
  · cases b
    · exact rB55 n hn h
    · exact rB54 n hn h
  · cases b
    · exact rB57 n hn h
    · exact rB56 n hn h
end Go.Proofs.YtblcophaibakmaaDoor.Code
