/- A part of the proof: Run4. No condition. -/
import Derived.Test.YtblcophaibakmaaDoorCase4
import Derived.Test.YtblcophaibakmaaDoorMiniLaw
set_option linter.all false
set_option maxRecDepth 100000
set_option linter.all false
set_option maxRecDepth 100000
namespace Go.Proofs.YtblcophaibakmaaDoor.Code
open Go.Mini
theorem u8OfB4 {x : V} (h : hasV Tryd.prog 3 5 x) : ∃ n : Nat, x = .int .u8 n ∧ n < 256 := by
  rw [hasV_int Tryd.underlying5, hasT_int Tryd.underlying5] at h
  obtain ⟨z, h1, h2, h3⟩ := h
  have h2 : (0 : Int) ≤ z := h2
  have h3 : z ≤ 255 := h3
  obtain ⟨n, rfl, hn⟩ := u8_nat h2 h3
  cases h1
  exact ⟨n, rfl, hn⟩
theorem runB4 (x0 x1 : V) (h0 : hasV Tryd.prog 3 5 x0) (h1 : hasV Tryd.prog 3 5 x1) : PureOk Tryd.prog gS 4 [x0, x1] (.bool true) := by
  obtain ⟨n, rfl, hn⟩ := u8OfB4 h0
  obtain ⟨m, rfl, hm⟩ := u8OfB4 h1
  rcases (by omega : n % 3 = 0 ∨ n % 3 = 1 ∨ n % 3 = 2) with h | h | h
  · rcases (by omega : m % 3 = 0 ∨ m % 3 = 1 ∨ m % 3 = 2) with k | k | k
    · exact rB40 n hn h m hm k
    · exact rB41 n hn h m hm k
    · exact rB42 n hn h m hm k
  · rcases (by omega : m % 3 = 0 ∨ m % 3 = 1 ∨ m % 3 = 2) with k | k | k
    · exact rB43 n hn h m hm k
    · exact rB44 n hn h m hm k
    · exact rB45 n hn h m hm k
  · rcases (by omega : m % 3 = 0 ∨ m % 3 = 1 ∨ m % 3 = 2) with k | k | k
    · exact rB46 n hn h m hm k
    · exact rB47 n hn h m hm k
    · exact rB48 n hn h m hm k
end Go.Proofs.YtblcophaibakmaaDoor.Code
