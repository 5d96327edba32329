/- A part of the proof: Run3. No condition. -/
import Derived.Test.YtblcophaibakmaaDoorCase3a
import Derived.Test.YtblcophaibakmaaDoorCase3b
import Derived.Test.YtblcophaibakmaaDoorCase3c
import Derived.Test.YtblcophaibakmaaDoorCase3d
import Derived.Test.YtblcophaibakmaaDoorMiniLaw
set_option linter.all false
set_option maxRecDepth 100000
set_option linter.all false
set_option maxRecDepth 100000
namespace Go.Proofs.YtblcophaibakmaaDoor.Code
open Go.Mini
theorem u8OfB3 {x : V} (h : hasV Tryd.prog 3 5 x) : ∃ n : Nat, x = .int .u8 n ∧ n < 256 := by
  rw [hasV_int Tryd.underlying5, hasT_int Tryd.underlying5] at h
  obtain ⟨z, h1, h2, h3⟩ := h
  have h2 : (0 : Int) ≤ z := h2
  have h3 : z ≤ 255 := h3
  obtain ⟨n, rfl, hn⟩ := u8_nat h2 h3
  cases h1
  exact ⟨n, rfl, hn⟩
theorem runB3 (x0 x1 : V) (h0 : hasV Tryd.prog 3 5 x0) (h1 : hasV Tryd.prog 3 5 x1) : PureOk Tryd.prog gS 3 [x0, x1] (.bool true) := by
  obtain ⟨n, rfl, hn⟩ := u8OfB3 h0
  obtain ⟨m, rfl, hm⟩ := u8OfB3 h1
  rcases (by omega : n % 6 = 0 ∨ n % 6 = 1 ∨ n % 6 = 2 ∨ n % 6 = 3 ∨ n % 6 = 4 ∨ n % 6 = 5) with h | h | h | h | h | h
  · rcases (by omega : m % 3 = 0 ∨ m % 3 = 1 ∨ m % 3 = 2) with k | k | k
    · exact rB3c0 n hn h m hm k
    · exact rB3c1 n hn h m hm k
    · exact rB3c2 n hn h m hm k
  · rcases (by omega : m % 3 = 0 ∨ m % 3 = 1 ∨ m % 3 = 2) with k | k | k
    · exact rB3d0 n hn h m hm k
    · exact rB3d1 n hn h m hm k
    · exact rB3d2 n hn h m hm k
  · rcases (by omega : m % 3 = 0 ∨ m % 3 = 1 ∨ m % 3 = 2) with k | k | k
    · exact rB3d3 n hn h m hm k
    · exact rB3d4 n hn h m hm k
    · exact rB3d5 n hn h m hm k
  · rcases (by omega : m % 3 = 0 ∨ m % 3 = 1 ∨ m % 3 = 2) with k | k | k
    · exact rB3c3 n hn h m hm k
    · exact rB3c4 n hn h m hm k
    · exact rB3c5 n hn h m hm k
  · rcases (by omega : m % 3 = 0 ∨ m % 3 = 1 ∨ m % 3 = 2) with k | k | k
    · exact rB3b0 n hn h m hm k
    · exact rB3b1 n hn h m hm k
    · exact rB3b2 n hn h m hm k
  · rcases (by omega : m % 3 = 0 ∨ m % 3 = 1 ∨ m % 3 = 2) with k | k | k
    · exact rB3a0 n hn h m hm k
    · exact rB3a1 n hn h m hm k
    · exact rB3a2 n hn h m hm k
end Go.Proofs.YtblcophaibakmaaDoor.Code
