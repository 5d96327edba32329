/- A part of the proof: LexMath. No condition. -/
import Derived.Test.YtbalajldicbbbaaDoorMiniA
set_option linter.all false
set_option maxRecDepth 100000
namespace Go.LexMath
open Go.Mini
def at8 (s : List UInt8) (i : Nat) : Nat := (s.getD i 0).toNat
theorem at8_lt (s : List UInt8) (i : Nat) : at8 s i < 256 := (s.getD i 0).toNat_lt
def lineN (s : List UInt8) : Nat → Nat
  | 0 => 1
  | i + 1 => if at8 s i = 10 then lineN s i + 1 else lineN s i
def colN (s : List UInt8) : Nat → Nat
  | 0 => 1
  | i + 1 => if at8 s i = 10 then 1 else colN s i + 1
def lastN (c : Nat) (s : List UInt8) : Nat → Int
  | 0 => -1
  | d + 1 => if at8 s d = c then (d : Int) else lastN c s d
theorem lineN_bound (s : List UInt8) : ∀ i, 1 ≤ lineN s i ∧ lineN s i ≤ i + 1
  | 0 => by simp [lineN]
  | i + 1 => by
    have := lineN_bound s i
    unfold lineN; split <;> omega
theorem colN_bound (s : List UInt8) : ∀ i, 1 ≤ colN s i ∧ colN s i ≤ i + 1
  | 0 => by simp [colN]
  | i + 1 => by
    have := colN_bound s i
    unfold colN; split <;> omega
theorem lineN_mono (s : List UInt8) {i : Nat} : ∀ d, lineN s i ≤ lineN s (i + d)
  | 0 => Nat.le_refl _
  | d + 1 => by
    have := lineN_mono s (i := i) d
    rw [← Nat.add_assoc, lineN]; split <;> omega
theorem colN_same (s : List UInt8) {i : Nat} : ∀ d, lineN s (i + d) = lineN s i → colN s (i + d) = colN s i + d
  | 0, _ => rfl
  | d + 1, h => by
    have h1 := lineN_mono s (i := i) d
    rw [← Nat.add_assoc, lineN] at h
    rw [← Nat.add_assoc, colN]
    split at h
    · omega
    · rename_i hn; rw [if_neg hn, colN_same s d h]; omega
theorem at8_take (s : List UInt8) {i k : Nat} (h : i < k) : at8 (s.take k) i = at8 s i := by
  unfold at8
  rw [List.getD_eq_getElem?_getD, List.getD_eq_getElem?_getD, List.getElem?_take_of_lt h]
theorem lastN_col (s : List UInt8) (k : Nat) : ∀ i, i ≤ k → (i : Int) - lastN 10 (s.take k) i = (colN s i : Int)
  | 0, _ => by simp [lastN, colN]
  | i + 1, h => by
    have ih := lastN_col s k i (by omega)
    rw [lastN, colN, at8_take s (by omega)]
    split
    · omega
    · omega
theorem cntOf_add (n : Nat) : ∀ (l : List UInt8) (k : Nat), cntOf n l k = k + cntOf n l 0
  | [], k => by simp [cntOf]
  | b :: l, k => by
    rw [cntOf, cntOf, cntOf_add n l (bif _ then _ else _), cntOf_add n l (bif _ then 0 + 1 else 0)]
    cases Nat.beq b.toNat n <;> simp <;> omega
theorem cntOf_snoc (n : Nat) (b : UInt8) : ∀ (l : List UInt8) (k : Nat), cntOf n (l ++ [b]) k = cntOf n l k + (if b.toNat = n then 1 else 0)
  | [], k => by
    simp only [List.nil_append, cntOf]
    by_cases h : b.toNat = n
    · have : Nat.beq b.toNat n = true := by rw [Nat.beq_eq]; exact h
      rw [if_pos h, this]; rfl
    · have : Nat.beq b.toNat n = false := by
        cases hq : Nat.beq b.toNat n
        · rfl
        · exact absurd (Nat.eq_of_beq_eq_true hq) h
      rw [if_neg h, this]; rfl
  | c :: l, k => by
    rw [List.cons_append, cntOf, cntOf_snoc n b l]; rfl
theorem cnt_line (s : List UInt8) : ∀ i, i ≤ s.length → 1 + cntOf 10 (s.take i) 0 = lineN s i
  | 0, _ => by simp [cntOf, lineN]
  | i + 1, h => by
    have ih := cnt_line s i (by omega)
    have hi : i < s.length := by omega
    have e : s.take (i + 1) = s.take i ++ [s[i]] := by rw [List.take_succ_eq_append_getElem hi]
    have e2 : at8 s i = s[i].toNat := by unfold at8; rw [List.getD_eq_getElem?_getD, List.getElem?_eq_getElem hi]; rfl
    rw [e, cntOf_snoc, lineN, e2]
    split <;> omega
/-- where a place is held to a text -/
def clampN (at_ : Int) (n : Nat) : Nat := min (max at_ 0) n |>.toNat
end Go.LexMath
