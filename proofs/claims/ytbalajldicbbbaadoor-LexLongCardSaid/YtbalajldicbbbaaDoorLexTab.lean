/- A part of the proof: LexTab. No condition. -/
import Derived.Test.YtbalajldicbbbaaDoorLexSym
set_option linter.all false
set_option maxRecDepth 100000
namespace Go.Proofs.YtbalajldicbbbaaDoor.Code
open Go.Mini Go.LexMath
set_option linter.all false
set_option maxRecDepth 1000000
set_option maxHeartbeats 0
def upTo (f : Nat → Bool) : Nat → Bool
  | 0 => true
  | n + 1 => f n && upTo f n
theorem upTo_ok {f : Nat → Bool} : ∀ {n : Nat}, upTo f n = true → ∀ i, i < n → f i = true
  | 0, _, i, hi => by omega
  | n + 1, h, i, hi => by
    simp only [upTo, Bool.and_eq_true] at h
    rcases Nat.lt_or_ge i n with h1 | h1
    · exact upTo_ok h.2 i h1
    · have : i = n := by omega
      subst this; exact h.1
def btw (a n b : Nat) : Bool := Nat.ble a n && Nat.ble n b
def letterB (n : Nat) : Bool := btw 65 n 90 || btw 97 n 122
def digitB (n : Nat) : Bool := btw 48 n 57
def wordB (n : Nat) : Bool := letterB n || digitB n || Nat.beq n 95
def blankB (n : Nat) : Bool := Nat.beq n 32 || Nat.beq n 9 || Nat.beq n 13 || Nat.beq n 10
def signB (n : Nat) : Bool := [123, 125, 91, 93, 40, 41, 59, 61, 60, 43, 45, 42, 47, 37, 33].any (Nat.beq n)
def cls (n : Nat) : Nat := bif blankB n then 1 else bif letterB n then 2 else bif digitB n then 3 else bif Nat.beq n 95 then 4 else bif signB n then 5 else 0
def clW : V := .rs 1 [[.int .i64 2], [.int .i64 3], [.int .i64 4]]
def clB : V := .rs 1 [[.int .i64 1]]
noncomputable def gives (f : FuncId) (args : List V) (v : V) : Bool := match pureBodyF EL (callF EL 30) 30 f args with
  | some x => beqV 5 x v
  | none => false
theorem gives_ok {f : FuncId} {args : List V} {v : V} (h : gives f args v = true) : Pures EL f args v := by
  unfold gives at h
  split at h
  · rename_i x hx
    rw [beqV_ok h] at hx
    exact ⟨30, pureBodyF_ok (callF_ok 30) hx⟩
  · cases h
theorem cls_tab : upTo (fun n => gives 16 [.int .u8 (Int.ofNat n)] (.int .i64 (Int.ofNat (cls n)))) 256 = true := by kernel_rfl
theorem letter_tab : upTo (fun n => gives 22 [.int .u8 (Int.ofNat n)] (.bool (letterB n))) 256 = true := by kernel_rfl
theorem word_tab : upTo (fun n => gives 23 [.int .u8 (Int.ofNat n)] (.bool (wordB n))) 256 = true := by kernel_rfl
theorem isW_tab : upTo (fun c => gives 26 [clW, .int .i64 (Int.ofNat c)] (.bool (btw 2 c 4))) 6 = true := by kernel_rfl
theorem isB_tab : upTo (fun c => gives 26 [clB, .int .i64 (Int.ofNat c)] (.bool (Nat.beq c 1))) 6 = true := by kernel_rfl
theorem plain_tab : upTo (fun n => Nat.blt (cls n) 6 && (btw 2 (cls n) 4 == wordB n) && (Nat.beq (cls n) 1 == blankB n) && (Nat.beq (cls n) 2 == letterB n)) 256 = true := by kernel_rfl
theorem plain_at {n : Nat} (h : n < 256) : cls n < 6 ∧ btw 2 (cls n) 4 = wordB n ∧ Nat.beq (cls n) 1 = blankB n ∧ Nat.beq (cls n) 2 = letterB n := by
  have := upTo_ok plain_tab n h
  simp only [Bool.and_eq_true, beq_iff_eq] at this
  obtain ⟨⟨⟨a, b⟩, c⟩, d⟩ := this
  exact ⟨by rw [Nat.blt_eq] at a; exact a, b, c, d⟩
theorem cls_ok {n : Nat} (h : n < 256) : Pures EL 16 [.int .u8 (n : Nat)] (.int .i64 (cls n : Nat)) := gives_ok (upTo_ok cls_tab n h)
theorem letter_ok {n : Nat} (h : n < 256) : Pures EL 22 [.int .u8 (n : Nat)] (.bool (letterB n)) := gives_ok (upTo_ok letter_tab n h)
theorem word_ok {n : Nat} (h : n < 256) : Pures EL 23 [.int .u8 (n : Nat)] (.bool (wordB n)) := gives_ok (upTo_ok word_tab n h)
theorem isW_ok {n : Nat} (h : n < 256) : Pures EL 26 [clW, .int .i64 (cls n : Nat)] (.bool (wordB n)) := by
  obtain ⟨a, b, _⟩ := plain_at h
  rw [← b]
  exact gives_ok (upTo_ok isW_tab _ a)
theorem isB_ok {n : Nat} (h : n < 256) : Pures EL 26 [clB, .int .i64 (cls n : Nat)] (.bool (blankB n)) := by
  obtain ⟨a, _, b, _⟩ := plain_at h
  rw [← b]
  exact gives_ok (upTo_ok isB_tab _ a)
end Go.Proofs.YtbalajldicbbbaaDoor.Code
