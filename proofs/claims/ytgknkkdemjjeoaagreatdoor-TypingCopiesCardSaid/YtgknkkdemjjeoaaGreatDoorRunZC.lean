/- A part of the proof: RunZC. No condition. -/
import Derived.Test.YtgknkkdemjjeoaaGreatDoorCaseC0
import Derived.Test.YtgknkkdemjjeoaaGreatDoorCaseC1
import Derived.Test.YtgknkkdemjjeoaaGreatDoorCaseC2
import Derived.Test.YtgknkkdemjjeoaaGreatDoorCaseC3
import Derived.Test.YtgknkkdemjjeoaaGreatDoorCaseC4
import Derived.Test.YtgknkkdemjjeoaaGreatDoorCaseC5
import Derived.Test.YtgknkkdemjjeoaaGreatDoorMiniC
set_option linter.all false
set_option maxRecDepth 100000
set_option linter.all false
set_option maxRecDepth 100000
namespace Go.Proofs.YtgknkkdemjjeoaaGreatDoor.Code
open Go.Mini
theorem u8OfC {x : V} (h : hasV Tryz.prog 3 5 x) : ∃ n : Nat, x = .int .u8 n ∧ n < 256 := by
  rw [hasV_int Tryz.underlying5, hasT_int Tryz.underlying5] at h
  obtain ⟨z, h1, h2, h3⟩ := h
  have h2 : (0 : Int) ≤ z := h2
  have h3 : z ≤ 255 := h3
  obtain ⟨n, rfl, hn⟩ := u8_nat h2 h3
  cases h1
  exact ⟨n, rfl, hn⟩
theorem rowC00 : ∀ k, k < 6 → CsC 0 0 k := by
  intro k hk
  match k, hk with
  | 0, _ => exact rC0
  | 1, _ => exact rC1
  | 2, _ => exact rC2
  | 3, _ => exact rC3
  | 4, _ => exact rC4
  | 5, _ => exact rC5
theorem rowC01 : ∀ k, k < 6 → CsC 0 1 k := by
  intro k hk
  match k, hk with
  | 0, _ => exact rC6
  | 1, _ => exact rC7
  | 2, _ => exact rC8
  | 3, _ => exact rC9
  | 4, _ => exact rC10
  | 5, _ => exact rC11
theorem rowC02 : ∀ k, k < 6 → CsC 0 2 k := by
  intro k hk
  match k, hk with
  | 0, _ => exact rC12
  | 1, _ => exact rC13
  | 2, _ => exact rC14
  | 3, _ => exact rC15
  | 4, _ => exact rC16
  | 5, _ => exact rC17
theorem rowC03 : ∀ k, k < 6 → CsC 0 3 k := by
  intro k hk
  match k, hk with
  | 0, _ => exact rC18
  | 1, _ => exact rC19
  | 2, _ => exact rC20
  | 3, _ => exact rC21
  | 4, _ => exact rC22
  | 5, _ => exact rC23
theorem rowC10 : ∀ k, k < 6 → CsC 1 0 k := by
  intro k hk
  match k, hk with
  | 0, _ => exact rC24
  | 1, _ => exact rC25
  | 2, _ => exact rC26
  | 3, _ => exact rC27
  | 4, _ => exact rC28
  | 5, _ => exact rC29
theorem rowC11 : ∀ k, k < 6 → CsC 1 1 k := by
  intro k hk
  match k, hk with
  | 0, _ => exact rC30
  | 1, _ => exact rC31
  | 2, _ => exact rC32
  | 3, _ => exact rC33
  | 4, _ => exact rC34
  | 5, _ => exact rC35
theorem rowC12 : ∀ k, k < 6 → CsC 1 2 k := by
  intro k hk
  match k, hk with
  | 0, _ => exact rC36
  | 1, _ => exact rC37
  | 2, _ => exact rC38
  | 3, _ => exact rC39
  | 4, _ => exact rC40
  | 5, _ => exact rC41
theorem rowC13 : ∀ k, k < 6 → CsC 1 3 k := by
  intro k hk
  match k, hk with
  | 0, _ => exact rC42
  | 1, _ => exact rC43
  | 2, _ => exact rC44
  | 3, _ => exact rC45
  | 4, _ => exact rC46
  | 5, _ => exact rC47
theorem rowC20 : ∀ k, k < 6 → CsC 2 0 k := by
  intro k hk
  match k, hk with
  | 0, _ => exact rC48
  | 1, _ => exact rC49
  | 2, _ => exact rC50
  | 3, _ => exact rC51
  | 4, _ => exact rC52
  | 5, _ => exact rC53
theorem rowC21 : ∀ k, k < 6 → CsC 2 1 k := by
  intro k hk
  match k, hk with
  | 0, _ => exact rC54
  | 1, _ => exact rC55
  | 2, _ => exact rC56
  | 3, _ => exact rC57
  | 4, _ => exact rC58
  | 5, _ => exact rC59
theorem rowC22 : ∀ k, k < 6 → CsC 2 2 k := by
  intro k hk
  match k, hk with
  | 0, _ => exact rC60
  | 1, _ => exact rC61
  | 2, _ => exact rC62
  | 3, _ => exact rC63
  | 4, _ => exact rC64
  | 5, _ => exact rC65
theorem rowC23 : ∀ k, k < 6 → CsC 2 3 k := by
  intro k hk
  match k, hk with
  | 0, _ => exact rC66
  | 1, _ => exact rC67
  | 2, _ => exact rC68
  | 3, _ => exact rC69
  | 4, _ => exact rC70
  | 5, _ => exact rC71
theorem rowC30 : ∀ k, k < 6 → CsC 3 0 k := by
  intro k hk
  match k, hk with
  | 0, _ => exact rC72
  | 1, _ => exact rC73
  | 2, _ => exact rC74
  | 3, _ => exact rC75
  | 4, _ => exact rC76
  | 5, _ => exact rC77
theorem rowC31 : ∀ k, k < 6 → CsC 3 1 k := by
  intro k hk
  match k, hk with
  | 0, _ => exact rC78
  | 1, _ => exact rC79
  | 2, _ => exact rC80
  | 3, _ => exact rC81
  | 4, _ => exact rC82
  | 5, _ => exact rC83
theorem rowC32 : ∀ k, k < 6 → CsC 3 2 k := by
  intro k hk
  match k, hk with
  | 0, _ => exact rC84
  | 1, _ => exact rC85
  | 2, _ => exact rC86
  | 3, _ => exact rC87
  | 4, _ => exact rC88
  | 5, _ => exact rC89
theorem rowC33 : ∀ k, k < 6 → CsC 3 3 k := by
  intro k hk
  match k, hk with
  | 0, _ => exact rC90
  | 1, _ => exact rC91
  | 2, _ => exact rC92
  | 3, _ => exact rC93
  | 4, _ => exact rC94
  | 5, _ => exact rC95
theorem rowC40 : ∀ k, k < 6 → CsC 4 0 k := by
  intro k hk
  match k, hk with
  | 0, _ => exact rC96
  | 1, _ => exact rC97
  | 2, _ => exact rC98
  | 3, _ => exact rC99
  | 4, _ => exact rC100
  | 5, _ => exact rC101
theorem rowC41 : ∀ k, k < 6 → CsC 4 1 k := by
  intro k hk
  match k, hk with
  | 0, _ => exact rC102
  | 1, _ => exact rC103
  | 2, _ => exact rC104
  | 3, _ => exact rC105
  | 4, _ => exact rC106
  | 5, _ => exact rC107
theorem rowC42 : ∀ k, k < 6 → CsC 4 2 k := by
  intro k hk
  match k, hk with
  | 0, _ => exact rC108
  | 1, _ => exact rC109
  | 2, _ => exact rC110
  | 3, _ => exact rC111
  | 4, _ => exact rC112
  | 5, _ => exact rC113
theorem rowC43 : ∀ k, k < 6 → CsC 4 3 k := by
  intro k hk
  match k, hk with
  | 0, _ => exact rC114
  | 1, _ => exact rC115
  | 2, _ => exact rC116
  | 3, _ => exact rC117
  | 4, _ => exact rC118
  | 5, _ => exact rC119
theorem colC0 : ∀ j, j < 4 → ∀ k, k < 6 → CsC 0 j k := by
  intro j hj
  match j, hj with
  | 0, _ => exact rowC00
  | 1, _ => exact rowC01
  | 2, _ => exact rowC02
  | 3, _ => exact rowC03
theorem colC1 : ∀ j, j < 4 → ∀ k, k < 6 → CsC 1 j k := by
  intro j hj
  match j, hj with
  | 0, _ => exact rowC10
  | 1, _ => exact rowC11
  | 2, _ => exact rowC12
  | 3, _ => exact rowC13
theorem colC2 : ∀ j, j < 4 → ∀ k, k < 6 → CsC 2 j k := by
  intro j hj
  match j, hj with
  | 0, _ => exact rowC20
  | 1, _ => exact rowC21
  | 2, _ => exact rowC22
  | 3, _ => exact rowC23
theorem colC3 : ∀ j, j < 4 → ∀ k, k < 6 → CsC 3 j k := by
  intro j hj
  match j, hj with
  | 0, _ => exact rowC30
  | 1, _ => exact rowC31
  | 2, _ => exact rowC32
  | 3, _ => exact rowC33
theorem colC4 : ∀ j, j < 4 → ∀ k, k < 6 → CsC 4 j k := by
  intro j hj
  match j, hj with
  | 0, _ => exact rowC40
  | 1, _ => exact rowC41
  | 2, _ => exact rowC42
  | 3, _ => exact rowC43
theorem allC : ∀ i, i < 5 → ∀ j, j < 4 → ∀ k, k < 6 → CsC i j k := by
  intro i hi
  match i, hi with
  | 0, _ => exact colC0
  | 1, _ => exact colC1
  | 2, _ => exact colC2
  | 3, _ => exact colC3
  | 4, _ => exact colC4
theorem runZC (x0 x1 x2 : V) (h0 : hasV Tryz.prog 3 5 x0) (h1 : hasV Tryz.prog 3 5 x1) (h2 : hasV Tryz.prog 3 5 x2) : PureOk Tryz.prog gS 3 [x0, x1, x2] (.bool true) := by
  obtain ⟨n, rfl, hn⟩ := u8OfC h0
  obtain ⟨m, rfl, hm⟩ := u8OfC h1
  obtain ⟨l, rfl, hl⟩ := u8OfC h2
  exact allC (n % 5) (by omega) (m % 4) (by omega) (l % 6) (by omega) n hn rfl m hm rfl l hl rfl
end Go.Proofs.YtgknkkdemjjeoaaGreatDoor.Code
