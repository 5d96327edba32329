/-
From a call that is told to the rows' form: arguments opened, nothing old turned.
-/
import Derived.Test.YtgknkkdemjjeoaaGreatDoorMiniOpen
import Derived.WideShapes
set_option linter.all false
set_option maxRecDepth 100000
namespace Go.Mini
open Go.RowKit
set_option linter.unusedVariables false
set_option linter.unusedSimpArgs false
variable {P : Program}

/-- a value of a type -/
def hasV (P : Program) (k : Nat) (t : TypeId) (x : V) : Prop := match P.underlying t with
  | some (.struct _) => ∃ xs, x = .agg xs ∧ hasT P k t xs
  | _ => hasT P k t [x]

theorem hasT_bool {k : Nat} {t : TypeId} {xs : List V} (ht : P.underlying t = some .bool) : hasT P (k + 1) t xs ↔ ∃ b, xs = [.bool b] := by simp only [hasT, ht]
theorem hasT_int {k : Nat} {t : TypeId} {xs : List V} {kd : IntKind} (ht : P.underlying t = some (.int kd)) : hasT P (k + 1) t xs ↔ ∃ n, xs = [.int kd n] ∧ kd.min ≤ n ∧ n ≤ kd.max := by simp only [hasT, ht]
theorem hasT_str {k : Nat} {t : TypeId} {xs : List V} (ht : P.underlying t = some .string) : hasT P (k + 1) t xs ↔ ∃ s, xs = [.str s] := by simp only [hasT, ht]
theorem hasT_slice {k : Nat} {t e : TypeId} {xs : List V} (ht : P.underlying t = some (.slice e)) : hasT P (k + 1) t xs ↔ xs = [.nils] ∨ ∃ els, xs = [.rs (P.cellsOf e) els] ∧ els.length ≤ 9223372036854775807 ∧ ∀ el ∈ els, hasT P k e el := by simp only [hasT, ht]
theorem hasT_struct {k : Nat} {t : TypeId} {xs : List V} {fs : Array Field} (ht : P.underlying t = some (.struct fs)) : hasT P (k + 1) t xs ↔ hasF (hasT P k) fs.toList xs := by simp only [hasT, ht]
theorem hasV_struct {k : Nat} {t : TypeId} {x : V} {fs : Array Field} (ht : P.underlying t = some (.struct fs)) : hasV P k t x ↔ ∃ xs, x = .agg xs ∧ hasT P k t xs := by simp only [hasV, ht]
theorem hasV_slice {k : Nat} {t e : TypeId} {x : V} (ht : P.underlying t = some (.slice e)) : hasV P k t x ↔ hasT P k t [x] := by simp only [hasV, ht]
theorem hasV_int {k : Nat} {t : TypeId} {x : V} {kd : IntKind} (ht : P.underlying t = some (.int kd)) : hasV P k t x ↔ hasT P k t [x] := by simp only [hasV, ht]
theorem hasF_vb {h : TypeId → List V → Prop} (ih : ∀ t xs, h t xs → ∀ x ∈ xs, VB 0 x) : ∀ {fs : List Field} {xs : List V}, hasF h fs xs → ∀ x ∈ xs, VB 0 x
  | [], xs, hx, x, hm => by
    simp only [hasF] at hx; subst hx; simp at hm
  | f :: fs, xs, hx, x, hm => by
    simp only [hasF] at hx
    obtain ⟨a, b, rfl, h1, h2⟩ := hx
    rcases List.mem_append.1 hm with hm | hm
    · exact ih _ _ h1 x hm
    · exact hasF_vb ih h2 x hm
theorem hasT_vb : ∀ {k : Nat} {t : TypeId} {xs : List V}, hasT P k t xs → ∀ x ∈ xs, VB 0 x
  | 0, _, _, h, _, _ => by simp [hasT] at h
  | k + 1, t, xs, h, x, hm => by
    simp only [hasT] at h
    split at h
    · obtain ⟨b, rfl⟩ := h; simp at hm; subst hm; exact .bool
    · obtain ⟨n, rfl, _⟩ := h; simp at hm; subst hm; exact .int
    · obtain ⟨s, rfl⟩ := h; simp at hm; subst hm; exact .str
    · rcases h with rfl | ⟨els, rfl, _, h⟩
      · simp at hm; subst hm; exact .nils
      · simp at hm; subst hm; exact .rs fun el he => hasT_vb (h el he)
    · exact hasF_vb (fun t xs h => hasT_vb h) h x hm
    · exact h.elim
theorem hasV_vb {k : Nat} {t : TypeId} {x : V} (h : hasV P k t x) : VB 0 x := by
  unfold hasV at h
  split at h
  · obtain ⟨xs, rfl, h⟩ := h; exact .agg fun x hx => hasT_vb h x hx
  · exact hasT_vb h x (by simp)

theorem trod_arg {H : Type} {enc : TypeId × Value → H} {w : World} {sp : Nat → Bool} {held : Bool} {k base : Nat} {t : TypeId} {v : Value} {d : DataW H} {ps : List MemPlace} (hs : simpleT P k t = true)
    (hval : Value.okWide P w .any base t v) (hd : DataW.Trod enc P w 0 sp held t v d ps) : ∃ x, VR noF w noPhi x v ∧ hasV P k t x := by
  obtain ⟨fuel, hf⟩ := hd
  obtain ⟨xs, ⟨h1, h2, h3⟩, h4⟩ := trod_open hs hf
  cases k with
  | zero => simp [simpleT] at hs
  | succ k =>
    simp only [simpleT] at hs
    unfold hasV
    rcases ht : P.underlying t with _ | u
    · rw [ht] at hs; cases hs
    rw [ht] at hs
    have single : (∀ cs, v ≠ .agg cs) → xs.length = 1 → hasT P (k + 1) t xs → ∃ x, VR noF w noPhi x v ∧ hasT P (k + 1) t [x] := by
      intro hv hx h4
      have hc : v.cells.toList = [v] := by cases v <;> first | rfl | exact absurd rfl (hv _)
      rw [hc] at h2
      match xs, hx with
      | [x], _ => exact ⟨x, h2 0 x v rfl rfl, h4⟩
    have hne : (∀ fs, u ≠ .struct fs) → simpleT P (k + 1) t = true → ∀ cs, v ≠ .agg cs := by
      intro hu hsim cs hv
      subst hv
      simp only [Value.okWide, ht] at hval
      simp only [simpleT, ht] at hsim
      cases u <;> simp only [Cell.okWide, Cell.ok, ht] at hval hsim <;> first | exact hval | (cases hsim; done) | exact hu _ rfl | skip
    have hsim : simpleT P (k + 1) t = true := by simp only [simpleT, ht]; exact hs
    cases u <;> simp only [] at hs <;> try (cases hs; done)
    case struct fs =>
      simp only [Value.okWide, ht] at hval
      obtain ⟨cs, rfl, _, _⟩ := hval
      refine ⟨.agg xs, ?_, xs, rfl, h4⟩
      have : cs = ⟨cs.toList⟩ := rfl
      rw [this]
      exact .agg h1.symm h3 h2
    all_goals
      refine single (hne (fun _ h => by cases h) hsim) ?_ h4
      simp only [hasT, ht] at h4
    · obtain ⟨b, rfl⟩ := h4; rfl
    · obtain ⟨n, rfl, _⟩ := h4; rfl
    · obtain ⟨s, rfl⟩ := h4; rfl
    · rcases h4 with rfl | ⟨els, rfl, _⟩ <;> rfl

/-- a call that answers true, with its arguments; nothing that was there has turned -/
theorem PureOk.below {f : FuncId} {args : List V} {b : Bool} (h : PureOk P (fun _ => none) f args (.bool b)) {w : World} {cargs : List Value} (ha : VRs noF w noPhi args cargs) :
    Calls P f ⟨cargs⟩ w (fun e w' => e = .returned (.bool b) ∧ Below w.heap.size w w') := by
  obtain ⟨_, _, hP⟩ := h
  refine (hP noF noPhi w.heap.size w cargs ha (rel_no w) (fun _ _ h => by cases h)).mono fun ed w' ⟨c, hc, forb', φ', k1, k2, k3, k4, k5, k6, k7, k8⟩ => ?_
  cases k1
  exact ⟨hc, k3.os, k3.tape, k3.output, k3.size, fun b hb => k3.keep b hb (fun h => h)⟩
theorem VRs.nil {w : World} : VRs noF w noPhi [] [] := ⟨rfl, fun i v c h => by simp at h⟩
theorem VRs.cons {w : World} {x : V} {v : Value} {xs : List V} {vs : List Value} (h : VR noF w noPhi x v) (k : VRs noF w noPhi xs vs) : VRs noF w noPhi (x :: xs) (v :: vs) := by
  refine ⟨by simp [k.1], fun i y c hy hc => ?_⟩
  cases i with
  | zero => simp at hy hc; subst hy hc; exact h
  | succ i => exact k.2 i y c (by simpa using hy) (by simpa using hc)
/-- a run of the small machine told -/
theorem run_ok {tab : FuncId → Option MFunc} (ht : ∀ f m, tab f = some m → ∃ fn, P.funcs[f]? = some fn ∧ compF P fn = some m) (hmix : P.follows .mixedOrders = true) (mode : FuncId → Mode) {l : List (FuncId × List V × V)} (hl : Known P l) {n : Nat} {f : FuncId} {args : List V} {v : V} (ha : ∀ x ∈ args, VB 0 x)
    (hx : pureBody (envOf tab mode l) (call (envOf tab mode l) n) n f args = some v) : PureOk P (fun _ => none) f args v :=
  pure_of_call (envOf_ok ht mode hl) hmix ha hx
end Go.Mini
