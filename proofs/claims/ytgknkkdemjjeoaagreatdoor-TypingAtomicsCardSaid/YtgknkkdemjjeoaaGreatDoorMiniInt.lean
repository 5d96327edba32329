/- A part of the proof: MiniInt. No condition. -/
import Derived.Test.YtgknkkdemjjeoaaGreatDoorMiniOps1
import Derived.Laws.BitsLemmas
set_option linter.all false
set_option maxRecDepth 100000
namespace Go.Mini
set_option linter.unusedVariables false
set_option linter.unusedSimpArgs false

theorem forceN_eq {α : Type} (n : Nat) (k : Nat → α) : forceN n k = k n := by cases n <;> rfl
theorem forceI_eq {α : Type} (n : Int) (k : Int → α) : forceI n k = k n := by cases n <;> simp [forceI, forceN_eq]
theorem wrapF_eq (k : IntKind) (n : Int) : wrapF k n = k.wrap n := by
  unfold wrapF
  cases n with
  | ofNat m =>
    simp only [cond_eq_ite, Nat.blt_eq]
    split
    · rename_i h
      cases k <;> simp [halfK] at h <;> simp [IntKind.wrap, IntKind.bits, IntKind.signed] <;> omega
    · rfl
  | negSucc m =>
    simp only [cond_eq_ite, Bool.and_eq_true, Nat.blt_eq]
    split
    · rename_i h
      obtain ⟨h1, h2⟩ := h
      have e : Int.negSucc m = -(m : Int) - 1 := by omega
      rw [e]
      cases k with
      | i8 => simp only [halfK] at h2; simp only [IntKind.wrap, IntKind.bits, IntKind.signed]; simp; omega
      | i16 => simp only [halfK] at h2; simp only [IntKind.wrap, IntKind.bits, IntKind.signed]; simp; omega
      | i32 => simp only [halfK] at h2; rw [IntKind.wrap_i32]; omega
      | i64 => simp only [halfK] at h2; rw [IntKind.wrap_i64]; omega
      | _ => simp [IntKind.signed] at h1
    · rfl
theorem ltF_eq (a b : Int) : ltF a b = decide (a < b) := by
  cases a <;> cases b <;> simp [ltF, Nat.blt] <;> first | omega | (rw [Bool.eq_iff_iff]; simp; omega)
theorem eqF_eq (a b : Int) : eqF a b = (a == b) := by
  cases a <;> cases b <;> simp [eqF, Nat.beq_eq] <;> first | (rw [Bool.eq_iff_iff]; simp; done) | (rw [Bool.eq_iff_iff]; simp; omega)
theorem kindEq_eq (k k' : IntKind) : kindEq k k' = decide (k = k') := by cases k <;> cases k' <;> rfl

/-- A number or a bool of the model. -/
def toV1 : V → Value
  | .int k n => .int k n
  | .bool b => .bool b
  | .str s => .string ⟨s.toArray⟩
  | _ => undef

theorem intV_ok {op : BinOp} {k k' : IntKind} {x y : Int} {r : V} (P : Program) (w : World) (ty : TypeId) (h : intV op k x k' y = some r) :
    (Go.binOp op ty (.int k x) (.int k' y)).run P w = .ok (toV1 r) w ∧ ((∃ n, r = .int k n) ∨ ∃ b, r = .bool b) := by
  unfold intV at h
  cases op <;> simp only [forceI_eq, wrapF_eq, ltF_eq, eqF_eq, kindEq_eq, cond_eq_ite, decide_eq_true_eq] at h <;> (repeat' split at h) <;> (try cases h)
  all_goals (try subst_vars)
  all_goals first
    | refine ⟨?_, .inl ⟨_, rfl⟩⟩
    | refine ⟨?_, .inr ⟨_, rfl⟩⟩
  all_goals first
    | (simp_all [Go.binOp, Op.intArith, Op.intDiv, Op.intBits, Op.intCmp, Sem.run, toV1, pure, bne]; done)
    | (have hy : ¬ y < 0 := by omega
       simp only [Go.binOp, Op.shift, hy, if_false, Sem.run, toV1, pure]; done)
    | (simp only [Go.binOp, Op.intCmp, Sem.run, toV1, pure, ne_eq, not_true_eq_false, if_false]
       congr 2; rw [Bool.eq_iff_iff]; simp; done)
end Go.Mini
