/- A part of the proof: Apart5. No condition. -/
import Derived.Test.YtgcehfooibpccaaCode18
import Derived.Test.YtgcehfooibpccaaMiniSym
namespace Go.Proofs.Ytgcehfooibpccaa.Code
open Go.Mini
set_option linter.unusedVariables false
/-- a footprint's cells -/
structure F6 where
  r : Int
  w : Int
  s : Int
  c : Int
  z : Int
  p : Bool
def F6.v (a : F6) : V := .agg [.int .u32 a.r, .int .u32 a.w, .int .u32 a.s, .int .u32 a.c, .int .u32 a.z, .bool a.p]
def E0 : Env := envOf tab (fun _ => .pure) [(7, [], .bool true)]
def meetB (a b : Int) : Bool := !(eqF (andV a b) 0)
theorem body26 {C : FuncId → List V → H → Option Res} (k : Nat) (a b : Int) : pureBody E0 C (k + 5) 26 [.int .u32 a, .int .u32 b] = some (.bool (meetB a b)) := by
  apply pure_run (by rfl) (by rfl) (by simp only [List.length_cons, List.length_nil, List.replicate, List.cons_append, List.nil_append]; try rfl)
  · repeat (first
      | with_reducible apply ex_seq
      | with_reducible apply ex_reg
      | with_reducible apply ex_draw
      | with_reducible exact ex_ret
      | with_reducible exact ex_skip
      | with_reducible apply ex_norm
      | with_reducible exact ex_stop
      | ((with_reducible apply ex_true); rfl)
      | ((with_reducible apply ex_false); rfl)
      | ((with_reducible apply regV_go)
         · rfl
         · first | ((with_reducible apply bin_and) <;> rfl) | ((with_reducible apply bin_or) <;> rfl) | ((with_reducible apply bin_ne); rfl; rfl; first | assumption | rfl) | rfl
         · dsimp only [putV, List.set]; try rfl
         · dsimp only [uni]; try rfl
         · dsimp only [uni]; try rfl)
      | ((with_reducible apply regV_skip)
         · rfl
         · dsimp only [putV, List.set]; try rfl)
      | ((with_reducible apply drawV_go)
         · rfl
         · first | ((with_reducible apply bin_and) <;> rfl) | ((with_reducible apply bin_or) <;> rfl) | ((with_reducible apply bin_ne); rfl; rfl; first | assumption | rfl) | rfl
         · rfl
         · dsimp only [note, allW]; try rfl
         · dsimp only [putV, List.set]; try rfl
         · dsimp only [uni]; try rfl
         · dsimp only [uni]; try rfl)
      | ((with_reducible apply drawV_skip)
         · rfl
         · dsimp only [putV, List.set]; try rfl)
      | with_reducible exact regV_nil rfl
      | with_reducible exact drawV_nil rfl)
  · rfl
  · rfl
theorem meet26 (k : Nat) (a b : Int) (h : H) : call E0 (k + 6) 26 [.int .u32 a, .int .u32 b] h = some ⟨.bool (meetB a b), h, [], []⟩ :=
  call_pure (by rfl) (by rfl) (by rfl) (by rfl) (body26 k a b) (by rfl)
def h1 (a b : F6) : Bool := !(eqF (andV a.w (orV b.r b.w)) 0)
def h2 (a b : F6) : Bool := !(eqF (andV (orV a.s a.c) (orV (orV b.s b.c) b.z)) 0)
def hitsB (a b : F6) : Bool := if h1 a b then true else h2 a b
theorem body25 {C : FuncId → List V → H → Option Res} (k : Nat) (a b : F6) : pureBody E0 C (k + 5) 25 [a.v, b.v] = some (.bool (hitsB a b)) := by
  cases hg : (!(eqF (andV a.w (orV b.r b.w)) 0))
  · apply pure_run (by rfl) (by rfl) (by simp only [List.length_cons, List.length_nil, List.replicate, List.cons_append, List.nil_append]; try rfl)
    · repeat (first
      | with_reducible apply ex_seq
      | with_reducible apply ex_reg
      | with_reducible apply ex_draw
      | with_reducible exact ex_ret
      | with_reducible exact ex_skip
      | with_reducible apply ex_norm
      | with_reducible exact ex_stop
      | ((with_reducible apply ex_true); rfl)
      | ((with_reducible apply ex_false); rfl)
      | ((with_reducible apply regV_go)
         · rfl
         · first | ((with_reducible apply bin_and) <;> rfl) | ((with_reducible apply bin_or) <;> rfl) | ((with_reducible apply bin_ne); rfl; rfl; first | assumption | rfl) | rfl
         · dsimp only [putV, List.set]; try rfl
         · dsimp only [uni]; try rfl
         · dsimp only [uni]; try rfl)
      | ((with_reducible apply regV_skip)
         · rfl
         · dsimp only [putV, List.set]; try rfl)
      | ((with_reducible apply drawV_go)
         · rfl
         · first | ((with_reducible apply bin_and) <;> rfl) | ((with_reducible apply bin_or) <;> rfl) | ((with_reducible apply bin_ne); rfl; rfl; first | assumption | rfl) | rfl
         · rfl
         · dsimp only [note, allW]; try rfl
         · dsimp only [putV, List.set]; try rfl
         · dsimp only [uni]; try rfl
         · dsimp only [uni]; try rfl)
      | ((with_reducible apply drawV_skip)
         · rfl
         · dsimp only [putV, List.set]; try rfl)
      | with_reducible exact regV_nil rfl
      | with_reducible exact drawV_nil rfl)
    · rfl
    · simp only [hitsB, h1, hg]; rfl
  · apply pure_run (by rfl) (by rfl) (by simp only [List.length_cons, List.length_nil, List.replicate, List.cons_append, List.nil_append]; try rfl)
    · repeat (first
      | with_reducible apply ex_seq
      | with_reducible apply ex_reg
      | with_reducible apply ex_draw
      | with_reducible exact ex_ret
      | with_reducible exact ex_skip
      | with_reducible apply ex_norm
      | with_reducible exact ex_stop
      | ((with_reducible apply ex_true); rfl)
      | ((with_reducible apply ex_false); rfl)
      | ((with_reducible apply regV_go)
         · rfl
         · first | ((with_reducible apply bin_and) <;> rfl) | ((with_reducible apply bin_or) <;> rfl) | ((with_reducible apply bin_ne); rfl; rfl; first | assumption | rfl) | rfl
         · dsimp only [putV, List.set]; try rfl
         · dsimp only [uni]; try rfl
         · dsimp only [uni]; try rfl)
      | ((with_reducible apply regV_skip)
         · rfl
         · dsimp only [putV, List.set]; try rfl)
      | ((with_reducible apply drawV_go)
         · rfl
         · first | ((with_reducible apply bin_and) <;> rfl) | ((with_reducible apply bin_or) <;> rfl) | ((with_reducible apply bin_ne); rfl; rfl; first | assumption | rfl) | rfl
         · rfl
         · dsimp only [note, allW]; try rfl
         · dsimp only [putV, List.set]; try rfl
         · dsimp only [uni]; try rfl
         · dsimp only [uni]; try rfl)
      | ((with_reducible apply drawV_skip)
         · rfl
         · dsimp only [putV, List.set]; try rfl)
      | with_reducible exact regV_nil rfl
      | with_reducible exact drawV_nil rfl)
    · rfl
    · simp only [hitsB, h1, hg]; rfl
theorem hits25 (k : Nat) (a b : F6) (h : H) : call E0 (k + 6) 25 [a.v, b.v] h = some ⟨.bool (hitsB a b), h, [], []⟩ :=
  call_pure (by rfl) (by rfl) (by rfl) (by rfl) (body25 k a b) (by rfl)
def apartB (a b : F6) : Bool := if hitsB a b then false else !(hitsB b a)
theorem body10 {C : FuncId → List V → H → Option Res} (k : Nat) (a b : F6) (hA : ∀ h, C 25 [a.v, b.v] h = some ⟨.bool (hitsB a b), h, [], []⟩) (hB : ∀ h, C 25 [b.v, a.v] h = some ⟨.bool (hitsB b a), h, [], []⟩) : pureBody E0 C (k + 6) 10 [a.v, b.v] = some (.bool (apartB a b)) := by
  cases hg : hitsB a b
  · simp only [hg] at hA
    apply pure_run (by rfl) (by rfl) (by simp only [List.length_cons, List.length_nil, List.replicate, List.cons_append, List.nil_append]; try rfl)
    · repeat (first
      | with_reducible apply ex_seq
      | with_reducible apply ex_reg
      | with_reducible apply ex_draw
      | with_reducible exact ex_ret
      | with_reducible exact ex_skip
      | with_reducible apply ex_norm
      | with_reducible exact ex_stop
      | ((with_reducible apply ex_true); rfl)
      | ((with_reducible apply ex_false); rfl)
      | ((with_reducible apply regV_go)
         · rfl
         · first | ((with_reducible apply bin_and) <;> rfl) | ((with_reducible apply bin_or) <;> rfl) | ((with_reducible apply bin_ne); rfl; rfl; first | assumption | rfl) | ((with_reducible apply op_call_of); rfl; rfl; exact hA _) | ((with_reducible apply op_call_of); rfl; rfl; exact hB _) | rfl
         · dsimp only [putV, List.set]; try rfl
         · dsimp only [uni]; try rfl
         · dsimp only [uni]; try rfl)
      | ((with_reducible apply regV_skip)
         · rfl
         · dsimp only [putV, List.set]; try rfl)
      | ((with_reducible apply drawV_go)
         · rfl
         · first | ((with_reducible apply bin_and) <;> rfl) | ((with_reducible apply bin_or) <;> rfl) | ((with_reducible apply bin_ne); rfl; rfl; first | assumption | rfl) | ((with_reducible apply op_call_of); rfl; rfl; exact hA _) | ((with_reducible apply op_call_of); rfl; rfl; exact hB _) | rfl
         · rfl
         · dsimp only [note, allW]; try rfl
         · dsimp only [putV, List.set]; try rfl
         · dsimp only [uni]; try rfl
         · dsimp only [uni]; try rfl)
      | ((with_reducible apply drawV_skip)
         · rfl
         · dsimp only [putV, List.set]; try rfl)
      | with_reducible exact regV_nil rfl
      | with_reducible exact drawV_nil rfl)
    · rfl
    · simp only [apartB, hg]; rfl
  · simp only [hg] at hA
    apply pure_run (by rfl) (by rfl) (by simp only [List.length_cons, List.length_nil, List.replicate, List.cons_append, List.nil_append]; try rfl)
    · repeat (first
      | with_reducible apply ex_seq
      | with_reducible apply ex_reg
      | with_reducible apply ex_draw
      | with_reducible exact ex_ret
      | with_reducible exact ex_skip
      | with_reducible apply ex_norm
      | with_reducible exact ex_stop
      | ((with_reducible apply ex_true); rfl)
      | ((with_reducible apply ex_false); rfl)
      | ((with_reducible apply regV_go)
         · rfl
         · first | ((with_reducible apply bin_and) <;> rfl) | ((with_reducible apply bin_or) <;> rfl) | ((with_reducible apply bin_ne); rfl; rfl; first | assumption | rfl) | ((with_reducible apply op_call_of); rfl; rfl; exact hA _) | ((with_reducible apply op_call_of); rfl; rfl; exact hB _) | rfl
         · dsimp only [putV, List.set]; try rfl
         · dsimp only [uni]; try rfl
         · dsimp only [uni]; try rfl)
      | ((with_reducible apply regV_skip)
         · rfl
         · dsimp only [putV, List.set]; try rfl)
      | ((with_reducible apply drawV_go)
         · rfl
         · first | ((with_reducible apply bin_and) <;> rfl) | ((with_reducible apply bin_or) <;> rfl) | ((with_reducible apply bin_ne); rfl; rfl; first | assumption | rfl) | ((with_reducible apply op_call_of); rfl; rfl; exact hA _) | ((with_reducible apply op_call_of); rfl; rfl; exact hB _) | rfl
         · rfl
         · dsimp only [note, allW]; try rfl
         · dsimp only [putV, List.set]; try rfl
         · dsimp only [uni]; try rfl
         · dsimp only [uni]; try rfl)
      | ((with_reducible apply drawV_skip)
         · rfl
         · dsimp only [putV, List.set]; try rfl)
      | with_reducible exact regV_nil rfl
      | with_reducible exact drawV_nil rfl)
    · rfl
    · simp only [apartB, hg]; rfl
theorem apart10 (k : Nat) (a b : F6) (h : H) : call E0 (k + 7) 10 [a.v, b.v] h = some ⟨.bool (apartB a b), h, [], []⟩ :=
  call_pure (by rfl) (by rfl) (by rfl) (by rfl) (body10 k a b (hits25 k a b) (hits25 k b a)) (by rfl)
def refB (a b : F6) : Bool := if meetB a.w b.r then false else if meetB a.w b.w then false else if meetB b.w a.r then false else
  if meetB (orV a.s a.c) (orV b.s b.c) then false else if meetB (orV a.s a.c) b.z then false else !(meetB (orV b.s b.c) a.z)
theorem body11 {C : FuncId → List V → H → Option Res} (k : Nat) (a b : F6) (m1 : ∀ h, C 26 [.int .u32 a.w, .int .u32 b.r] h = some ⟨.bool (meetB a.w b.r), h, [], []⟩) (m2 : ∀ h, C 26 [.int .u32 a.w, .int .u32 b.w] h = some ⟨.bool (meetB a.w b.w), h, [], []⟩) (m3 : ∀ h, C 26 [.int .u32 b.w, .int .u32 a.r] h = some ⟨.bool (meetB b.w a.r), h, [], []⟩) (m4 : ∀ h, C 26 [.int .u32 (orV a.s a.c), .int .u32 (orV b.s b.c)] h = some ⟨.bool (meetB (orV a.s a.c) (orV b.s b.c)), h, [], []⟩) (m5 : ∀ h, C 26 [.int .u32 (orV a.s a.c), .int .u32 b.z] h = some ⟨.bool (meetB (orV a.s a.c) b.z), h, [], []⟩) (m6 : ∀ h, C 26 [.int .u32 (orV b.s b.c), .int .u32 a.z] h = some ⟨.bool (meetB (orV b.s b.c) a.z), h, [], []⟩) : pureBody E0 C (k + 8) 11 [a.v, b.v] = some (.bool (refB a b)) := by
  cases g1 : meetB a.w b.r
  rotate_left
  · simp only [g1] at m1
    apply pure_run (by rfl) (by rfl) (by simp only [List.length_cons, List.length_nil, List.replicate, List.cons_append, List.nil_append]; try rfl)
    · repeat (first
      | with_reducible apply ex_seq
      | with_reducible apply ex_reg
      | with_reducible apply ex_draw
      | with_reducible exact ex_ret
      | with_reducible exact ex_skip
      | with_reducible apply ex_norm
      | with_reducible exact ex_stop
      | ((with_reducible apply ex_true); rfl)
      | ((with_reducible apply ex_false); rfl)
      | ((with_reducible apply regV_go)
         · rfl
         · first | ((with_reducible apply bin_and) <;> rfl) | ((with_reducible apply bin_or) <;> rfl) | ((with_reducible apply bin_ne); rfl; rfl; first | assumption | rfl) | ((with_reducible apply op_call_of); rfl; rfl; exact m1 _) | ((with_reducible apply op_call_of); rfl; rfl; exact m2 _) | ((with_reducible apply op_call_of); rfl; rfl; exact m3 _) | ((with_reducible apply op_call_of); rfl; rfl; exact m4 _) | ((with_reducible apply op_call_of); rfl; rfl; exact m5 _) | ((with_reducible apply op_call_of); rfl; rfl; exact m6 _) | rfl
         · dsimp only [putV, List.set]; try rfl
         · dsimp only [uni]; try rfl
         · dsimp only [uni]; try rfl)
      | ((with_reducible apply regV_skip)
         · rfl
         · dsimp only [putV, List.set]; try rfl)
      | ((with_reducible apply drawV_go)
         · rfl
         · first | ((with_reducible apply bin_and) <;> rfl) | ((with_reducible apply bin_or) <;> rfl) | ((with_reducible apply bin_ne); rfl; rfl; first | assumption | rfl) | ((with_reducible apply op_call_of); rfl; rfl; exact m1 _) | ((with_reducible apply op_call_of); rfl; rfl; exact m2 _) | ((with_reducible apply op_call_of); rfl; rfl; exact m3 _) | ((with_reducible apply op_call_of); rfl; rfl; exact m4 _) | ((with_reducible apply op_call_of); rfl; rfl; exact m5 _) | ((with_reducible apply op_call_of); rfl; rfl; exact m6 _) | rfl
         · rfl
         · dsimp only [note, allW]; try rfl
         · dsimp only [putV, List.set]; try rfl
         · dsimp only [uni]; try rfl
         · dsimp only [uni]; try rfl)
      | ((with_reducible apply drawV_skip)
         · rfl
         · dsimp only [putV, List.set]; try rfl)
      | with_reducible exact regV_nil rfl
      | with_reducible exact drawV_nil rfl)
    · rfl
    · simp only [refB, g1]; rfl
  simp only [g1] at m1
  cases g2 : meetB a.w b.w
  rotate_left
  · simp only [g2] at m2
    apply pure_run (by rfl) (by rfl) (by simp only [List.length_cons, List.length_nil, List.replicate, List.cons_append, List.nil_append]; try rfl)
    · repeat (first
      | with_reducible apply ex_seq
      | with_reducible apply ex_reg
      | with_reducible apply ex_draw
      | with_reducible exact ex_ret
      | with_reducible exact ex_skip
      | with_reducible apply ex_norm
      | with_reducible exact ex_stop
      | ((with_reducible apply ex_true); rfl)
      | ((with_reducible apply ex_false); rfl)
      | ((with_reducible apply regV_go)
         · rfl
         · first | ((with_reducible apply bin_and) <;> rfl) | ((with_reducible apply bin_or) <;> rfl) | ((with_reducible apply bin_ne); rfl; rfl; first | assumption | rfl) | ((with_reducible apply op_call_of); rfl; rfl; exact m1 _) | ((with_reducible apply op_call_of); rfl; rfl; exact m2 _) | ((with_reducible apply op_call_of); rfl; rfl; exact m3 _) | ((with_reducible apply op_call_of); rfl; rfl; exact m4 _) | ((with_reducible apply op_call_of); rfl; rfl; exact m5 _) | ((with_reducible apply op_call_of); rfl; rfl; exact m6 _) | rfl
         · dsimp only [putV, List.set]; try rfl
         · dsimp only [uni]; try rfl
         · dsimp only [uni]; try rfl)
      | ((with_reducible apply regV_skip)
         · rfl
         · dsimp only [putV, List.set]; try rfl)
      | ((with_reducible apply drawV_go)
         · rfl
         · first | ((with_reducible apply bin_and) <;> rfl) | ((with_reducible apply bin_or) <;> rfl) | ((with_reducible apply bin_ne); rfl; rfl; first | assumption | rfl) | ((with_reducible apply op_call_of); rfl; rfl; exact m1 _) | ((with_reducible apply op_call_of); rfl; rfl; exact m2 _) | ((with_reducible apply op_call_of); rfl; rfl; exact m3 _) | ((with_reducible apply op_call_of); rfl; rfl; exact m4 _) | ((with_reducible apply op_call_of); rfl; rfl; exact m5 _) | ((with_reducible apply op_call_of); rfl; rfl; exact m6 _) | rfl
         · rfl
         · dsimp only [note, allW]; try rfl
         · dsimp only [putV, List.set]; try rfl
         · dsimp only [uni]; try rfl
         · dsimp only [uni]; try rfl)
      | ((with_reducible apply drawV_skip)
         · rfl
         · dsimp only [putV, List.set]; try rfl)
      | with_reducible exact regV_nil rfl
      | with_reducible exact drawV_nil rfl)
    · rfl
    · simp only [refB, g1, g2]; rfl
  simp only [g2] at m2
  cases g3 : meetB b.w a.r
  rotate_left
  · simp only [g3] at m3
    apply pure_run (by rfl) (by rfl) (by simp only [List.length_cons, List.length_nil, List.replicate, List.cons_append, List.nil_append]; try rfl)
    · repeat (first
      | with_reducible apply ex_seq
      | with_reducible apply ex_reg
      | with_reducible apply ex_draw
      | with_reducible exact ex_ret
      | with_reducible exact ex_skip
      | with_reducible apply ex_norm
      | with_reducible exact ex_stop
      | ((with_reducible apply ex_true); rfl)
      | ((with_reducible apply ex_false); rfl)
      | ((with_reducible apply regV_go)
         · rfl
         · first | ((with_reducible apply bin_and) <;> rfl) | ((with_reducible apply bin_or) <;> rfl) | ((with_reducible apply bin_ne); rfl; rfl; first | assumption | rfl) | ((with_reducible apply op_call_of); rfl; rfl; exact m1 _) | ((with_reducible apply op_call_of); rfl; rfl; exact m2 _) | ((with_reducible apply op_call_of); rfl; rfl; exact m3 _) | ((with_reducible apply op_call_of); rfl; rfl; exact m4 _) | ((with_reducible apply op_call_of); rfl; rfl; exact m5 _) | ((with_reducible apply op_call_of); rfl; rfl; exact m6 _) | rfl
         · dsimp only [putV, List.set]; try rfl
         · dsimp only [uni]; try rfl
         · dsimp only [uni]; try rfl)
      | ((with_reducible apply regV_skip)
         · rfl
         · dsimp only [putV, List.set]; try rfl)
      | ((with_reducible apply drawV_go)
         · rfl
         · first | ((with_reducible apply bin_and) <;> rfl) | ((with_reducible apply bin_or) <;> rfl) | ((with_reducible apply bin_ne); rfl; rfl; first | assumption | rfl) | ((with_reducible apply op_call_of); rfl; rfl; exact m1 _) | ((with_reducible apply op_call_of); rfl; rfl; exact m2 _) | ((with_reducible apply op_call_of); rfl; rfl; exact m3 _) | ((with_reducible apply op_call_of); rfl; rfl; exact m4 _) | ((with_reducible apply op_call_of); rfl; rfl; exact m5 _) | ((with_reducible apply op_call_of); rfl; rfl; exact m6 _) | rfl
         · rfl
         · dsimp only [note, allW]; try rfl
         · dsimp only [putV, List.set]; try rfl
         · dsimp only [uni]; try rfl
         · dsimp only [uni]; try rfl)
      | ((with_reducible apply drawV_skip)
         · rfl
         · dsimp only [putV, List.set]; try rfl)
      | with_reducible exact regV_nil rfl
      | with_reducible exact drawV_nil rfl)
    · rfl
    · simp only [refB, g1, g2, g3]; rfl
  simp only [g3] at m3
  cases g4 : meetB (orV a.s a.c) (orV b.s b.c)
  rotate_left
  · simp only [g4] at m4
    apply pure_run (by rfl) (by rfl) (by simp only [List.length_cons, List.length_nil, List.replicate, List.cons_append, List.nil_append]; try rfl)
    · repeat (first
      | with_reducible apply ex_seq
      | with_reducible apply ex_reg
      | with_reducible apply ex_draw
      | with_reducible exact ex_ret
      | with_reducible exact ex_skip
      | with_reducible apply ex_norm
      | with_reducible exact ex_stop
      | ((with_reducible apply ex_true); rfl)
      | ((with_reducible apply ex_false); rfl)
      | ((with_reducible apply regV_go)
         · rfl
         · first | ((with_reducible apply bin_and) <;> rfl) | ((with_reducible apply bin_or) <;> rfl) | ((with_reducible apply bin_ne); rfl; rfl; first | assumption | rfl) | ((with_reducible apply op_call_of); rfl; rfl; exact m1 _) | ((with_reducible apply op_call_of); rfl; rfl; exact m2 _) | ((with_reducible apply op_call_of); rfl; rfl; exact m3 _) | ((with_reducible apply op_call_of); rfl; rfl; exact m4 _) | ((with_reducible apply op_call_of); rfl; rfl; exact m5 _) | ((with_reducible apply op_call_of); rfl; rfl; exact m6 _) | rfl
         · dsimp only [putV, List.set]; try rfl
         · dsimp only [uni]; try rfl
         · dsimp only [uni]; try rfl)
      | ((with_reducible apply regV_skip)
         · rfl
         · dsimp only [putV, List.set]; try rfl)
      | ((with_reducible apply drawV_go)
         · rfl
         · first | ((with_reducible apply bin_and) <;> rfl) | ((with_reducible apply bin_or) <;> rfl) | ((with_reducible apply bin_ne); rfl; rfl; first | assumption | rfl) | ((with_reducible apply op_call_of); rfl; rfl; exact m1 _) | ((with_reducible apply op_call_of); rfl; rfl; exact m2 _) | ((with_reducible apply op_call_of); rfl; rfl; exact m3 _) | ((with_reducible apply op_call_of); rfl; rfl; exact m4 _) | ((with_reducible apply op_call_of); rfl; rfl; exact m5 _) | ((with_reducible apply op_call_of); rfl; rfl; exact m6 _) | rfl
         · rfl
         · dsimp only [note, allW]; try rfl
         · dsimp only [putV, List.set]; try rfl
         · dsimp only [uni]; try rfl
         · dsimp only [uni]; try rfl)
      | ((with_reducible apply drawV_skip)
         · rfl
         · dsimp only [putV, List.set]; try rfl)
      | with_reducible exact regV_nil rfl
      | with_reducible exact drawV_nil rfl)
    · rfl
    · simp only [refB, g1, g2, g3, g4]; rfl
  simp only [g4] at m4
  cases g5 : meetB (orV a.s a.c) b.z
  rotate_left
  · simp only [g5] at m5
    apply pure_run (by rfl) (by rfl) (by simp only [List.length_cons, List.length_nil, List.replicate, List.cons_append, List.nil_append]; try rfl)
    · repeat (first
      | with_reducible apply ex_seq
      | with_reducible apply ex_reg
      | with_reducible apply ex_draw
      | with_reducible exact ex_ret
      | with_reducible exact ex_skip
      | with_reducible apply ex_norm
      | with_reducible exact ex_stop
      | ((with_reducible apply ex_true); rfl)
      | ((with_reducible apply ex_false); rfl)
      | ((with_reducible apply regV_go)
         · rfl
         · first | ((with_reducible apply bin_and) <;> rfl) | ((with_reducible apply bin_or) <;> rfl) | ((with_reducible apply bin_ne); rfl; rfl; first | assumption | rfl) | ((with_reducible apply op_call_of); rfl; rfl; exact m1 _) | ((with_reducible apply op_call_of); rfl; rfl; exact m2 _) | ((with_reducible apply op_call_of); rfl; rfl; exact m3 _) | ((with_reducible apply op_call_of); rfl; rfl; exact m4 _) | ((with_reducible apply op_call_of); rfl; rfl; exact m5 _) | ((with_reducible apply op_call_of); rfl; rfl; exact m6 _) | rfl
         · dsimp only [putV, List.set]; try rfl
         · dsimp only [uni]; try rfl
         · dsimp only [uni]; try rfl)
      | ((with_reducible apply regV_skip)
         · rfl
         · dsimp only [putV, List.set]; try rfl)
      | ((with_reducible apply drawV_go)
         · rfl
         · first | ((with_reducible apply bin_and) <;> rfl) | ((with_reducible apply bin_or) <;> rfl) | ((with_reducible apply bin_ne); rfl; rfl; first | assumption | rfl) | ((with_reducible apply op_call_of); rfl; rfl; exact m1 _) | ((with_reducible apply op_call_of); rfl; rfl; exact m2 _) | ((with_reducible apply op_call_of); rfl; rfl; exact m3 _) | ((with_reducible apply op_call_of); rfl; rfl; exact m4 _) | ((with_reducible apply op_call_of); rfl; rfl; exact m5 _) | ((with_reducible apply op_call_of); rfl; rfl; exact m6 _) | rfl
         · rfl
         · dsimp only [note, allW]; try rfl
         · dsimp only [putV, List.set]; try rfl
         · dsimp only [uni]; try rfl
         · dsimp only [uni]; try rfl)
      | ((with_reducible apply drawV_skip)
         · rfl
         · dsimp only [putV, List.set]; try rfl)
      | with_reducible exact regV_nil rfl
      | with_reducible exact drawV_nil rfl)
    · rfl
    · simp only [refB, g1, g2, g3, g4, g5]; rfl
  simp only [g5] at m5
  apply pure_run (by rfl) (by rfl) (by simp only [List.length_cons, List.length_nil, List.replicate, List.cons_append, List.nil_append]; try rfl)
  · repeat (first
      | with_reducible apply ex_seq
      | with_reducible apply ex_reg
      | with_reducible apply ex_draw
      | with_reducible exact ex_ret
      | with_reducible exact ex_skip
      | with_reducible apply ex_norm
      | with_reducible exact ex_stop
      | ((with_reducible apply ex_true); rfl)
      | ((with_reducible apply ex_false); rfl)
      | ((with_reducible apply regV_go)
         · rfl
         · first | ((with_reducible apply bin_and) <;> rfl) | ((with_reducible apply bin_or) <;> rfl) | ((with_reducible apply bin_ne); rfl; rfl; first | assumption | rfl) | ((with_reducible apply op_call_of); rfl; rfl; exact m1 _) | ((with_reducible apply op_call_of); rfl; rfl; exact m2 _) | ((with_reducible apply op_call_of); rfl; rfl; exact m3 _) | ((with_reducible apply op_call_of); rfl; rfl; exact m4 _) | ((with_reducible apply op_call_of); rfl; rfl; exact m5 _) | ((with_reducible apply op_call_of); rfl; rfl; exact m6 _) | rfl
         · dsimp only [putV, List.set]; try rfl
         · dsimp only [uni]; try rfl
         · dsimp only [uni]; try rfl)
      | ((with_reducible apply regV_skip)
         · rfl
         · dsimp only [putV, List.set]; try rfl)
      | ((with_reducible apply drawV_go)
         · rfl
         · first | ((with_reducible apply bin_and) <;> rfl) | ((with_reducible apply bin_or) <;> rfl) | ((with_reducible apply bin_ne); rfl; rfl; first | assumption | rfl) | ((with_reducible apply op_call_of); rfl; rfl; exact m1 _) | ((with_reducible apply op_call_of); rfl; rfl; exact m2 _) | ((with_reducible apply op_call_of); rfl; rfl; exact m3 _) | ((with_reducible apply op_call_of); rfl; rfl; exact m4 _) | ((with_reducible apply op_call_of); rfl; rfl; exact m5 _) | ((with_reducible apply op_call_of); rfl; rfl; exact m6 _) | rfl
         · rfl
         · dsimp only [note, allW]; try rfl
         · dsimp only [putV, List.set]; try rfl
         · dsimp only [uni]; try rfl
         · dsimp only [uni]; try rfl)
      | ((with_reducible apply drawV_skip)
         · rfl
         · dsimp only [putV, List.set]; try rfl)
      | with_reducible exact regV_nil rfl
      | with_reducible exact drawV_nil rfl)
  · rfl
  · simp only [refB, g1, g2, g3, g4, g5]; rfl
theorem ref11 (k : Nat) (a b : F6) (h : H) : call E0 (k + 9) 11 [a.v, b.v] h = some ⟨.bool (refB a b), h, [], []⟩ :=
  call_pure (by rfl) (by rfl) (by rfl) (by rfl) (body11 k a b (meet26 (k + 2) _ _) (meet26 (k + 2) _ _) (meet26 (k + 2) _ _) (meet26 (k + 2) _ _) (meet26 (k + 2) _ _) (meet26 (k + 2) _ _)) (by rfl)
theorem awake7 (k : Nat) (h : H) : call E0 (k + 1) 7 [] h = some ⟨.bool true, h, [], []⟩ :=
  call_pure (by rfl) (by rfl) (by rfl) (by rfl) (pure_memo (by rfl)) (by rfl)
def lawB (a b : F6) : Bool := if (apartB a b == refB a b) then (apartB a b == apartB b a) else false
theorem body4 {C : FuncId → List V → H → Option Res} (k : Nat) (a b : F6) (c1 : ∀ h, C 10 [a.v, b.v] h = some ⟨.bool (apartB a b), h, [], []⟩) (c2 : ∀ h, C 11 [a.v, b.v] h = some ⟨.bool (refB a b), h, [], []⟩) (c3 : ∀ h, C 10 [b.v, a.v] h = some ⟨.bool (apartB b a), h, [], []⟩) (c4 : ∀ h, C 7 [] h = some ⟨.bool true, h, [], []⟩) : pureBody E0 C (k + 9) 4 [a.v, b.v] = some (.bool (lawB a b)) := by
  cases hg : (apartB a b == refB a b)
  · apply pure_run (by rfl) (by rfl) (by simp only [List.length_cons, List.length_nil, List.replicate, List.cons_append, List.nil_append]; try rfl)
    · repeat (first
      | with_reducible apply ex_seq
      | with_reducible apply ex_reg
      | with_reducible apply ex_draw
      | with_reducible exact ex_ret
      | with_reducible exact ex_skip
      | with_reducible apply ex_norm
      | with_reducible exact ex_stop
      | ((with_reducible apply ex_true); rfl)
      | ((with_reducible apply ex_false); rfl)
      | ((with_reducible apply regV_go)
         · rfl
         · first | ((with_reducible apply bin_and) <;> rfl) | ((with_reducible apply bin_or) <;> rfl) | ((with_reducible apply bin_ne); rfl; rfl; first | assumption | rfl) | ((with_reducible apply op_call_of); rfl; rfl; exact c4 _) | ((with_reducible apply op_call_of); rfl; rfl; exact c1 _) | ((with_reducible apply op_call_of); rfl; rfl; exact c2 _) | ((with_reducible apply op_call_of); rfl; rfl; exact c3 _) | ((with_reducible apply bin_eqb); rfl; rfl; first | assumption | rfl) | rfl
         · dsimp only [putV, List.set]; try rfl
         · dsimp only [uni]; try rfl
         · dsimp only [uni]; try rfl)
      | ((with_reducible apply regV_skip)
         · rfl
         · dsimp only [putV, List.set]; try rfl)
      | ((with_reducible apply drawV_go)
         · rfl
         · first | ((with_reducible apply bin_and) <;> rfl) | ((with_reducible apply bin_or) <;> rfl) | ((with_reducible apply bin_ne); rfl; rfl; first | assumption | rfl) | ((with_reducible apply op_call_of); rfl; rfl; exact c4 _) | ((with_reducible apply op_call_of); rfl; rfl; exact c1 _) | ((with_reducible apply op_call_of); rfl; rfl; exact c2 _) | ((with_reducible apply op_call_of); rfl; rfl; exact c3 _) | ((with_reducible apply bin_eqb); rfl; rfl; first | assumption | rfl) | rfl
         · rfl
         · dsimp only [note, allW]; try rfl
         · dsimp only [putV, List.set]; try rfl
         · dsimp only [uni]; try rfl
         · dsimp only [uni]; try rfl)
      | ((with_reducible apply drawV_skip)
         · rfl
         · dsimp only [putV, List.set]; try rfl)
      | with_reducible exact regV_nil rfl
      | with_reducible exact drawV_nil rfl)
    · rfl
    · simp only [lawB, hg]; rfl
  · apply pure_run (by rfl) (by rfl) (by simp only [List.length_cons, List.length_nil, List.replicate, List.cons_append, List.nil_append]; try rfl)
    · repeat (first
      | with_reducible apply ex_seq
      | with_reducible apply ex_reg
      | with_reducible apply ex_draw
      | with_reducible exact ex_ret
      | with_reducible exact ex_skip
      | with_reducible apply ex_norm
      | with_reducible exact ex_stop
      | ((with_reducible apply ex_true); rfl)
      | ((with_reducible apply ex_false); rfl)
      | ((with_reducible apply regV_go)
         · rfl
         · first | ((with_reducible apply bin_and) <;> rfl) | ((with_reducible apply bin_or) <;> rfl) | ((with_reducible apply bin_ne); rfl; rfl; first | assumption | rfl) | ((with_reducible apply op_call_of); rfl; rfl; exact c4 _) | ((with_reducible apply op_call_of); rfl; rfl; exact c1 _) | ((with_reducible apply op_call_of); rfl; rfl; exact c2 _) | ((with_reducible apply op_call_of); rfl; rfl; exact c3 _) | ((with_reducible apply bin_eqb); rfl; rfl; first | assumption | rfl) | rfl
         · dsimp only [putV, List.set]; try rfl
         · dsimp only [uni]; try rfl
         · dsimp only [uni]; try rfl)
      | ((with_reducible apply regV_skip)
         · rfl
         · dsimp only [putV, List.set]; try rfl)
      | ((with_reducible apply drawV_go)
         · rfl
         · first | ((with_reducible apply bin_and) <;> rfl) | ((with_reducible apply bin_or) <;> rfl) | ((with_reducible apply bin_ne); rfl; rfl; first | assumption | rfl) | ((with_reducible apply op_call_of); rfl; rfl; exact c4 _) | ((with_reducible apply op_call_of); rfl; rfl; exact c1 _) | ((with_reducible apply op_call_of); rfl; rfl; exact c2 _) | ((with_reducible apply op_call_of); rfl; rfl; exact c3 _) | ((with_reducible apply bin_eqb); rfl; rfl; first | assumption | rfl) | rfl
         · rfl
         · dsimp only [note, allW]; try rfl
         · dsimp only [putV, List.set]; try rfl
         · dsimp only [uni]; try rfl
         · dsimp only [uni]; try rfl)
      | ((with_reducible apply drawV_skip)
         · rfl
         · dsimp only [putV, List.set]; try rfl)
      | with_reducible exact regV_nil rfl
      | with_reducible exact drawV_nil rfl)
    · rfl
    · simp only [lawB, hg]; rfl
theorem law4 (k : Nat) (a b : F6) : pureBody E0 (call E0 (k + 9)) (k + 9) 4 [a.v, b.v] = some (.bool (lawB a b)) :=
  body4 k a b (apart10 (k + 2) a b) (ref11 k a b) (apart10 (k + 2) b a) (awake7 (k + 8))
end Go.Proofs.Ytgcehfooibpccaa.Code
