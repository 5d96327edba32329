/- A part of the proof: MiniMemo. No condition. -/
import Derived.Test.YtgknkkdemjjeoaaGreatDoorMiniAll
set_option linter.all false
set_option maxRecDepth 100000
namespace Go.Mini
set_option linter.unusedVariables false
set_option linter.unusedSimpArgs false
variable {P : Program}

/-- are two lists alike, element by element? -/
def beqL {α : Type} (f : α → α → Bool) : List α → List α → Bool
  | [], [] => true
  | x :: xs, y :: ys => f x y && beqL f xs ys
  | _, _ => false
theorem beqL_ok {α : Type} {f : α → α → Bool} (hf : ∀ x y, f x y = true → x = y) : ∀ {l r : List α}, beqL f l r = true → l = r
  | [], [], _ => rfl
  | [], y :: ys, h => by simp [beqL] at h
  | x :: xs, [], h => by simp [beqL] at h
  | x :: xs, y :: ys, h => by
    simp only [beqL, Bool.and_eq_true] at h
    rw [hf x y h.1, beqL_ok hf h.2]

/-- are two values one? -/
def beqV : Nat → V → V → Bool
  | 0, _, _ => false
  | k + 1, a, b => match a, b with
    | .bool a, .bool b => a == b
    | .int k a, .int k' b => kindEq k k' && eqF a b
    | .str a, .str b => beqL (fun (x y : UInt8) => Nat.beq x.toNat y.toNat) a b
    | .undef, .undef | .nilp, .nilp | .nils, .nils | .nilm, .nilm | .nilf, .nilf => true
    | .rp a, .rp b => beqL (beqV k) a b
    | .rs sz a, .rs sz' b => Nat.beq sz sz' && beqL (beqL (beqV k)) a b
    | .fn f a, .fn g b => Nat.beq f g && beqL (beqV k) a b
    | .agg a, .agg b => beqL (beqV k) a b
    | .tup a, .tup b => beqL (beqV k) a b
    | _, _ => false

theorem kindEq_ok {k k' : IntKind} (h : kindEq k k' = true) : k = k' := by cases k <;> cases k' <;> first | rfl | cases h
theorem eqF_ok {a b : Int} (h : eqF a b = true) : a = b := by
  cases a <;> cases b <;> simp only [eqF] at h <;> first | (cases h; done) | (rw [Nat.eq_of_beq_eq_true h])
theorem u8_ok {x y : UInt8} (h : Nat.beq x.toNat y.toNat = true) : x = y := UInt8.toNat_inj.1 (Nat.eq_of_beq_eq_true h)
theorem beqV_ok : ∀ {k : Nat} {a b : V}, beqV k a b = true → a = b
  | 0, a, b, h => by simp [beqV] at h
  | k + 1, a, b, h => by
    have ih : ∀ x y, beqV k x y = true → x = y := fun x y h => beqV_ok h
    cases a <;> cases b <;> simp only [beqV, Bool.and_eq_true] at h <;> try (cases h; done)
    case bool => rw [eq_of_beq h]
    case int => rw [kindEq_ok h.1, eqF_ok h.2]
    case str => rw [beqL_ok (fun x y h => u8_ok h) h]
    case rp => rw [beqL_ok ih h]
    case rs => rw [Nat.eq_of_beq_eq_true h.1, beqL_ok (fun x y h => beqL_ok ih h) h.2]
    case fn => rw [Nat.eq_of_beq_eq_true h.1, beqL_ok ih h.2]
    case agg => rw [beqL_ok ih h]
    case tup => rw [beqL_ok ih h]
    all_goals rfl

/-- known calls -/
def memoOf : List (FuncId × List V × V) → FuncId → List V → Option V
  | [], _, _ => none
  | (g, as, v) :: rest, f, args => bif Nat.beq f g && beqL (beqV 100) args as then some v else memoOf rest f args

def Known (P : Program) (l : List (FuncId × List V × V)) : Prop := ∀ e ∈ l, PureOk P (fun _ => none) e.1 e.2.1 e.2.2
theorem Known.nil : Known P [] := fun e h => by simp at h
theorem Known.cons {e : FuncId × List V × V} {l : List (FuncId × List V × V)} (h : PureOk P (fun _ => none) e.1 e.2.1 e.2.2) (hl : Known P l) : Known P (e :: l) := by
  intro x hx
  rcases List.mem_cons.1 hx with rfl | hx
  · exact h
  · exact hl x hx
theorem memoOf_ok : ∀ {l : List (FuncId × List V × V)}, Known P l → ∀ {f args v}, memoOf l f args = some v → PureOk P (fun _ => none) f args v
  | [], _, f, args, v, h => by simp [memoOf] at h
  | (g, as, u) :: rest, hl, f, args, v, h => by
    simp only [memoOf, cond_eq_ite, Bool.and_eq_true] at h
    split at h
    · rename_i hc; cases h
      have h1 := Nat.eq_of_beq_eq_true hc.1
      have h2 := beqL_ok (fun x y h => beqV_ok h) hc.2
      subst h1 h2
      exact hl (f, args, u) (by simp)
    · exact memoOf_ok (fun e he => hl e (by simp [he])) h

/-! the table of a program's functions -/
theorem tab_node {b : Bool} {x y : Option MFunc} {m : MFunc} {Q : Prop} (h : (bif b then x else y) = some m) (hx : x = some m → Q) (hy : y = some m → Q) : Q := by
  cases b
  · exact hy h
  · exact hx h
theorem tab_leaf {f n : Nat} {m m' : MFunc} {fn : Func} (h : (bif Nat.beq f n then some m' else none) = some m) (hf : P.funcs[n]? = some fn) (hc : compF P fn = some m') : ∃ fn, P.funcs[f]? = some fn ∧ compF P fn = some m := by
  cases hq : Nat.beq f n
  · rw [hq] at h; cases h
  · rw [hq] at h; cases h
    have := Nat.eq_of_beq_eq_true hq
    subst this
    exact ⟨fn, hf, hc⟩

/-- a closed environment -/
def envOf (tab : FuncId → Option MFunc) (mode : FuncId → Mode) (l : List (FuncId × List V × V)) : Env := ⟨tab, mode, memoOf l, fun _ => none⟩
theorem envOf_ok {tab : FuncId → Option MFunc} (ht : ∀ f m, tab f = some m → ∃ fn, P.funcs[f]? = some fn ∧ compF P fn = some m) (mode : FuncId → Mode) {l : List (FuncId × List V × V)} (hl : Known P l) : EnvOk P (envOf tab mode l) :=
  ⟨⟨ht, fun k v h => by cases h⟩, fun f args v h => memoOf_ok hl h⟩

/-- values that lead nowhere, told by a program -/
def low : Nat → V → Bool
  | 0, _ => false
  | k + 1, v => match v with
    | .ptr .. | .os .. => false
    | .rp cs | .fn _ cs | .agg cs | .tup cs => cs.all (low k)
    | .rs _ els => els.all fun el => el.all (low k)
    | _ => true
theorem low_ok : ∀ {k : Nat} {v : V}, low k v = true → VB 0 v
  | 0, v, h => by simp [low] at h
  | k + 1, v, h => by
    cases v <;> simp only [low] at h <;> try (cases h; done)
    case rp cs => exact .rp fun x hx => low_ok (List.all_eq_true.1 h x hx)
    case fn f cs => exact .fn fun x hx => low_ok (List.all_eq_true.1 h x hx)
    case agg cs => exact .agg fun x hx => low_ok (List.all_eq_true.1 h x hx)
    case tup cs => exact .tup fun x hx => low_ok (List.all_eq_true.1 h x hx)
    case rs sz els => exact .rs fun el hel x hx => low_ok (List.all_eq_true.1 (List.all_eq_true.1 h el hel) x hx)
    all_goals constructor

/-- one more known call -/
theorem known_call {tab : FuncId → Option MFunc} (ht : ∀ f m, tab f = some m → ∃ fn, P.funcs[f]? = some fn ∧ compF P fn = some m) (hmix : P.follows .mixedOrders = true) (mode : FuncId → Mode) {l : List (FuncId × List V × V)} (hl : Known P l) (n : Nat) {f : FuncId} {args : List V} {v : V} (ha : args.all (low 100) = true)
    (hx : pureBody (envOf tab mode l) (call (envOf tab mode l) n) n f args = some v) : PureOk P (fun _ => none) f args v :=
  pure_of_call (envOf_ok ht mode hl) hmix (fun x hx => low_ok (List.all_eq_true.1 ha x hx)) hx
end Go.Mini
