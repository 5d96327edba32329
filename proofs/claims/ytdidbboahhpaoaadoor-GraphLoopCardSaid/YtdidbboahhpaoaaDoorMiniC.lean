/- A part of the proof: MiniC. No condition. -/
import Derived.Test.YtdidbboahhpaoaaDoorMiniB
import Derived.Test.YtdidbboahhpaoaaDoorMiniA
import Derived.Carry
import Derived.WalkKit
import Derived.ProofKit
import Derived.Below
import Derived.WideShapes
import Derived.Lib.LaidTab
set_option linter.all false
set_option maxRecDepth 100000
namespace Go.Mini
set_option linter.unusedVariables false
set_option linter.unusedSimpArgs false
variable {P : Program}

/-- are two lists alike, element by element? -/
def beqL {α : Type} (f : α → α → Bool) : List α → List α → Bool
  | [], [] => true
  | x :: xs, y :: ys => f x y && beqL f xs ys
  | _, _ => false
theorem beqL_ok {α : Type} {f : α → α → Bool} (hf : ∀ x y, f x y = true → x = y) : ∀ {l r : List α}, beqL f l r = true → l = r
  | [], [], _ => rfl
  | [], y :: ys, h => by simp [beqL] at h
  | x :: xs, [], h => by simp [beqL] at h
  | x :: xs, y :: ys, h => by
    simp only [beqL, Bool.and_eq_true] at h
    rw [hf x y h.1, beqL_ok hf h.2]

/-- are two values one? -/
def beqV : Nat → V → V → Bool
  | 0, _, _ => false
  | k + 1, a, b => match a, b with
    | .bool a, .bool b => a == b
    | .int k a, .int k' b => kindEq k k' && eqF a b
    | .str a, .str b => beqL (fun (x y : UInt8) => Nat.beq x.toNat y.toNat) a b
    | .undef, .undef | .nilp, .nilp | .nils, .nils | .nilm, .nilm | .nilf, .nilf => true
    | .rp a, .rp b => beqL (beqV k) a b
    | .rs sz a, .rs sz' b => Nat.beq sz sz' && beqL (beqL (beqV k)) a b
    | .fn f a, .fn g b => Nat.beq f g && beqL (beqV k) a b
    | .agg a, .agg b => beqL (beqV k) a b
    | .tup a, .tup b => beqL (beqV k) a b
    | _, _ => false

theorem kindEq_ok {k k' : IntKind} (h : kindEq k k' = true) : k = k' := by cases k <;> cases k' <;> first | rfl | cases h
theorem eqF_ok {a b : Int} (h : eqF a b = true) : a = b := by
  cases a <;> cases b <;> simp only [eqF] at h <;> first | (cases h; done) | (rw [Nat.eq_of_beq_eq_true h])
theorem u8_ok {x y : UInt8} (h : Nat.beq x.toNat y.toNat = true) : x = y := UInt8.toNat_inj.1 (Nat.eq_of_beq_eq_true h)
theorem beqV_ok : ∀ {k : Nat} {a b : V}, beqV k a b = true → a = b
  | 0, a, b, h => by simp [beqV] at h
  | k + 1, a, b, h => by
    have ih : ∀ x y, beqV k x y = true → x = y := fun x y h => beqV_ok h
    cases a <;> cases b <;> simp only [beqV, Bool.and_eq_true] at h <;> try (cases h; done)
    case bool => rw [eq_of_beq h]
    case int => rw [kindEq_ok h.1, eqF_ok h.2]
    case str => rw [beqL_ok (fun x y h => u8_ok h) h]
    case rp => rw [beqL_ok ih h]
    case rs => rw [Nat.eq_of_beq_eq_true h.1, beqL_ok (fun x y h => beqL_ok ih h) h.2]
    case fn => rw [Nat.eq_of_beq_eq_true h.1, beqL_ok ih h.2]
    case agg => rw [beqL_ok ih h]
    case tup => rw [beqL_ok ih h]
    all_goals rfl

/-- known calls -/
def memoOf : List (FuncId × List V × V) → FuncId → List V → Option V
  | [], _, _ => none
  | (g, as, v) :: rest, f, args => bif Nat.beq f g && beqL (beqV 100) args as then some v else memoOf rest f args

def Known (P : Program) (l : List (FuncId × List V × V)) : Prop := ∀ e ∈ l, PureOk P (fun _ => none) e.1 e.2.1 e.2.2
theorem Known.nil : Known P [] := fun e h => by simp at h
theorem Known.cons {e : FuncId × List V × V} {l : List (FuncId × List V × V)} (h : PureOk P (fun _ => none) e.1 e.2.1 e.2.2) (hl : Known P l) : Known P (e :: l) := by
  intro x hx
  rcases List.mem_cons.1 hx with rfl | hx
  · exact h
  · exact hl x hx
theorem memoOf_ok : ∀ {l : List (FuncId × List V × V)}, Known P l → ∀ {f args v}, memoOf l f args = some v → PureOk P (fun _ => none) f args v
  | [], _, f, args, v, h => by simp [memoOf] at h
  | (g, as, u) :: rest, hl, f, args, v, h => by
    simp only [memoOf, cond_eq_ite, Bool.and_eq_true] at h
    split at h
    · rename_i hc; cases h
      have h1 := Nat.eq_of_beq_eq_true hc.1
      have h2 := beqL_ok (fun x y h => beqV_ok h) hc.2
      subst h1 h2
      exact hl (f, args, u) (by simp)
    · exact memoOf_ok (fun e he => hl e (by simp [he])) h

/-! the table of a program's functions -/
theorem tab_node {b : Bool} {x y : Option MFunc} {m : MFunc} {Q : Prop} (h : (bif b then x else y) = some m) (hx : x = some m → Q) (hy : y = some m → Q) : Q := by
  cases b
  · exact hy h
  · exact hx h
theorem tab_leaf {f n : Nat} {m m' : MFunc} {fn : Func} (h : (bif Nat.beq f n then some m' else none) = some m) (hf : P.funcs[n]? = some fn) (hc : compF P fn = some m') : ∃ fn, P.funcs[f]? = some fn ∧ compF P fn = some m := by
  cases hq : Nat.beq f n
  · rw [hq] at h; cases h
  · rw [hq] at h; cases h
    have := Nat.eq_of_beq_eq_true hq
    subst this
    exact ⟨fn, hf, hc⟩

/-- a closed environment -/
def envOf (tab : FuncId → Option MFunc) (mode : FuncId → Mode) (l : List (FuncId × List V × V)) : Env := ⟨tab, mode, memoOf l, fun _ => none⟩
theorem envOf_ok {tab : FuncId → Option MFunc} (ht : ∀ f m, tab f = some m → ∃ fn, P.funcs[f]? = some fn ∧ compF P fn = some m) (mode : FuncId → Mode) {l : List (FuncId × List V × V)} (hl : Known P l) : EnvOk P (envOf tab mode l) :=
  ⟨⟨ht, fun k v h => by cases h⟩, fun f args v h => memoOf_ok hl h⟩

/-- values that lead nowhere, told by a program -/
def low : Nat → V → Bool
  | 0, _ => false
  | k + 1, v => match v with
    | .ptr .. | .os .. | .mp _ => false
    | .rp cs | .fn _ cs | .agg cs | .tup cs => cs.all (low k)
    | .rs _ els => els.all fun el => el.all (low k)
    | _ => true
theorem low_ok : ∀ {k : Nat} {v : V}, low k v = true → VB 0 v
  | 0, v, h => by simp [low] at h
  | k + 1, v, h => by
    cases v <;> simp only [low] at h <;> try (cases h; done)
    case rp cs => exact .rp fun x hx => low_ok (List.all_eq_true.1 h x hx)
    case fn f cs => exact .fn fun x hx => low_ok (List.all_eq_true.1 h x hx)
    case agg cs => exact .agg fun x hx => low_ok (List.all_eq_true.1 h x hx)
    case tup cs => exact .tup fun x hx => low_ok (List.all_eq_true.1 h x hx)
    case rs sz els => exact .rs fun el hel x hx => low_ok (List.all_eq_true.1 (List.all_eq_true.1 h el hel) x hx)
    all_goals constructor

/-- one more known call -/
theorem known_call {tab : FuncId → Option MFunc} (ht : ∀ f m, tab f = some m → ∃ fn, P.funcs[f]? = some fn ∧ compF P fn = some m) (hmix : P.follows .mixedOrders = true) (mode : FuncId → Mode) {l : List (FuncId × List V × V)} (hl : Known P l) (n : Nat) {f : FuncId} {args : List V} {v : V} (ha : args.all (low 100) = true)
    (hx : pureBody (envOf tab mode l) (call (envOf tab mode l) n) n f args = some v) : PureOk P (fun _ => none) f args v :=
  pure_of_call (envOf_ok ht mode hl) hmix (fun x hx => low_ok (List.all_eq_true.1 ha x hx)) hx
end Go.Mini

namespace Go.Mini
set_option linter.unusedVariables false
/-! The same machine, made for the kernel: slots in a tree of projections, forced states. -/
structure B8 (α : Type) where
  a0 : α
  a1 : α
  a2 : α
  a3 : α
  a4 : α
  a5 : α
  a6 : α
  a7 : α
structure T where
  b0 : B8 V
  b1 : B8 V
  b2 : B8 V
  b3 : B8 V
  b4 : B8 V
  b5 : B8 V
  b6 : B8 V
  rest : B8 (B8 (B8 V))

noncomputable section
def fL {α : Type} {β : Type} (l : List β) : (List β → α) → α := List.rec (fun k => k []) (fun x _ ih k => ih fun ys => k (x :: ys)) l
/-- a list of rows, forced -/
def fLL {α β : Type} (l : List (List β)) : (List (List β) → α) → α := List.rec (fun k => k []) (fun x _ ih k => fL x fun x => ih fun ys => k (x :: ys)) l
def fV {α : Type} (v : V) (k : V → α) : α := match v with
  | .agg cs => fL cs fun cs => k (.agg cs)
  | .tup cs => fL cs fun cs => k (.tup cs)
  | .fn f cs => fL cs fun cs => k (.fn f cs)
  | .rs sz els => fL els fun els => k (.rs sz els)
  | .rp cs => fL cs fun cs => k (.rp cs)
  | .str s => fL s fun s => k (.str s)
  | .bool b => match b with | true => k (.bool true) | false => k (.bool false)
  | .int kk n => forceI n fun n => k (.int kk n)
  | .ptr b v i o => forceN b fun b => forceN v fun v => forceN i fun i => forceN o fun o => k (.ptr b v i o)
  | .os b v sz i n c => forceN b fun b => forceN v fun v => forceN i fun i => forceN n fun n => match c with | true => k (.os b v sz i n true) | false => k (.os b v sz i n false)
  | v => k v
/-- operations whose result lies there as it is -/
def still : MOp → Bool
  | .mv _ | .pick _ _ _ | .nilc _ | .extract _ _ | .call _ _ | .store _ _ _ => true
  | _ => false
def fO {α : Type} (o : Ob) (k : Ob → α) : α := match o with
  | .row x => match x with | ⟨sz, els, cur, rd⟩ => fLL els fun els => forceN cur fun cur => forceN rd fun rd => k (.row ⟨sz, els, cur, rd⟩)
  | o => k o
def fH {α : Type} (l : H) : (H → α) → α := List.rec (fun k => k []) (fun x _ ih k => fO x fun x => ih fun ys => k (x :: ys)) l
/-- a heap, forced where an operation has changed it -/
def fHx {α : Type} (w : List Nat) (n : Nat) (l : H) : Nat → (H → α) → α := List.rec (fun _ k => k []) (fun x _ ih i k => bif Nat.ble n i || w.any (Nat.beq i) then fO x fun x => ih (i + 1) fun ys => k (x :: ys) else ih (i + 1) fun ys => k (x :: ys)) l
def uniF {α : Type} (n0 : Nat) (a b : List Nat) (k : List Nat → α) : α := match a with | [] => k b | _ => fL (uni n0 a b) k
end

structure SF where
  t : T
  h : H
  r : List Nat
  w : List Nat
abbrev OF := Option SF

section
variable {α : Type} {R : Type}
def md0 (t : B8 α) (f : α → (α → R) → R) (k : B8 α → R) : R := match t with | ⟨a0, a1, a2, a3, a4, a5, a6, a7⟩ => f a0 fun x => k ⟨x, a1, a2, a3, a4, a5, a6, a7⟩
def st0 (t : B8 α) (x : α) (k : B8 α → R) : R := match t with | ⟨a0, a1, a2, a3, a4, a5, a6, a7⟩ => k ⟨x, a1, a2, a3, a4, a5, a6, a7⟩
def md1 (t : B8 α) (f : α → (α → R) → R) (k : B8 α → R) : R := match t with | ⟨a0, a1, a2, a3, a4, a5, a6, a7⟩ => f a1 fun x => k ⟨a0, x, a2, a3, a4, a5, a6, a7⟩
def st1 (t : B8 α) (x : α) (k : B8 α → R) : R := match t with | ⟨a0, a1, a2, a3, a4, a5, a6, a7⟩ => k ⟨a0, x, a2, a3, a4, a5, a6, a7⟩
def md2 (t : B8 α) (f : α → (α → R) → R) (k : B8 α → R) : R := match t with | ⟨a0, a1, a2, a3, a4, a5, a6, a7⟩ => f a2 fun x => k ⟨a0, a1, x, a3, a4, a5, a6, a7⟩
def st2 (t : B8 α) (x : α) (k : B8 α → R) : R := match t with | ⟨a0, a1, a2, a3, a4, a5, a6, a7⟩ => k ⟨a0, a1, x, a3, a4, a5, a6, a7⟩
def md3 (t : B8 α) (f : α → (α → R) → R) (k : B8 α → R) : R := match t with | ⟨a0, a1, a2, a3, a4, a5, a6, a7⟩ => f a3 fun x => k ⟨a0, a1, a2, x, a4, a5, a6, a7⟩
def st3 (t : B8 α) (x : α) (k : B8 α → R) : R := match t with | ⟨a0, a1, a2, a3, a4, a5, a6, a7⟩ => k ⟨a0, a1, a2, x, a4, a5, a6, a7⟩
def md4 (t : B8 α) (f : α → (α → R) → R) (k : B8 α → R) : R := match t with | ⟨a0, a1, a2, a3, a4, a5, a6, a7⟩ => f a4 fun x => k ⟨a0, a1, a2, a3, x, a5, a6, a7⟩
def st4 (t : B8 α) (x : α) (k : B8 α → R) : R := match t with | ⟨a0, a1, a2, a3, a4, a5, a6, a7⟩ => k ⟨a0, a1, a2, a3, x, a5, a6, a7⟩
def md5 (t : B8 α) (f : α → (α → R) → R) (k : B8 α → R) : R := match t with | ⟨a0, a1, a2, a3, a4, a5, a6, a7⟩ => f a5 fun x => k ⟨a0, a1, a2, a3, a4, x, a6, a7⟩
def st5 (t : B8 α) (x : α) (k : B8 α → R) : R := match t with | ⟨a0, a1, a2, a3, a4, a5, a6, a7⟩ => k ⟨a0, a1, a2, a3, a4, x, a6, a7⟩
def md6 (t : B8 α) (f : α → (α → R) → R) (k : B8 α → R) : R := match t with | ⟨a0, a1, a2, a3, a4, a5, a6, a7⟩ => f a6 fun x => k ⟨a0, a1, a2, a3, a4, a5, x, a7⟩
def st6 (t : B8 α) (x : α) (k : B8 α → R) : R := match t with | ⟨a0, a1, a2, a3, a4, a5, a6, a7⟩ => k ⟨a0, a1, a2, a3, a4, a5, x, a7⟩
def md7 (t : B8 α) (f : α → (α → R) → R) (k : B8 α → R) : R := match t with | ⟨a0, a1, a2, a3, a4, a5, a6, a7⟩ => f a7 fun x => k ⟨a0, a1, a2, a3, a4, a5, a6, x⟩
def st7 (t : B8 α) (x : α) (k : B8 α → R) : R := match t with | ⟨a0, a1, a2, a3, a4, a5, a6, a7⟩ => k ⟨a0, a1, a2, a3, a4, a5, a6, x⟩
def tp0 (t : T) (f : B8 V → (B8 V → R) → R) (k : T → R) : R := match t with | ⟨a0, a1, a2, a3, a4, a5, a6, a7⟩ => f a0 fun x => k ⟨x, a1, a2, a3, a4, a5, a6, a7⟩
def tp1 (t : T) (f : B8 V → (B8 V → R) → R) (k : T → R) : R := match t with | ⟨a0, a1, a2, a3, a4, a5, a6, a7⟩ => f a1 fun x => k ⟨a0, x, a2, a3, a4, a5, a6, a7⟩
def tp2 (t : T) (f : B8 V → (B8 V → R) → R) (k : T → R) : R := match t with | ⟨a0, a1, a2, a3, a4, a5, a6, a7⟩ => f a2 fun x => k ⟨a0, a1, x, a3, a4, a5, a6, a7⟩
def tp3 (t : T) (f : B8 V → (B8 V → R) → R) (k : T → R) : R := match t with | ⟨a0, a1, a2, a3, a4, a5, a6, a7⟩ => f a3 fun x => k ⟨a0, a1, a2, x, a4, a5, a6, a7⟩
def tp4 (t : T) (f : B8 V → (B8 V → R) → R) (k : T → R) : R := match t with | ⟨a0, a1, a2, a3, a4, a5, a6, a7⟩ => f a4 fun x => k ⟨a0, a1, a2, a3, x, a5, a6, a7⟩
def tp5 (t : T) (f : B8 V → (B8 V → R) → R) (k : T → R) : R := match t with | ⟨a0, a1, a2, a3, a4, a5, a6, a7⟩ => f a5 fun x => k ⟨a0, a1, a2, a3, a4, x, a6, a7⟩
def tp6 (t : T) (f : B8 V → (B8 V → R) → R) (k : T → R) : R := match t with | ⟨a0, a1, a2, a3, a4, a5, a6, a7⟩ => f a6 fun x => k ⟨a0, a1, a2, a3, a4, a5, x, a7⟩
def tp7 (t : T) (f : B8 (B8 (B8 V)) → (B8 (B8 (B8 V)) → R) → R) (k : T → R) : R := match t with | ⟨a0, a1, a2, a3, a4, a5, a6, a7⟩ => f a7 fun x => k ⟨a0, a1, a2, a3, a4, a5, a6, x⟩
/-- a digit's way in -/
def pick8 {β : Type} (d : Nat) (f : (B8 α → α) → (B8 α → (α → (α → R) → R) → (B8 α → R) → R) → β) : β := match d with
  | 0 => f (fun t => t.a0) md0
  | 1 => f (fun t => t.a1) md1
  | 2 => f (fun t => t.a2) md2
  | 3 => f (fun t => t.a3) md3
  | 4 => f (fun t => t.a4) md4
  | 5 => f (fun t => t.a5) md5
  | 6 => f (fun t => t.a6) md6
  | _ => f (fun t => t.a7) md7
def leaf8 {β : Type} (d : Nat) (f : (B8 α → α) → (B8 α → α → (B8 α → R) → R) → β) : β := match d with
  | 0 => f (fun t => t.a0) st0
  | 1 => f (fun t => t.a1) st1
  | 2 => f (fun t => t.a2) st2
  | 3 => f (fun t => t.a3) st3
  | 4 => f (fun t => t.a4) st4
  | 5 => f (fun t => t.a5) st5
  | 6 => f (fun t => t.a6) st6
  | _ => f (fun t => t.a7) st7
def top7 {β : Type} (d : Nat) (f : (T → B8 V) → (T → (B8 V → (B8 V → R) → R) → (T → R) → R) → β) : β := match d with
  | 0 => f (fun t => t.b0) tp0
  | 1 => f (fun t => t.b1) tp1
  | 2 => f (fun t => t.b2) tp2
  | 3 => f (fun t => t.b3) tp3
  | 4 => f (fun t => t.b4) tp4
  | 5 => f (fun t => t.b5) tp5
  | _ => f (fun t => t.b6) tp6
end

structure Slot where
  get : T → V
  set : V → T → (T → OF) → OF
def slotOf (i : Nat) : Slot :=
  bif Nat.blt i 56 then top7 (R := OF) (i / 8) fun g m => leaf8 (α := V) (R := OF) (i % 8) fun g' m' =>
    ⟨fun t => g' (g t), fun v t k => m t (fun u k => m' u v k) k⟩
  else pick8 (α := B8 (B8 V)) (R := OF) ((i - 56) / 64) fun g m => pick8 (α := B8 V) (R := OF) ((i - 56) / 8 % 8) fun g' m' => leaf8 (α := V) (R := OF) ((i - 56) % 8) fun g'' m'' =>
    ⟨fun t => g'' (g' (g t.rest)), fun v t k => tp7 t (fun r k => m r (fun u k => m' u (fun w k => m'' w v k) k) k) k⟩

/-- operands, looked up -/
def sO (t : T) : Opd → Opd
  | .t i => .c ((slotOf i).get t)
  | x => x
def sOs (t : T) (l : List Opd) : List Opd := l.map (sO t)
def sOo (t : T) : Option Opd → Option Opd
  | some x => some (sO t x)
  | none => none
def sP (t : T) (l : List (Nat × Nat × Opd)) : List (Nat × Nat × Opd) := l.map fun p => (p.1, p.2.1, sO t p.2.2)
def sOp (t : T) (o : MOp) : MOp :=
  match o with
  | .mv x => .mv (sO t x)
  | .pick c a b => .pick (sO t c) (sO t a) (sO t b)
  | .alloc cells => .alloc cells
  | .box n x => .box n (sO t x)
  | .build zero parts => .build zero (sP t parts)
  | .bslice sz len zero parts => .bslice sz len zero (sP t parts)
  | .load agg a => .load agg (sO t a)
  | .store n a x => .store n (sO t a) (sO t x)
  | .nilc x => .nilc (sO t x)
  | .bin op cmp x y => .bin op cmp (sO t x) (sO t y)
  | .un op x => .un op (sO t x)
  | .convI k x => .convI k (sO t x)
  | .s2b x => .s2b (sO t x)
  | .b2s x => .b2s (sO t x)
  | .mkfn f cap => .mkfn f (sOs t cap)
  | .mkslice sz bytes zero l c => .mkslice sz bytes zero (sO t l) (sO t c)
  | .cut sz x lo hi mx => .cut sz (sO t x) (sOo t lo) (sOo t hi) (sOo t mx)
  | .cutS x lo hi => .cutS (sO t x) (sOo t lo) (sOo t hi)
  | .faddr off x => .faddr off (sO t x)
  | .field agg off x => .field agg off (sO t x)
  | .iaddr sz x ix => .iaddr sz (sO t x) (sO t ix)
  | .iaddrA len sz x ix => .iaddrA len sz (sO t x) (sO t ix)
  | .index x ix => .index (sO t x) (sO t ix)
  | .idxB x ix => .idxB (sO t x) (sO t ix)
  | .mkmap => .mkmap
  | .look ks zk z ok m k => .look ks zk z ok (sO t m) (sO t k)
  | .mput ks m k x => .mput ks (sO t m) (sO t k) (sO t x)
  | .cntB x ix => .cntB (sO t x) (sO t ix)
  | .idxA l g s x ix => .idxA l g s (sO t x) (sO t ix)
  | .extract x i => .extract (sO t x) i
  | .len x => .len (sO t x)
  | .lenS x => .lenS (sO t x)
  | .append sz bytes s x => .append sz bytes (sO t s) (sO t x)
  | .minmax mx xs => .minmax mx (sOs t xs)
  | .call f args => .call (sO t f) (sOs t args)

def heavy : MOp → Bool
  | .alloc _ | .box _ _ | .bslice _ _ _ _ | .store _ _ _ | .s2b _ | .mkslice _ _ _ _ _ | .append _ _ _ _ | .call _ _ => true
  | _ => false

def wantedF (t : T) : Option (Nat × Bool) → Bool
  | none => true
  | some (d, want) => match (slotOf d).get t with
    | .bool b => b == want
    | _ => false

noncomputable section
variable (G : Nat → Option V)
/-- an operation, its kind looked at once -/
structure KOp where
  run : (FuncId → List V → H → Option Res) → T → H → Option Res
def cOp (o : MOp) : KOp :=
  match o with
  | .mv x => ⟨fun C t h => op_mv G [] (sO t x) h⟩
  | .pick c a b => ⟨fun C t h => op_pick G [] (sO t c) (sO t a) (sO t b) h⟩
  | .alloc cells => ⟨fun C t h => op_alloc [] cells h⟩
  | .box n x => ⟨fun C t h => op_box G [] n (sO t x) h⟩
  | .build zero parts => ⟨fun C t h => op_build G [] zero (sP t parts) h⟩
  | .bslice sz len zero parts => ⟨fun C t h => op_bslice G [] sz len zero (sP t parts) h⟩
  | .load agg a => ⟨fun C t h => op_load G [] agg (sO t a) h⟩
  | .store n a x => ⟨fun C t h => op_store G [] n (sO t a) (sO t x) h⟩
  | .nilc x => ⟨fun C t h => op_nilc G [] (sO t x) h⟩
  | .bin op cmp x y => ⟨fun C t h => op_bin G [] op cmp (sO t x) (sO t y) h⟩
  | .un op x => ⟨fun C t h => op_un G [] op (sO t x) h⟩
  | .convI k x => ⟨fun C t h => op_convI G [] k (sO t x) h⟩
  | .s2b x => ⟨fun C t h => op_s2b G [] (sO t x) h⟩
  | .b2s x => ⟨fun C t h => op_b2s G [] (sO t x) h⟩
  | .mkfn f cap => ⟨fun C t h => op_mkfn G [] f (sOs t cap) h⟩
  | .mkslice sz bytes zero l c => ⟨fun C t h => op_mkslice G [] sz bytes zero (sO t l) (sO t c) h⟩
  | .cut sz x lo hi mx => ⟨fun C t h => op_cut G [] sz (sO t x) (sOo t lo) (sOo t hi) (sOo t mx) h⟩
  | .cutS x lo hi => ⟨fun C t h => op_cutS G [] (sO t x) (sOo t lo) (sOo t hi) h⟩
  | .faddr off x => ⟨fun C t h => op_faddr G [] off (sO t x) h⟩
  | .field agg off x => ⟨fun C t h => op_field G [] agg off (sO t x) h⟩
  | .iaddr sz x ix => ⟨fun C t h => op_iaddr G [] sz (sO t x) (sO t ix) h⟩
  | .iaddrA len sz x ix => ⟨fun C t h => op_iaddrA G [] len sz (sO t x) (sO t ix) h⟩
  | .index x ix => ⟨fun C t h => op_index G [] (sO t x) (sO t ix) h⟩
  | .idxB x ix => ⟨fun C t h => op_idxB G [] (sO t x) (sO t ix) h⟩
  | .mkmap => ⟨fun C t h => op_mkmap [] h⟩
  | .look ks zk z ok m k => ⟨fun C t h => op_look G [] ks zk z ok (sO t m) (sO t k) h⟩
  | .mput ks m k x => ⟨fun C t h => op_mput G [] ks (sO t m) (sO t k) (sO t x) h⟩
  | .cntB x ix => ⟨fun C t h => op_cntB G [] (sO t x) (sO t ix) h⟩
  | .idxA l g s x ix => ⟨fun C t h => op_idxA G [] l g s (sO t x) (sO t ix) h⟩
  | .extract x i => ⟨fun C t h => op_extract G [] (sO t x) i h⟩
  | .len x => ⟨fun C t h => op_len G [] (sO t x) h⟩
  | .lenS x => ⟨fun C t h => op_lenS G [] (sO t x) h⟩
  | .append sz bytes s x => ⟨fun C t h => op_append G [] sz bytes (sO t s) (sO t x) h⟩
  | .minmax mx xs => ⟨fun C t h => op_minmax G [] mx (sOs t xs) h⟩
  | .call f args => ⟨fun C t h => op_call G C [] (sO t f) (sOs t args) h⟩
theorem cOp_eq (C : FuncId → List V → H → Option Res) (t : T) (h : H) (o : MOp) : (cOp G o).run C t h = opV G C [] (sOp t o) h := by cases o <;> rfl

/-- how a result is laid down -/
structure KPut where
  run : Nat → Nat → T → List Nat → List Nat → Res → (SF → OF) → OF
def cPut (st hv : Bool) (d : Option Nat) : KPut := match hv with
  | true => match d with
    | some d => match st with
      | true => ⟨fun n n0 t r w x k => match x with | ⟨v, h', r', w'⟩ => (slotOf d).set v t fun t => uniF n0 r' r fun r => uniF n0 w' w fun w => fHx w' n h' 0 fun h' => k ⟨t, h', r, w⟩⟩
      | false => ⟨fun n n0 t r w x k => match x with | ⟨v, h', r', w'⟩ => fV v fun v => (slotOf d).set v t fun t => uniF n0 r' r fun r => uniF n0 w' w fun w => fHx w' n h' 0 fun h' => k ⟨t, h', r, w⟩⟩
    | none => ⟨fun n n0 t r w x k => match x with | ⟨v, h', r', w'⟩ => uniF n0 r' r fun r => uniF n0 w' w fun w => fHx w' n h' 0 fun h' => k ⟨t, h', r, w⟩⟩
  | false => match d with
    | some d => match st with
      | true => ⟨fun n n0 t r w x k => match x with | ⟨v, h', r', w'⟩ => (slotOf d).set v t fun t => uniF n0 r' r fun r => uniF n0 w' w fun w => k ⟨t, h', r, w⟩⟩
      | false => ⟨fun n n0 t r w x k => match x with | ⟨v, h', r', w'⟩ => fV v fun v => (slotOf d).set v t fun t => uniF n0 r' r fun r => uniF n0 w' w fun w => k ⟨t, h', r, w⟩⟩
    | none => ⟨fun n n0 t r w x k => match x with | ⟨v, h', r', w'⟩ => uniF n0 r' r fun r => uniF n0 w' w fun w => k ⟨t, h', r, w⟩⟩
def putF (t : T) (d : Option Nat) (v : V) (k : T → OF) : OF := match d with | some d => (slotOf d).set v t k | none => k t
structure KSt where
  run : (FuncId → List V → H → Option Res) → Nat → SF → (SF → OF) → OF
def cOper (o : MOper) : KSt := match o with
  | ⟨dst, op, guard⟩ => match guard with
    | none => ⟨fun C n0 s k => match (cOp G op).run C s.t s.h with
      | some x => (cPut (still op) (heavy op) dst).run s.h.length n0 s.t s.r s.w x k
      | none => none⟩
    | some g => ⟨fun C n0 s k => bif wantedF s.t (some g) then (match (cOp G op).run C s.t s.h with
        | some x => (cPut (still op) (heavy op) dst).run s.h.length n0 s.t s.r s.w x k
        | none => none)
      else putF s.t dst .undef fun t => k ⟨t, s.h, s.r, s.w⟩⟩
def regF (C : FuncId → List V → H → Option Res) (n0 : Nat) (ms : List MOper) : SF → OF :=
  List.rec (fun s => some s) (fun o _ ih s => (cOper G o).run C n0 s ih) ms
def drawStepF (k : List (Nat × List Nat × List Nat) → SF → OF) (n0 j m : Nat) (fs : List (Nat × List Nat × List Nat)) (s : SF) (st hv : Bool) (d : Option Nat) (x : Option Res) : OF := match x with
  | some x => bif freeAt m x.r (allW s.h x) fs then (cPut st hv d).run s.h.length n0 s.t s.r s.w x (k (note j x.r (allW s.h x) fs)) else none
  | none => none
def drawF (C : FuncId → List V → H → Option Res) (n0 : Nat) (ms : List MOper) : Nat → List Nat → List (Nat × List Nat × List Nat) → SF → OF :=
  List.rec (fun _ _ _ s => some s) (fun o _ ih j masks fs s => match masks with
    | [] => none
    | m :: masks => bif wantedF s.t o.guard then drawStepF (ih (j + 1) masks) n0 j m fs s (still o.op) (heavy o.op) o.dst ((cOp G o.op).run C s.t s.h)
      else putF s.t o.dst .undef fun t => ih (j + 1) masks fs ⟨t, s.h, s.r, s.w⟩) ms
def exSeqF (ex : MCode → SF → Option (Ex × SF)) (b : MCode) (r : Option (Ex × SF)) : Option (Ex × SF) := match r with
  | some (e, s') => match e with
    | .normal => ex b s'
    | _ => r
  | none => none
def exCondF (ex : MCode → SF → Option (Ex × SF)) (a b : MCode) (s : SF) (v : Option V) : Option (Ex × SF) := match v with
  | some v => match v with
    | .bool c => match c with
      | true => ex a s
      | false => ex b s
    | _ => none
  | none => none
def exBlockF (id : Nat) (r : Option (Ex × SF)) : Option (Ex × SF) := match r with
  | some (e, s') => match e with
    | .exit id' => bif Nat.beq id' id then some (.normal, s') else r
    | _ => r
  | none => none
def exRegF (r : OF) : Option (Ex × SF) := match r with
  | some s' => some (.normal, s')
  | none => none
def exStepF (C : FuncId → List V → H → Option Res) (n0 : Nat) (ex : MCode → SF → Option (Ex × SF)) (c : MCode) (s : SF) : Option (Ex × SF) :=
  match c with
  | .skip => some (.normal, s)
  | .ret => some (.ret, s)
  | .exit id => some (.exit id, s)
  | .seq a b => exSeqF ex b (ex a s)
  | .cond c a b => exCondF ex a b s (ev G [] (sO s.t c))
  | .block id c => exBlockF id (ex c s)
  | .loop c => exSeqF ex (.loop c) (ex c s)
  | .reg ops => exRegF (regF G C n0 ops s)
  | .draw ops masks => exRegF (drawF G C n0 ops 0 masks [] s)
def execF (C : FuncId → List V → H → Option Res) (n0 : Nat) (n : Nat) : MCode → SF → Option (Ex × SF) :=
  Nat.rec (fun _ _ => none) (fun _ ih => exStepF G C n0 ih) n
end

/-! the slots that a code names -/
def opdOk (n : Nat) : Opd → Bool
  | .t i => Nat.blt i n
  | _ => true
def slOk (n : Nat) (l : List Nat) : Bool := l.all fun i => Nat.blt i n
def operOk (n : Nat) (o : MOper) : Bool := slOk n o.reads && (match o.dst with | some d => Nat.blt d n | none => true)
def codeOk (n : Nat) : MCode → Bool
  | .seq a b => codeOk n a && codeOk n b
  | .cond c a b => opdOk n c && codeOk n a && codeOk n b
  | .block _ c => codeOk n c
  | .loop c => codeOk n c
  | .reg ops => ops.all (operOk n)
  | .draw ops _ => ops.all (operOk n)
  | _ => true
def resOk (n : Nat) : MRes → Bool
  | .tmp i => Nat.blt i n
  | .cell i _ => Nat.blt i n
def funcOk (m : MFunc) : Bool := Nat.ble m.ntmps 568 && codeOk m.ntmps m.body && m.res.all (resOk m.ntmps)

def T1 : B8 V := ⟨.undef, .undef, .undef, .undef, .undef, .undef, .undef, .undef⟩
def T2 : B8 (B8 V) := ⟨T1, T1, T1, T1, T1, T1, T1, T1⟩
def T3 : B8 (B8 (B8 V)) := ⟨T2, T2, T2, T2, T2, T2, T2, T2⟩
def T0 : T := ⟨⟨.undef, .undef, .undef, .undef, .undef, .undef, .undef, .undef⟩, ⟨.undef, .undef, .undef, .undef, .undef, .undef, .undef, .undef⟩, ⟨.undef, .undef, .undef, .undef, .undef, .undef, .undef, .undef⟩, T1, T1, T1, T1, T3⟩

noncomputable section
def setArgs (l : List V) : Nat → T → (T → OF) → OF := List.rec (fun _ t k => k t) (fun v _ ih i t k => fV v fun v => (slotOf i).set v t fun t => ih (i + 1) t k) l
def resF (h : H) (t : T) : List MRes → Option (List V × List Nat)
  | [] => some ([], [])
  | .tmp i :: rest => match resF h t rest with
    | some (vs, r) => some ((slotOf i).get t :: vs, r)
    | none => none
  | .cell a agg :: rest => match resF h t rest with
    | some (vs, r) => match deref h ((slotOf a).get t) with
      | some (cells, r1) => match loadC agg cells with
        | some v => some (v :: vs, r1 ++ r)
        | none => none
      | none => none
    | none => none
def callResF (n0 : Nat) (keep : Bool) (res : List MRes) (s : SF) : Option Res :=
  match resF s.h s.t res with
  | some (vs, r1) => callOut n0 keep (tupV vs) r1 ⟨[], s.h, s.r, s.w⟩
  | none => none
def callEndF (n0 : Nat) (keep : Bool) (res : List MRes) (r : Option (Ex × SF)) : Option Res := match r with
  | some (e, s) => match e with
    | .exit _ => none
    | _ => callResF n0 keep res s
  | none => none
def fRes (r : Option Res) : Option Res := match r with
  | some x => match x with
    | ⟨v, h, r, w⟩ => fV v fun v => some ⟨v, h, r, w⟩
  | none => none
def callBodyF (E : Env) (C : FuncId → List V → H → Option Res) (n : Nat) (keep : Bool) (args : List V) (h : H) (m : Option MFunc) : Option Res := match m with
  | some fn => bif funcOk fn && Nat.ble args.length fn.ntmps then forceN h.length fun n0 => match setArgs args 0 T0 (fun t => some ⟨t, [], [], []⟩) with
      | some s => callEndF n0 keep fn.res (execF E.G C n0 n fn.body ⟨s.t, h, [], []⟩)
      | none => none
    else none
  | none => none
def pureBodyF (E : Env) (C : FuncId → List V → H → Option Res) (n : Nat) (f : FuncId) (args : List V) : Option V :=
  match E.memo f args with
  | some v => some v
  | none => match callBodyF E C n false args [] (E.fn f) with
    | some x => some x.v
    | none => none
def callStepF (E : Env) (C : FuncId → List V → H → Option Res) (n : Nat) (f : FuncId) (args : List V) (h : H) : Mode → Option Res
  | .frozen => fRes (callBodyF E C n false args h (E.fn f))
  | .keep => fRes (callBodyF E C n true args h (E.fn f))
  | .pure => fRes (callPure (pureBodyF E C n f) h (mapM? (lend h 100) args))
def callF (E : Env) (n : Nat) : FuncId → List V → H → Option Res :=
  Nat.rec (fun _ _ _ => none) (fun n ih f args h => callStepF E ih n f args h (E.mode f)) n
end
end Go.Mini

namespace Go.Mini
set_option linter.unusedVariables false
set_option linter.unusedSimpArgs false
variable {G : Nat → Option V}

theorem fL_eq {α β : Type} : ∀ (l : List β) (k : List β → α), fL l k = k l
  | [], k => rfl
  | x :: xs, k => fL_eq xs fun ys => k (x :: ys)
theorem fLL_eq {α β : Type} : ∀ (l : List (List β)) (k : List (List β) → α), fLL l k = k l
  | [], k => rfl
  | x :: xs, k => by
    show fL x (fun x => fLL xs fun ys => k (x :: ys)) = _
    rw [fL_eq, fLL_eq]
theorem forceN_eq' {α : Type} (n : Nat) (k : Nat → α) : forceN n k = k n := by cases n <;> rfl
theorem fV_eq {α : Type} (v : V) (k : V → α) : fV v k = k v := by
  cases v <;> simp only [fV, fL_eq, forceN_eq', forceI_eq]
  case bool b => cases b <;> rfl
  case os b v sz i n c => cases c <;> rfl
theorem fO_eq {α : Type} (o : Ob) (k : Ob → α) : fO o k = k o := by
  cases o with
  | row x => cases x; simp only [fO, fLL_eq, forceN_eq']
  | mp es => rfl
theorem fHx_eq {α : Type} (w : List Nat) (n : Nat) : ∀ (l : H) (i : Nat) (k : H → α), fHx w n l i k = k l
  | [], i, k => rfl
  | x :: xs, i, k => by
    show (bif Nat.ble n i || w.any (Nat.beq i) then fO x fun x => fHx w n xs (i + 1) fun ys => k (x :: ys) else fHx w n xs (i + 1) fun ys => k (x :: ys)) = _
    rw [fO_eq, fHx_eq w n xs]; cases (Nat.ble n i || w.any (Nat.beq i)) <;> rfl
theorem uniF_eq {α : Type} (n0 : Nat) (a b : List Nat) (k : List Nat → α) : uniF n0 a b k = k (uni n0 a b) := by
  cases a <;> simp [uniF, fL_eq, uni]

/-! slots -/
def getD8 {α : Type} (d : Nat) (t : B8 α) : α := match d with
  | 0 => t.a0 | 1 => t.a1 | 2 => t.a2 | 3 => t.a3 | 4 => t.a4 | 5 => t.a5 | 6 => t.a6 | _ => t.a7
def setD8 {α : Type} (d : Nat) (t : B8 α) (x : α) : B8 α := match d with
  | 0 => { t with a0 := x } | 1 => { t with a1 := x } | 2 => { t with a2 := x } | 3 => { t with a3 := x } | 4 => { t with a4 := x } | 5 => { t with a5 := x } | 6 => { t with a6 := x } | _ => { t with a7 := x }
theorem d8 {P : Nat → Prop} (d : Nat) (hd : d < 8) (h0 : P 0) (h1 : P 1) (h2 : P 2) (h3 : P 3) (h4 : P 4) (h5 : P 5) (h6 : P 6) (h7 : P 7) : P d := by
  match d, hd with
  | 0, _ => exact h0
  | 1, _ => exact h1
  | 2, _ => exact h2
  | 3, _ => exact h3
  | 4, _ => exact h4
  | 5, _ => exact h5
  | 6, _ => exact h6
  | 7, _ => exact h7
theorem get_set8 {α : Type} {d e : Nat} (hd : d < 8) (he : e < 8) (t : B8 α) (x : α) : getD8 e (setD8 d t x) = if e = d then x else getD8 e t := by
  revert e
  refine d8 (P := fun d => ∀ {e : Nat}, e < 8 → getD8 e (setD8 d t x) = if e = d then x else getD8 e t) d hd ?_ ?_ ?_ ?_ ?_ ?_ ?_ ?_ <;> intro e he <;> refine d8 (P := fun e => getD8 e (setD8 _ t x) = if e = _ then x else getD8 e t) e he ?_ ?_ ?_ ?_ ?_ ?_ ?_ ?_ <;> rfl
def topG (d : Nat) (t : T) : B8 V := match d with
  | 0 => t.b0 | 1 => t.b1 | 2 => t.b2 | 3 => t.b3 | 4 => t.b4 | 5 => t.b5 | _ => t.b6
def topS (d : Nat) (t : T) (x : B8 V) : T := match d with
  | 0 => { t with b0 := x } | 1 => { t with b1 := x } | 2 => { t with b2 := x } | 3 => { t with b3 := x } | 4 => { t with b4 := x } | 5 => { t with b5 := x } | _ => { t with b6 := x }
def getI (i : Nat) (t : T) : V := if i < 56 then getD8 (i % 8) (topG (i / 8) t) else getD8 ((i - 56) % 8) (getD8 ((i - 56) / 8 % 8) (getD8 ((i - 56) / 64) t.rest))
def setI (i : Nat) (v : V) (t : T) : T := if i < 56 then topS (i / 8) t (setD8 (i % 8) (topG (i / 8) t) v) else
  { t with rest := setD8 ((i - 56) / 64) t.rest (setD8 ((i - 56) / 8 % 8) (getD8 ((i - 56) / 64) t.rest) (setD8 ((i - 56) % 8) (getD8 ((i - 56) / 8 % 8) (getD8 ((i - 56) / 64) t.rest)) v)) }
theorem pick8_eq {α R β : Type} {d : Nat} (hd : d < 8) (f : (B8 α → α) → (B8 α → (α → (α → R) → R) → (B8 α → R) → R) → β) : pick8 d f = f (getD8 d) (fun t g k => g (getD8 d t) fun x => k (setD8 d t x)) := by
  refine d8 (P := fun d => pick8 d f = f (getD8 d) (fun t g k => g (getD8 d t) fun x => k (setD8 d t x))) d hd ?_ ?_ ?_ ?_ ?_ ?_ ?_ ?_ <;> rfl
theorem leaf8_eq {α R β : Type} {d : Nat} (hd : d < 8) (f : (B8 α → α) → (B8 α → α → (B8 α → R) → R) → β) : leaf8 d f = f (getD8 d) (fun t x k => k (setD8 d t x)) := by
  refine d8 (P := fun d => leaf8 d f = f (getD8 d) (fun t x k => k (setD8 d t x))) d hd ?_ ?_ ?_ ?_ ?_ ?_ ?_ ?_ <;> rfl
theorem d7 {P : Nat → Prop} (d : Nat) (hd : d < 7) (h0 : P 0) (h1 : P 1) (h2 : P 2) (h3 : P 3) (h4 : P 4) (h5 : P 5) (h6 : P 6) : P d := by
  match d, hd with
  | 0, _ => exact h0
  | 1, _ => exact h1
  | 2, _ => exact h2
  | 3, _ => exact h3
  | 4, _ => exact h4
  | 5, _ => exact h5
  | 6, _ => exact h6
theorem top7_eq {R β : Type} {d : Nat} (hd : d < 7) (f : (T → B8 V) → (T → (B8 V → (B8 V → R) → R) → (T → R) → R) → β) : top7 d f = f (topG d) (fun t g k => g (topG d t) fun x => k (topS d t x)) := by
  refine d7 (P := fun d => top7 d f = f (topG d) (fun t g k => g (topG d t) fun x => k (topS d t x))) d hd ?_ ?_ ?_ ?_ ?_ ?_ ?_ <;> rfl
theorem slot_eq {i : Nat} (hi : i < 568) : (slotOf i).get = getI i ∧ ∀ v t k, (slotOf i).set v t k = k (setI i v t) := by
  unfold slotOf
  by_cases h : i < 56
  · have : Nat.blt i 56 = true := by unfold Nat.blt; rw [Nat.ble_eq]; exact h
    rw [this]
    simp only [cond_true]
    rw [top7_eq (by omega), leaf8_eq (by omega)]
    refine ⟨?_, fun v t k => ?_⟩
    · funext t; simp [getI, h]
    · simp [setI, h]
  · have : Nat.blt i 56 = false := by unfold Nat.blt; rw [Bool.eq_false_iff]; intro hb; rw [Nat.ble_eq] at hb; exact h hb
    rw [this]
    simp only [cond_false]
    rw [pick8_eq (by omega), pick8_eq (by omega), leaf8_eq (by omega)]
    refine ⟨?_, fun v t k => ?_⟩
    · funext t; simp [getI, h]
    · simp [setI, h, tp7]
theorem top_set {d e : Nat} (hd : d < 7) (he : e < 7) (t : T) (x : B8 V) : topG e (topS d t x) = (if e = d then x else topG e t) ∧ (topS d t x).rest = t.rest := by
  revert e
  refine d7 (P := fun d => ∀ {e : Nat}, e < 7 → topG e (topS d t x) = (if e = d then x else topG e t) ∧ (topS d t x).rest = t.rest) d hd ?_ ?_ ?_ ?_ ?_ ?_ ?_ <;> intro e he <;> refine d7 (P := fun e => topG e (topS _ t x) = (if e = _ then x else topG e t) ∧ (topS _ t x).rest = t.rest) e he ?_ ?_ ?_ ?_ ?_ ?_ ?_ <;> exact ⟨rfl, rfl⟩
theorem top_rest {d : Nat} (t : T) (r : B8 (B8 (B8 V))) : topG d { t with rest := r } = topG d t := by unfold topG; split <;> rfl
theorem get_set {i j : Nat} (hi : i < 568) (hj : j < 568) (v : V) (t : T) : getI j (setI i v t) = if j = i then v else getI j t := by
  unfold getI setI
  by_cases h1 : i < 56 <;> by_cases h2 : j < 56
  · simp only [h1, h2, if_true]
    rw [(top_set (by omega) (by omega) t _).1]
    by_cases e : j / 8 = i / 8
    · rw [if_pos e, get_set8 (by omega) (by omega)]
      by_cases e2 : j % 8 = i % 8
      · have : j = i := by omega
        simp [e2, this]
      · have : j ≠ i := by intro h; exact e2 (by rw [h])
        simp [e2, this, e]
    · have : j ≠ i := by intro h; exact e (by rw [h])
      simp [e, this]
  · simp only [h1, h2, if_true, if_false]
    rw [(top_set (d := i / 8) (e := 0) (by omega) (by omega) t _).2]
    have : j ≠ i := by omega
    simp [this]
  · simp only [h1, h2, if_true, if_false, top_rest]
    have : j ≠ i := by omega
    simp [this]
  · simp only [h1, h2, if_false]
    rw [get_set8 (by omega) (by omega)]
    by_cases e : (j - 56) / 64 = (i - 56) / 64
    · rw [if_pos e, get_set8 (by omega) (by omega)]
      by_cases e2 : (j - 56) / 8 % 8 = (i - 56) / 8 % 8
      · rw [if_pos e2, get_set8 (by omega) (by omega)]
        by_cases e3 : (j - 56) % 8 = (i - 56) % 8
        · have : j = i := by omega
          simp [this]
        · have : j ≠ i := by intro h; exact e3 (by rw [h])
          simp [e3, this, e2, e]
      · have : j ≠ i := by intro h; exact e2 (by rw [h])
        simp [e2, this, e]
    · have : j ≠ i := by intro h; exact e (by rw [h])
      simp [e, this]

/-! a tree and a list of slots -/
structure RT (n : Nat) (T0 : T) (t : List V) : Prop where
  len : t.length = n
  small : n ≤ 568
  val : ∀ (i : Nat) v, t[i]? = some v → getI i T0 = v
variable {n : Nat} {T0 : T} {t : List V}
theorem RT.get (hT : RT n T0 t) {i : Nat} (hi : i < n) : t[i]? = some ((slotOf i).get T0) := by
  have h1 : i < t.length := by rw [hT.len]; exact hi
  rw [(slot_eq (by have := hT.small; omega)).1, hT.val i t[i] (by simp [h1])]
  simp [h1]
theorem RT.set (hT : RT n T0 t) {i : Nat} (hi : i < n) (v : V) {k : T → OF} {x : SF} (h : (slotOf i).set v T0 k = some x) : ∃ T1, RT n T1 (t.set i v) ∧ k T1 = some x := by
  have hs := hT.small
  rw [(slot_eq (by omega)).2] at h
  refine ⟨_, ⟨by simp [hT.len], hT.small, fun j u hu => ?_⟩, h⟩
  have hj : j < n := by rw [← hT.len]; have := (List.getElem?_eq_some_iff.1 hu).1; simpa using this
  rw [get_set (by omega) (by omega)]
  rw [List.getElem?_set] at hu
  split at hu
  · rename_i e; subst e
    split at hu
    · cases hu; simp
    · cases hu
  · rename_i e
    rw [if_neg (Ne.symm e)]; exact hT.val j u hu

theorem ev_sub (hT : RT n T0 t) {x : Opd} (h : ∀ d ∈ x.slot, d < n) : ev G [] (sO T0 x) = ev G t x := by
  cases x with
  | t i => simp only [sO, ev]; exact (hT.get (h i (by simp [Opd.slot]))).symm
  | c v => rfl
  | g k => rfl
theorem evs_sub (hT : RT n T0 t) : ∀ {xs : List Opd}, (∀ d ∈ slots xs, d < n) → evs G [] (sOs T0 xs) = evs G t xs
  | [], _ => rfl
  | x :: xs, h => by
    simp only [sOs, List.map_cons, evs]
    rw [ev_sub hT (fun d hd => h d (by simp [slots, hd]))]
    have := evs_sub hT (xs := xs) (fun d hd => h d (by simp [slots, hd]))
    simp only [sOs] at this
    rw [this]
theorem evP_sub (hT : RT n T0 t) : ∀ {xs : List (Nat × Nat × Opd)}, (∀ d ∈ slotP xs, d < n) → evP G [] (sP T0 xs) = evP G t xs
  | [], _ => rfl
  | (a, b, x) :: xs, h => by
    simp only [sP, List.map_cons, evP]
    rw [ev_sub hT (fun d hd => h d (by simp [slotP, hd]))]
    have := evP_sub hT (xs := xs) (fun d hd => h d (by simp [slotP, hd]))
    simp only [sP] at this
    rw [this]
theorem bound_sub (hT : RT n T0 t) {df : Nat} {x : Option Opd} (h : ∀ d ∈ slotO x, d < n) : boundOf G [] df (sOo T0 x) = boundOf G t df x := by
  cases x with
  | none => rfl
  | some x => simp only [sOo, boundOf]; rw [ev_sub hT (fun d hd => h d hd)]

theorem opV_sub (hT : RT n T0 t) {C : FuncId → List V → H → Option Res} {m : MOp} {h : H} (hs : ∀ d ∈ m.slots, d < n) : opV G C [] (sOp T0 m) h = opV G C t m h := by
  cases m <;> simp only [opV, sOp] <;> simp only [MOp.slots, List.mem_append] at hs
  case alloc => rfl
  case mv x => unfold op_mv; rw [ev_sub hT hs]
  case box => unfold op_box; rw [ev_sub hT hs]
  case nilc => unfold op_nilc; rw [ev_sub hT hs]
  case un => unfold op_un; rw [ev_sub hT hs]
  case convI => unfold op_convI; rw [ev_sub hT hs]
  case s2b => unfold op_s2b; rw [ev_sub hT hs]
  case b2s => unfold op_b2s; rw [ev_sub hT hs]
  case faddr => unfold op_faddr; rw [ev_sub hT hs]
  case field => unfold op_field; rw [ev_sub hT hs]
  case extract => unfold op_extract; rw [ev_sub hT hs]
  case len => unfold op_len; rw [ev_sub hT hs]
  case lenS => unfold op_lenS; rw [ev_sub hT hs]
  case load => unfold op_load; rw [ev_sub hT hs]
  case pick => unfold op_pick; rw [ev_sub hT (fun d hd => hs d (.inl (.inl hd))), ev_sub hT (fun d hd => hs d (.inl (.inr hd))), ev_sub hT (fun d hd => hs d (.inr hd))]
  case build => unfold op_build; rw [evP_sub hT hs]
  case bslice => unfold op_bslice; rw [evP_sub hT hs]
  case store => unfold op_store; rw [ev_sub hT (fun d hd => hs d (.inl hd)), ev_sub hT (fun d hd => hs d (.inr hd))]
  case bin => unfold op_bin; rw [ev_sub hT (fun d hd => hs d (.inl hd)), ev_sub hT (fun d hd => hs d (.inr hd))]
  case iaddr => unfold op_iaddr; rw [ev_sub hT (fun d hd => hs d (.inl hd)), ev_sub hT (fun d hd => hs d (.inr hd))]
  case iaddrA => unfold op_iaddrA; rw [ev_sub hT (fun d hd => hs d (.inl hd)), ev_sub hT (fun d hd => hs d (.inr hd))]
  case idxA => unfold op_idxA; rw [ev_sub hT (fun d hd => hs d (.inl hd)), ev_sub hT (fun d hd => hs d (.inr hd))]
  case cntB => unfold op_cntB; rw [ev_sub hT (fun d hd => hs d (.inl hd)), ev_sub hT (fun d hd => hs d (.inr hd))]
  case mkmap => rfl
  case look => unfold op_look; rw [ev_sub hT (fun d hd => hs d (.inl hd)), ev_sub hT (fun d hd => hs d (.inr hd))]
  case mput => unfold op_mput; rw [ev_sub hT (fun d hd => hs d (.inl (.inl hd))), ev_sub hT (fun d hd => hs d (.inl (.inr hd))), ev_sub hT (fun d hd => hs d (.inr hd))]
  case idxB => unfold op_idxB; rw [ev_sub hT (fun d hd => hs d (.inl hd)), ev_sub hT (fun d hd => hs d (.inr hd))]
  case index => unfold op_index; rw [ev_sub hT (fun d hd => hs d (.inl hd)), ev_sub hT (fun d hd => hs d (.inr hd))]
  case append => unfold op_append; rw [ev_sub hT (fun d hd => hs d (.inl hd)), ev_sub hT (fun d hd => hs d (.inr hd))]
  case mkslice => unfold op_mkslice; rw [ev_sub hT (fun d hd => hs d (.inl hd)), ev_sub hT (fun d hd => hs d (.inr hd))]
  case mkfn => unfold op_mkfn; rw [evs_sub hT hs]
  case minmax => unfold op_minmax; rw [evs_sub hT hs]
  case call => unfold op_call; rw [ev_sub hT (fun d hd => hs d (.inl hd)), evs_sub hT (fun d hd => hs d (.inr hd))]
  case cut =>
    unfold op_cut
    rw [ev_sub hT (fun d hd => hs d (.inl (.inl (.inl hd))))]
    have h1 := fun df => bound_sub (G := G) (df := df) hT (fun d hd => hs d (.inl (.inl (.inr hd))))
    have h2 := fun df => bound_sub (G := G) (df := df) hT (fun d hd => hs d (.inl (.inr hd)))
    have h3 := fun df => bound_sub (G := G) (df := df) hT (fun d hd => hs d (.inr hd))
    rename_i s x a b c
    have h4 : ∀ v, cutV G [] s v (sOo T0 a) (sOo T0 b) (sOo T0 c) = cutV G t s v a b c := by
      intro v
      unfold cutV
      cases c with
      | none =>
        have h0 : sOo T0 none = none := rfl
        rw [h0] at h3 ⊢
        cases v <;> simp only [h1, h2, h3]
      | some y =>
        have h0 : sOo T0 (some y) = some (sO T0 y) := rfl
        rw [h0] at h3 ⊢
        cases v <;> simp only [h1, h2, h3]
        rename_i sz' els
        cases boundOf G t 0 a <;> cases boundOf G t els.length b <;> rfl
    simp only [h4]
  case cutS =>
    unfold op_cutS
    rw [ev_sub hT (fun d hd => hs d (.inl (.inl hd)))]
    have h1 := fun df => bound_sub (G := G) (df := df) hT (fun d hd => hs d (.inl (.inr hd)))
    have h2 := fun df => bound_sub (G := G) (df := df) hT (fun d hd => hs d (.inr hd))
    simp only [h1, h2]

end Go.Mini

namespace Go.Mini
set_option linter.unusedVariables false
set_option linter.unusedSimpArgs false
variable {G : Nat → Option V} {n : Nat} {T0 : T} {t : List V} {C C' : FuncId → List V → H → Option Res} {n0 : Nat}

def Under (C C' : FuncId → List V → H → Option Res) : Prop := ∀ f args h x, C f args h = some x → C' f args h = some x
theorem opV_le (hC : Under C C') {m : MOp} {h : H} {x : Res} (hx : opV G C t m h = some x) : opV G C' t m h = some x := by
  cases m <;> simp only [opV] at hx ⊢ <;> try exact hx
  unfold op_call at hx ⊢
  split at hx
  · exact hC _ _ _ _ hx
  · cases hx

structure RS (n : Nat) (a : SF) (s : St) : Prop where
  t : RT n a.t s.t
  h : a.h = s.h
  r : a.r = s.r
  w : a.w = s.w

theorem cPut_ok {st hv : Bool} {d : Option Nat} {q : Nat} {r w : List Nat} {x : Res} {k : SF → OF} {y : SF} (hy : (cPut st hv d).run q n0 T0 r w x k = some y) (hT : RT n T0 t) (hd : ∀ e, d = some e → e < n) : ∃ T1, RT n T1 (putV t d x.v) ∧ k ⟨T1, x.h, uni n0 x.r r, uni n0 x.w w⟩ = some y := by
  cases x with
  | mk v h' r' w' =>
    cases st <;> cases hv <;> cases d <;> simp only [cPut, fV_eq, uniF_eq, fHx_eq] at hy
    all_goals first
      | exact ⟨T0, hT, hy⟩
      | (obtain ⟨T1, h1, h2⟩ := hT.set (hd _ rfl) _ hy; exact ⟨T1, h1, h2⟩)
theorem putF_ok {d : Option Nat} {v : V} {k : T → OF} {y : SF} (hy : putF T0 d v k = some y) (hT : RT n T0 t) (hd : ∀ e, d = some e → e < n) : ∃ T1, RT n T1 (putV t d v) ∧ k T1 = some y := by
  cases d with
  | none => exact ⟨T0, hT, hy⟩
  | some d => exact hT.set (hd _ rfl) v hy
theorem wantedF_ok (hT : RT n T0 t) {g : Option (Nat × Bool)} (hg : ∀ d b, g = some (d, b) → d < n) : wantedF T0 g = wantedV t g := by
  cases g with
  | none => rfl
  | some g =>
    obtain ⟨d, b⟩ := g
    simp only [wantedF, wantedV, hT.get (hg d b rfl)]
    cases (slotOf d).get T0 <;> rfl

structure OperIn (n : Nat) (o : MOper) : Prop where
  op : ∀ d ∈ o.op.slots, d < n
  g : ∀ d b, o.guard = some (d, b) → d < n
  d : ∀ e, o.dst = some e → e < n
theorem operOk_in {o : MOper} (h : operOk n o = true) : OperIn n o := by
  simp only [operOk, Bool.and_eq_true, slOk, List.all_eq_true] at h
  obtain ⟨h1, h2⟩ := h
  have hb : ∀ i, Nat.blt i n = true → i < n := fun i hi => by unfold Nat.blt at hi; rw [Nat.ble_eq] at hi; exact hi
  refine ⟨fun d hd => hb d (h1 d ?_), fun d b hg => hb d (h1 d ?_), fun e he => ?_⟩
  · unfold MOper.reads; split <;> simp [hd]
  · unfold MOper.reads; rw [hg]; simp
  · rw [he] at h2; exact hb e h2

theorem cOper_ok (hC : Under C C') {o : MOper} (ho : OperIn n o) {a : SF} {s : St} (hR : RS n a s) {k : SF → OF} {y : SF} (hy : (cOper G o).run C n0 a k = some y) :
    (wantedV s.t o.guard = true ∧ ∃ x, opV G C' s.t o.op s.h = some x ∧ ∃ b, RS n b (regPut n0 s o.dst x) ∧ k b = some y) ∨ (wantedV s.t o.guard = false ∧ ∃ b, RS n b ⟨putV s.t o.dst .undef, s.h, s.r, s.w⟩ ∧ k b = some y) := by
  obtain ⟨dst, op, guard⟩ := o
  have key : ∀ {yy : SF}, (match (cOp G op).run C a.t a.h with
      | some x => (cPut (still op) (heavy op) dst).run a.h.length n0 a.t a.r a.w x k
      | none => none) = some yy → ∃ x, opV G C' s.t op s.h = some x ∧ ∃ b, RS n b (regPut n0 s dst x) ∧ k b = some yy := by
    intro yy hyy
    split at hyy
    · rename_i x hx
      rw [cOp_eq, opV_sub hR.t ho.op, hR.h] at hx
      obtain ⟨T1, h1, h2⟩ := cPut_ok hyy hR.t ho.d
      refine ⟨x, opV_le hC hx, _, ⟨h1, rfl, ?_, ?_⟩, h2⟩
      · simp [regPut, hR.r]
      · simp [regPut, hR.w]
    · cases hyy
  cases guard with
  | none => exact .inl ⟨rfl, key hy⟩
  | some g =>
    have hw := wantedF_ok hR.t ho.g
    have hy' : (bif wantedF a.t (some g) then (match (cOp G op).run C a.t a.h with
        | some x => (cPut (still op) (heavy op) dst).run a.h.length n0 a.t a.r a.w x k
        | none => none)
      else putF a.t dst .undef fun t => k ⟨t, a.h, a.r, a.w⟩) = some y := hy
    rw [hw] at hy'
    cases hq : wantedV s.t (some g)
    · rw [hq] at hy'
      obtain ⟨T1, h1, h2⟩ := putF_ok hy' hR.t ho.d
      exact .inr ⟨rfl, ⟨T1, a.h, a.r, a.w⟩, ⟨h1, hR.h, hR.r, hR.w⟩, h2⟩
    · rw [hq] at hy'
      exact .inl ⟨rfl, key hy'⟩

theorem regF_ok (hC : Under C C') : ∀ {ms : List MOper} {a y : SF} {s : St}, (∀ o ∈ ms, OperIn n o) → RS n a s → regF G C n0 ms a = some y → ∃ s', regV G C' n0 ms s = some s' ∧ RS n y s'
  | [], a, y, s, _, hR, h => by cases h; exact ⟨s, rfl, hR⟩
  | o :: ms, a, y, s, ho, hR, h => by
    have h' : (cOper G o).run C n0 a (regF G C n0 ms) = some y := h
    rcases cOper_ok hC (ho o (by simp)) hR h' with ⟨h1, x, h2, b, h3, h4⟩ | ⟨h1, b, h3, h4⟩
    · obtain ⟨s', h5, h6⟩ := regF_ok hC (fun o' h => ho o' (by simp [h])) h3 h4
      exact ⟨s', by simp only [regV, h1, h2, cond_true, regStep]; exact h5, h6⟩
    · obtain ⟨s', h5, h6⟩ := regF_ok hC (fun o' h => ho o' (by simp [h])) h3 h4
      exact ⟨s', by simp only [regV, h1, cond_false]; exact h5, h6⟩
theorem drawF_ok (hC : Under C C') : ∀ {ms : List MOper} {j : Nat} {masks : List Nat} {fs : List (Nat × List Nat × List Nat)} {a y : SF} {s : St}, (∀ o ∈ ms, OperIn n o) → RS n a s → drawF G C n0 ms j masks fs a = some y → ∃ s', drawV G C' n0 ms j masks fs s = some s' ∧ RS n y s'
  | [], j, masks, fs, a, y, s, _, hR, h => by cases h; exact ⟨s, by simp [drawV], hR⟩
  | o :: ms, j, [], fs, a, y, s, ho, hR, h => by cases h
  | o :: ms, j, m :: masks, fs, a, y, s, ho, hR, h => by
    have ho1 := ho o (by simp)
    have h' : (bif wantedF a.t o.guard then drawStepF (drawF G C n0 ms (j + 1) masks) n0 j m fs a (still o.op) (heavy o.op) o.dst ((cOp G o.op).run C a.t a.h)
      else putF a.t o.dst .undef fun t => drawF G C n0 ms (j + 1) masks fs ⟨t, a.h, a.r, a.w⟩) = some y := h
    rw [wantedF_ok hR.t ho1.g] at h'
    cases hq : wantedV s.t o.guard
    · rw [hq] at h'
      obtain ⟨T1, h1, h2⟩ := putF_ok h' hR.t ho1.d
      obtain ⟨s', h5, h6⟩ := drawF_ok hC (ms := ms) (a := ⟨T1, a.h, a.r, a.w⟩) (s := ⟨putV s.t o.dst .undef, s.h, s.r, s.w⟩) (fun o' h => ho o' (by simp [h])) ⟨h1, hR.h, hR.r, hR.w⟩ h2
      exact ⟨s', by simp only [drawV, hq, cond_false]; exact h5, h6⟩
    · rw [hq] at h'
      simp only [cond_true] at h'
      unfold drawStepF at h'
      split at h'
      · rename_i x hx
        rw [cOp_eq, opV_sub hR.t ho1.op, hR.h] at hx
        simp only [cond_eq_ite, hR.h] at h'
        split at h'
        · rename_i hf
          obtain ⟨T1, h1, h2⟩ := cPut_ok h' hR.t ho1.d
          obtain ⟨s', h5, h6⟩ := drawF_ok hC (ms := ms) (s := regPut n0 s o.dst x) (fun o' h => ho o' (by simp [h])) ⟨h1, rfl, by simp [regPut, hR.r], by simp [regPut, hR.w]⟩ h2
          exact ⟨s', by simp only [drawV, hq, cond_true, opV_le hC hx, drawStep, cond_eq_ite, hf, if_true]; exact h5, h6⟩
        · cases h'
      · cases h'
end Go.Mini

namespace Go.Mini
set_option linter.unusedVariables false
set_option linter.unusedSimpArgs false
variable {G : Nat → Option V} {n : Nat} {t : List V} {C C' : FuncId → List V → H → Option Res} {n0 : Nat} {h : H}

theorem execF_ok (hC : Under C C') : ∀ {k : Nat} {mc : MCode} {a y : SF} {s : St} {e : Ex}, codeOk n mc = true → RS n a s → execF G C n0 k mc a = some (e, y) → ∃ s', exec G C' n0 k mc s = some (e, s') ∧ RS n y s'
  | 0, mc, a, y, s, e, _, _, h => by cases h
  | k + 1, mc, a, y, s, e, hk, hR, h => by
    have h' : exStepF G C n0 (execF G C n0 k) mc a = some (e, y) := h
    have seq : ∀ {c d : MCode}, codeOk n c = true → codeOk n d = true → exSeqF (execF G C n0 k) d (execF G C n0 k c a) = some (e, y) → ∃ s', exSeq (exec G C' n0 k) d (exec G C' n0 k c s) = some (e, s') ∧ RS n y s' := by
      intro c d hc hd hs
      unfold exSeqF at hs
      split at hs
      · rename_i e1 y1 h1
        obtain ⟨s1, g1, g2⟩ := execF_ok hC hc hR h1
        rw [g1]
        split at hs
        · obtain ⟨s2, g3, g4⟩ := execF_ok hC hd g2 hs
          exact ⟨s2, g3, g4⟩
        · rename_i hne
          rw [h1] at hs
          cases hs
          refine ⟨s1, ?_, g2⟩
          unfold exSeq
          cases e with
          | normal => exact (hne rfl).elim
          | exit id => rfl
          | ret => rfl
      · cases hs
    simp only [exec]
    cases mc <;> simp only [exStepF] at h' <;> simp only [exStep] <;> simp only [codeOk, Bool.and_eq_true] at hk
    case skip => cases h'; exact ⟨s, rfl, hR⟩
    case ret => cases h'; exact ⟨s, rfl, hR⟩
    case exit id => cases h'; exact ⟨s, rfl, hR⟩
    case seq c d => exact seq hk.1 hk.2 h'
    case loop c => exact seq hk (by simpa [codeOk] using hk) h'
    case cond x c d =>
      have hx : ∀ i ∈ x.slot, i < n := by
        intro i hi
        have h1 := hk.1.1
        cases x with
        | t j =>
          simp [Opd.slot] at hi; subst hi
          simp only [opdOk] at h1; unfold Nat.blt at h1; rw [Nat.ble_eq] at h1; exact h1
        | c v => simp [Opd.slot] at hi
        | g v => simp [Opd.slot] at hi
      rw [ev_sub hR.t hx] at h'
      unfold exCondF at h'
      split at h'
      · rename_i v hv
        rw [hv]
        split at h'
        · split at h'
          · obtain ⟨s1, g1, g2⟩ := execF_ok hC hk.1.2 hR h'; exact ⟨s1, g1, g2⟩
          · obtain ⟨s1, g1, g2⟩ := execF_ok hC hk.2 hR h'; exact ⟨s1, g1, g2⟩
        · cases h'
      · cases h'
    case block id c =>
      unfold exBlockF at h'
      split at h'
      · rename_i e1 y1 h1
        obtain ⟨s1, g1, g2⟩ := execF_ok hC hk hR h1
        rw [g1]
        split at h'
        · rename_i id'
          simp only [exBlock]
          cases hq : Nat.beq id' id
          · rw [hq, h1] at h'; cases h'
            have : id' ≠ id := by intro hh; subst hh; simp at hq
            exact ⟨s1, by rw [if_neg this], g2⟩
          · rw [hq] at h'; cases h'
            have := Nat.eq_of_beq_eq_true hq
            exact ⟨s1, by rw [if_pos this], g2⟩
        · rename_i hne
          rw [h1] at h'; cases h'
          refine ⟨s1, ?_, g2⟩
          unfold exBlock
          cases e with
          | normal => rfl
          | exit id' => exact (hne id' rfl).elim
          | ret => rfl
      · cases h'
    case reg ops =>
      unfold exRegF at h'
      split at h'
      · rename_i y1 h1; cases h'
        obtain ⟨s1, g1, g2⟩ := regF_ok hC (fun o ho => operOk_in (List.all_eq_true.1 hk o ho)) hR h1
        exact ⟨s1, by rw [g1]; rfl, g2⟩
      · cases h'
    case draw ops masks =>
      unfold exRegF at h'
      split at h'
      · rename_i y1 h1; cases h'
        obtain ⟨s1, g1, g2⟩ := drawF_ok hC (fun o ho => operOk_in (List.all_eq_true.1 hk o ho)) hR h1
        exact ⟨s1, by rw [g1]; rfl, g2⟩
      · cases h'

/-! arguments and results -/
theorem undef8 {d : Nat} (hd : d < 8) : getD8 d T1 = .undef := by
  refine d8 (P := fun d => getD8 d T1 = .undef) d hd ?_ ?_ ?_ ?_ ?_ ?_ ?_ ?_ <;> rfl
theorem getI_T0 {i : Nat} (hi : i < 568) : getI i T0 = .undef := by
  unfold getI
  split
  · have h1 : topG (i / 8) T0 = T1 := by
      refine d7 (P := fun d => topG d T0 = T1) (i / 8) (by omega) ?_ ?_ ?_ ?_ ?_ ?_ ?_ <;> rfl
    rw [h1]; exact undef8 (by omega)
  · have h1 : getD8 ((i - 56) / 64) T0.rest = T2 := by
      refine d8 (P := fun d => getD8 d T0.rest = T2) _ (by omega) ?_ ?_ ?_ ?_ ?_ ?_ ?_ ?_ <;> rfl
    have h2 : getD8 ((i - 56) / 8 % 8) T2 = T1 := by
      refine d8 (P := fun d => getD8 d T2 = T1) _ (by omega) ?_ ?_ ?_ ?_ ?_ ?_ ?_ ?_ <;> rfl
    rw [h1, h2]; exact undef8 (by omega)
theorem rt_T0 (hn : n ≤ 568) : RT n T0 (List.replicate n .undef) := by
  refine ⟨by simp, hn, fun i v hv => ?_⟩
  obtain ⟨h1, rfl⟩ := List.getElem?_eq_some_iff.1 hv
  simp at h1
  simp [getI_T0 (show i < 568 by omega)]
def setsV (t : List V) : Nat → List V → List V
  | _, [] => t
  | i, v :: l => setsV (t.set i v) (i + 1) l
theorem setArgs_ok : ∀ {l : List V} {i : Nat} {T' : T} {t : List V} {k : T → OF} {y : SF}, RT n T' t → i + l.length ≤ n → setArgs l i T' k = some y → ∃ T1, RT n T1 (setsV t i l) ∧ k T1 = some y
  | [], i, T', t, k, y, hT, _, h => ⟨T', hT, h⟩
  | v :: l, i, T', t, k, y, hT, hn, h => by
    have h' : (fV v fun v => (slotOf i).set v T' fun t => setArgs l (i + 1) t k) = some y := h
    rw [fV_eq] at h'
    simp at hn
    obtain ⟨T1, h1, h2⟩ := hT.set (i := i) (by omega) v h'
    exact setArgs_ok (l := l) h1 (by omega) h2
theorem setsV_eq : ∀ {l pre : List V} {k : Nat}, l.length ≤ k → setsV (pre ++ List.replicate k .undef) pre.length l = pre ++ l ++ List.replicate (k - l.length) .undef
  | [], pre, k, _ => by simp [setsV]
  | v :: l, pre, k, hk => by
    simp at hk
    obtain ⟨k', rfl⟩ : ∃ k', k = k' + 1 := ⟨k - 1, by omega⟩
    have h1 : (pre ++ List.replicate (k' + 1) V.undef).set pre.length v = (pre ++ [v]) ++ List.replicate k' .undef := by
      rw [List.set_append_right _ _ (Nat.le_refl _)]; simp [List.replicate_succ]
    have h2 := setsV_eq (l := l) (pre := pre ++ [v]) (k := k') (by omega)
    simp only [setsV, h1]
    rw [show pre.length + 1 = (pre ++ [v]).length by simp, h2]
    simp
theorem resF_ok {T' : T} (hT : RT n T' t) : ∀ {ms : List MRes} {x : List V × List Nat}, ms.all (resOk n) = true → resF h T' ms = some x → resV h t ms = some x
  | [], x, _, hx => hx
  | .tmp i :: ms, x, hm, hx => by
    simp only [List.all_cons, Bool.and_eq_true, resOk] at hm
    have hi : i < n := by have := hm.1; unfold Nat.blt at this; rw [Nat.ble_eq] at this; exact this
    simp only [resF] at hx
    split at hx
    · rename_i vs r h1; cases hx
      simp only [resV, hT.get hi, resF_ok hT hm.2 h1]
    · cases hx
  | .cell i agg :: ms, x, hm, hx => by
    simp only [List.all_cons, Bool.and_eq_true, resOk] at hm
    have hi : i < n := by have := hm.1; unfold Nat.blt at this; rw [Nat.ble_eq] at this; exact this
    simp only [resF] at hx
    split at hx
    · rename_i vs r h1
      split at hx
      · rename_i cells r1 h2
        split at hx
        · rename_i v h3; cases hx
          simp only [resV, hT.get hi, resF_ok hT hm.2 h1, h2, h3]
        · cases hx
      · cases hx
    · cases hx

theorem callOut_same {keep : Bool} {v : V} {r1 : List Nat} {t t' : List V} {h : H} {r w : List Nat} : callOut n0 keep v r1 ⟨t, h, r, w⟩ = callOut n0 keep v r1 ⟨t', h, r, w⟩ := rfl
theorem fRes_eq (r : Option Res) : fRes r = r := by
  cases r with
  | none => rfl
  | some x => cases x; simp only [fRes, fV_eq]

theorem callBodyF_ok (hC : Under C C') {E : Env} {k : Nat} {keep : Bool} {args : List V} {m : Option MFunc} {x : Res} (hx : callBodyF E C k keep args h m = some x) : callBody E C' k keep args h m = some x := by
  unfold callBodyF at hx
  split at hx
  · rename_i fn
    simp only [cond_eq_ite] at hx
    split at hx
    · rename_i hok
      simp only [Bool.and_eq_true] at hok
      obtain ⟨ho, ha⟩ := hok
      simp only [funcOk, Bool.and_eq_true, Nat.ble_eq] at ho
      rw [Nat.ble_eq] at ha
      rw [forceN_eq'] at hx
      split at hx
      · rename_i s0 hs
        obtain ⟨T1, h1, h2⟩ := setArgs_ok (rt_T0 ho.1.1) (by simpa using ha) hs
        cases h2
        have hset := setsV_eq (l := args) (pre := []) (k := fn.ntmps) ha
        simp at hset
        rw [hset] at h1
        simp only [callBody]
        unfold callEndF at hx
        split at hx
        · rename_i e y hy
          obtain ⟨s', g1, g2⟩ := execF_ok (s := ⟨args ++ List.replicate (fn.ntmps - args.length) .undef, h, [], []⟩) hC ho.1.2 ⟨h1, rfl, rfl, rfl⟩ hy
          rw [g1]
          have fin : callResF h.length keep fn.res y = some x → callRes h.length keep fn.res s' = some x := by
            intro hr
            unfold callResF at hr
            split at hr
            · rename_i vs r1 hv
              rw [g2.h] at hv
              unfold callRes
              rw [resF_ok g2.t ho.2 hv]
              rw [g2.h, g2.r, g2.w] at hr
              exact hr
            · cases hr
          split at hx
          · cases hx
          · rename_i hne
            cases e with
            | normal => exact fin hx
            | exit id => exact (hne id rfl).elim
            | ret => exact fin hx
        · cases hx
      · cases hx
    · cases hx
  · cases hx

theorem pureBodyF_ok (hC : Under C C') {E : Env} {k : Nat} {f : FuncId} {args : List V} {v : V} (hx : pureBodyF E C k f args = some v) : pureBody E C' k f args = some v := by
  unfold pureBodyF at hx
  unfold pureBody
  split at hx
  · rename_i heq; rw [heq]; exact hx
  · rename_i heq
    rw [heq]
    split at hx
    · rename_i x hb; cases hx
      simp only []
      rw [callBodyF_ok hC hb]
    · cases hx

theorem callF_ok {E : Env} : ∀ k, Under (callF E k) (call E k)
  | 0 => fun f args h x hx => by cases hx
  | k + 1 => fun f args h x hx => by
    have ih := callF_ok (E := E) k
    have hx' : callStepF E (callF E k) k f args h (E.mode f) = some x := hx
    simp only [call]
    unfold callStepF at hx'
    split at hx'
    · rename_i hm; rw [hm]; rw [fRes_eq] at hx'; exact callBodyF_ok ih hx'
    · rename_i hm; rw [hm]; rw [fRes_eq] at hx'; exact callBodyF_ok ih hx'
    · rename_i hm; rw [hm]; rw [fRes_eq] at hx'
      simp only [callStep]
      unfold callPure at hx' ⊢
      split at hx'
      · rename_i as
        split at hx'
        · rename_i v hv
          rw [pureBodyF_ok ih hv]
          exact hx'
        · cases hx'
      · cases hx'

/-- one more known call, by the kernel's machine -/
theorem known_fast {P : Program} {tab : FuncId → Option MFunc} (ht : ∀ f m, tab f = some m → ∃ fn, P.funcs[f]? = some fn ∧ compF P fn = some m) (hmix : P.follows .mixedOrders = true) (mode : FuncId → Mode) {l : List (FuncId × List V × V)} (hl : Known P l) (k : Nat) {f : FuncId} {args : List V} {v : V} (ha : args.all (low 100) = true)
    (hx : pureBodyF (envOf tab mode l) (callF (envOf tab mode l) k) k f args = some v) : PureOk P (fun _ => none) f args v :=
  known_call ht hmix mode hl k ha (pureBodyF_ok (callF_ok k) hx)
end Go.Mini

namespace Go.Mini
set_option linter.unusedVariables false
set_option linter.unusedSimpArgs false
variable {P : Program}

def hasF (h : TypeId → List V → Prop) : List Field → List V → Prop
  | [], xs => xs = []
  | f :: fs, xs => ∃ a b, xs = a ++ b ∧ h f.type a ∧ hasF h fs b
/-- cells of a type -/
def hasT (P : Program) : Nat → TypeId → List V → Prop
  | 0, _, _ => False
  | k + 1, t, xs => match P.underlying t with
    | some .bool => ∃ b, xs = [.bool b]
    | some (.int kd) => ∃ n, xs = [.int kd n] ∧ kd.min ≤ n ∧ n ≤ kd.max
    | some .string => ∃ s, xs = [.str s]
    | some (.slice e) => xs = [.nils] ∨ ∃ els, xs = [.rs (P.cellsOf e) els] ∧ els.length ≤ 9223372036854775807 ∧ ∀ el ∈ els, hasT P k e el
    | some (.struct fs) => hasF (hasT P k) fs.toList xs
    | _ => False
def contF (P : Program) : List Field → Nat → Option Nat
  | [], n => some n
  | f :: fs, n => if f.offset = n then contF P fs (n + P.cellsOf f.type) else none
/-- types of which this speaks -/
def simpleT (P : Program) : Nat → TypeId → Bool
  | 0, _ => false
  | k + 1, t => match P.underlying t with
    | some .bool | some (.int _) | some .string => true
    | some (.slice e) => simpleT P k e
    | some (.struct fs) => (contF P fs.toList 0 == some (P.cellsOf t)) && fs.toList.all fun f => simpleT P k f.type
    | _ => false

theorem mapM_some {α β : Type} {f : α → Option β} : ∀ {l : List α} {r : List β}, l.mapM f = some r → r.length = l.length ∧ ∀ (i : Nat) x, l[i]? = some x → f x = r[i]?
  | [], r, h => by
    simp at h; subst h
    exact ⟨rfl, fun i x hx => by simp at hx⟩
  | a :: l, r, h => by
    rw [List.mapM_cons] at h
    rcases ha : f a with _ | b
    · rw [ha] at h; simp at h
    rw [ha] at h
    rcases hl : l.mapM f with _ | r'
    · rw [hl] at h; simp at h
    rw [hl] at h
    simp at h; subst h
    obtain ⟨h1, h2⟩ := mapM_some hl
    refine ⟨by simp [h1], fun i x hx => ?_⟩
    cases i with
    | zero => simp at hx; subst hx; simp [ha]
    | succ i => simp at hx ⊢; exact h2 i x hx
theorem cells_some {w : World} {a : Addr} {n : Nat} {l : List Value} (h : w.cells? 0 a n = some l) : l.length = n ∧ ∀ i, i < n → w.cell? (a.add i) = l[i]? := by
  unfold World.cells? at h
  rw [if_pos (Nat.zero_le _)] at h
  obtain ⟨h1, h2⟩ := mapM_some h
  rw [List.length_range] at h1
  exact ⟨h1, fun i hi => h2 i i (by rw [List.getElem?_range hi])⟩

/-- values cell by cell -/
def VRc (w : World) (xs : List V) (cs : List Value) : Prop := xs.length = cs.length ∧ (∀ (i : Nat) x c, xs[i]? = some x → cs[i]? = some c → VR noF w noPhi x c) ∧ ∀ x ∈ xs, x.isCell = true
theorem VRc.nil {w : World} : VRc w [] [] := ⟨rfl, fun i x c h => by simp at h, fun x h => by simp at h⟩
theorem VRc.one {w : World} {x : V} {c : Value} (h : VR noF w noPhi x c) (hc : x.isCell = true) : VRc w [x] [c] := by
  refine ⟨rfl, fun i y d hy hd => ?_, fun y hy => by simp at hy; subst hy; exact hc⟩
  cases i with
  | zero => simp at hy hd; subst hy hd; exact h
  | succ i => simp at hy
theorem VRc.app {w : World} {xs ys : List V} {cs ds : List Value} (h : VRc w xs cs) (k : VRc w ys ds) : VRc w (xs ++ ys) (cs ++ ds) := by
  obtain ⟨h1, h2, h3⟩ := h
  obtain ⟨k1, k2, k3⟩ := k
  refine ⟨by simp [h1, k1], fun i x c hx hc => ?_, fun x hx => ?_⟩
  · rw [List.getElem?_append] at hx hc
    by_cases hi : i < xs.length
    · rw [if_pos hi] at hx; rw [if_pos (by omega)] at hc; exact h2 i x c hx hc
    · rw [if_neg hi] at hx; rw [if_neg (by omega), ← h1] at hc; exact k2 _ x c hx hc
  · rcases List.mem_append.1 hx with hx | hx
    · exact h3 x hx
    · exact k3 x hx

section
variable {H : Type} {enc : TypeId × Value → H} {w : World} {sp : Nat → Bool} {held : Bool}
theorem fields_open {k fuel : Nat} (ih : ∀ {t : TypeId} {cs : List Value} {d : DataW H} {ps : List MemPlace}, simpleT P k t = true → DataW.trod enc P w 0 sp held fuel t cs = some (d, ps) → ∃ xs, VRc w xs cs ∧ hasT P k t xs) {cs : List Value} {m : Nat} :
    ∀ {fs : List Field} {n : Nat} {r : List (DataW H × List MemPlace)}, contF P fs n = some m → cs.length = m → n ≤ m → (fs.all fun f => simpleT P k f.type) = true →
      fs.mapM (fun f => DataW.trod enc P w 0 sp held fuel f.type ((cs.drop f.offset).take (P.cellsOf f.type))) = some r → ∃ xs, VRc w xs (cs.drop n) ∧ hasF (hasT P k) fs xs
  | [], n, r, hc, hl, hn, hs, h => by
    simp only [contF, Option.some.injEq] at hc; subst hc
    refine ⟨[], ?_, rfl⟩
    rw [List.drop_of_length_le (by omega)]; exact .nil
  | f :: fs, n, r, hc, hl, hn, hs, h => by
    simp only [contF] at hc
    split at hc
    · rename_i ho
      simp only [List.all_cons, Bool.and_eq_true] at hs
      rw [List.mapM_cons] at h
      rcases ha : DataW.trod enc P w 0 sp held fuel f.type ((cs.drop f.offset).take (P.cellsOf f.type)) with _ | ⟨d, ps⟩
      · rw [ha] at h; simp at h
      rw [ha] at h
      rcases hr : fs.mapM (fun f => DataW.trod enc P w 0 sp held fuel f.type ((cs.drop f.offset).take (P.cellsOf f.type))) with _ | r'
      · rw [hr] at h; simp at h
      have hle : n + P.cellsOf f.type ≤ m := by
        have : ∀ {fs : List Field} {n m : Nat}, contF P fs n = some m → n ≤ m := by
          intro fs; induction fs with
          | nil => intro n m h; simp only [contF, Option.some.injEq] at h; omega
          | cons g gs ih => intro n m h; simp only [contF] at h; split at h
                            · have := ih h; omega
                            · cases h
        exact this hc
      obtain ⟨xs, x1, x2⟩ := ih hs.1 ha
      obtain ⟨ys, y1, y2⟩ := fields_open ih hc hl hle hs.2 hr
      refine ⟨xs ++ ys, ?_, xs, ys, rfl, x2, y2⟩
      have e : cs.drop n = (cs.drop f.offset).take (P.cellsOf f.type) ++ cs.drop (n + P.cellsOf f.type) := by
        rw [ho, ← List.drop_drop, List.take_append_drop]
      rw [e]; exact x1.app y1
    · cases hc

theorem trod_open : ∀ {k fuel : Nat} {t : TypeId} {cs : List Value} {d : DataW H} {ps : List MemPlace}, simpleT P k t = true → DataW.trod enc P w 0 sp held fuel t cs = some (d, ps) → ∃ xs, VRc w xs cs ∧ hasT P k t xs
  | 0, _, _, _, _, _, hs, _ => by simp [simpleT] at hs
  | k + 1, 0, _, _, _, _, _, h => by simp [DataW.trod] at h
  | k + 1, fuel + 1, t, cs, d, ps, hs, h => by
    simp only [simpleT] at hs
    simp only [hasT]
    unfold DataW.trod at h
    rcases ht : P.underlying t with _ | u
    · rw [ht] at hs; cases hs
    rw [ht] at hs h
    cases u <;> simp only [] at hs <;> try (cases hs; done)
    case bool =>
      split at h <;> try (cases h; done)
      all_goals first | (rename_i hq; cases hq; done) | skip
      exact ⟨[.bool _], .one .bool rfl, _, rfl⟩
    case int kd =>
      split at h <;> try (cases h; done)
      all_goals first | (rename_i hq; cases hq; done) | skip
      rename_i hq; cases hq
      split at h
      · rename_i hw
        obtain ⟨rfl, hw⟩ := hw
        simp only [Lit.wf, Bool.and_eq_true, decide_eq_true_eq] at hw
        exact ⟨[.int _ _], .one .int rfl, _, rfl, hw.1, hw.2⟩
      · cases h
    case string =>
      split at h <;> try (cases h; done)
      all_goals first | (rename_i hq; cases hq; done) | skip
      rename_i s _
      exact ⟨[.str s.data.toList], .one .str rfl, _, rfl⟩
    case slice e =>
      split at h <;> try (cases h; done)
      all_goals first | (rename_i hq; cases hq; done) | skip
      · exact ⟨[.nils], .one .nils rfl, .inl rfl⟩
      · rename_i a len cap hq; cases hq
        simp only [] at h
        split at h
        · rename_i hb
          obtain ⟨_, hlc, hcm⟩ := hb
          rcases hm : (List.range len).mapM (fun i => (w.cells? 0 (a.add (i * P.cellsOf e)) (P.cellsOf e)).bind (DataW.trod enc P w 0 sp held fuel e)) with _ | elems
          · rw [hm] at h; cases h
          clear h
          obtain ⟨m1, m2⟩ := mapM_some hm
          rw [List.length_range] at m1
          have key : ∀ i, i < len → ∃ xs, xs.length = P.cellsOf e ∧ (∀ (o : Nat) x, xs[o]? = some x → x.isCell = true ∧ ∃ c, w.cell? (a.add (i * P.cellsOf e + o)) = some c ∧ VR noF w noPhi x c) ∧ hasT P k e xs := by
            intro i hi
            have h1 := m2 i i (by rw [List.getElem?_range hi])
            rw [List.getElem?_eq_getElem (by omega)] at h1
            rcases hc : w.cells? 0 (a.add (i * P.cellsOf e)) (P.cellsOf e) with _ | l
            · rw [hc] at h1; cases h1
            rw [hc] at h1
            obtain ⟨c1, c2⟩ := cells_some hc
            obtain ⟨xs, ⟨x1, x2, x3⟩, x4⟩ := trod_open hs h1
            refine ⟨xs, by omega, fun o x hx => ?_, x4⟩
            have ho : o < xs.length := (List.getElem?_eq_some_iff.1 hx).1
            refine ⟨x3 x (List.mem_of_getElem? hx), l[o], ?_, x2 o x _ hx (List.getElem?_eq_getElem (by omega))⟩
            rw [← Addr.add_add, c2 o (by omega), List.getElem?_eq_getElem (by omega)]
          let F : Nat → List V := fun i => if h : i < len then Classical.choose (key i h) else []
          have eF : ∀ i (h : i < len), F i = Classical.choose (key i h) := fun i h => dif_pos h
          have f1 : ∀ i, i < len → (F i).length = P.cellsOf e := fun i h => by rw [eF i h]; exact (Classical.choose_spec (key i h)).1
          have f2 : ∀ i, i < len → ∀ (o : Nat) x, (F i)[o]? = some x → x.isCell = true ∧ ∃ c, w.cell? (a.add (i * P.cellsOf e + o)) = some c ∧ VR noF w noPhi x c := fun i h => by rw [eF i h]; exact (Classical.choose_spec (key i h)).2.1
          have f3 : ∀ i, i < len → hasT P k e (F i) := fun i h => by rw [eF i h]; exact (Classical.choose_spec (key i h)).2.2
          clear_value F
          refine ⟨[.rs (P.cellsOf e) ((List.range len).map F)], .one ?_ rfl, .inr ⟨_, rfl, ?_, ?_⟩⟩
          · have hlen : ((List.range len).map F).length = len := by simp
            have h0 : ∀ (i : Nat) el, ((List.range len).map F)[i]? = some el → i < len ∧ el = F i := by
              intro i el he
              have hi : i < len := by
                have := (List.getElem?_eq_some_iff.1 he).1
                rw [hlen] at this; exact this
              rw [List.getElem?_map, List.getElem?_range hi] at he
              simp at he; exact ⟨hi, he.symm⟩
            have := @VR.rs noF w noPhi (P.cellsOf e) ((List.range len).map F) a cap (fun el hel => by
              obtain ⟨i, hi⟩ := List.getElem?_of_mem hel
              obtain ⟨h1, rfl⟩ := h0 i el hi
              exact f1 i h1) (by rw [hlen]; exact hlc) hcm (fun i el o x he hx => by
              obtain ⟨h1, rfl⟩ := h0 i el he
              obtain ⟨y1, c, y2, _⟩ := f2 i h1 o x hx
              exact ⟨fun h => h, y1, c, y2⟩) (fun i el o x c he hx hc => by
              obtain ⟨h1, rfl⟩ := h0 i el he
              obtain ⟨y1, c', y2, y3⟩ := f2 i h1 o x hx
              rw [y2] at hc; cases hc; exact y3)
            rw [hlen] at this; exact this
          · simp only [List.length_map, List.length_range]; exact Nat.le_trans hlc hcm
          · intro el hel
            obtain ⟨i, hi, rfl⟩ := List.mem_map.1 hel
            exact f3 i (List.mem_range.1 hi)
        · cases h
    case struct fs =>
      simp only [Bool.and_eq_true, beq_iff_eq] at hs
      split at h <;> try (cases h; done)
      all_goals first | (rename_i hq; cases hq; done) | exact (‹∀ fs_1 : Array Field, some (TypeDesc.struct fs) = some (TypeDesc.struct fs_1) → False› fs rfl).elim | skip
      rename_i cs _ _ fs' hq; cases hq
      split at h
      · rename_i hl
        rcases hm : fs.toList.mapM (fun f => DataW.trod enc P w 0 sp held fuel f.type ((cs.drop f.offset).take (P.cellsOf f.type))) with _ | r
        · rw [hm] at h; cases h
        have := fields_open (P := P) (fun {t cs d ps} h1 h2 => trod_open h1 h2) hs.1 hl (Nat.zero_le _) hs.2 hm
        rw [List.drop_zero] at this
        exact this
      · cases h
end
end Go.Mini

namespace Go.Mini
open Go.RowKit
set_option linter.unusedVariables false
set_option linter.unusedSimpArgs false
variable {P : Program}

/-- a value of a type -/
def hasV (P : Program) (k : Nat) (t : TypeId) (x : V) : Prop := match P.underlying t with
  | some (.struct _) => ∃ xs, x = .agg xs ∧ hasT P k t xs
  | _ => hasT P k t [x]

theorem hasT_bool {k : Nat} {t : TypeId} {xs : List V} (ht : P.underlying t = some .bool) : hasT P (k + 1) t xs ↔ ∃ b, xs = [.bool b] := by simp only [hasT, ht]
theorem hasT_int {k : Nat} {t : TypeId} {xs : List V} {kd : IntKind} (ht : P.underlying t = some (.int kd)) : hasT P (k + 1) t xs ↔ ∃ n, xs = [.int kd n] ∧ kd.min ≤ n ∧ n ≤ kd.max := by simp only [hasT, ht]
theorem hasT_str {k : Nat} {t : TypeId} {xs : List V} (ht : P.underlying t = some .string) : hasT P (k + 1) t xs ↔ ∃ s, xs = [.str s] := by simp only [hasT, ht]
theorem hasT_slice {k : Nat} {t e : TypeId} {xs : List V} (ht : P.underlying t = some (.slice e)) : hasT P (k + 1) t xs ↔ xs = [.nils] ∨ ∃ els, xs = [.rs (P.cellsOf e) els] ∧ els.length ≤ 9223372036854775807 ∧ ∀ el ∈ els, hasT P k e el := by simp only [hasT, ht]
theorem hasT_struct {k : Nat} {t : TypeId} {xs : List V} {fs : Array Field} (ht : P.underlying t = some (.struct fs)) : hasT P (k + 1) t xs ↔ hasF (hasT P k) fs.toList xs := by simp only [hasT, ht]
theorem hasV_struct {k : Nat} {t : TypeId} {x : V} {fs : Array Field} (ht : P.underlying t = some (.struct fs)) : hasV P k t x ↔ ∃ xs, x = .agg xs ∧ hasT P k t xs := by simp only [hasV, ht]
theorem hasV_slice {k : Nat} {t e : TypeId} {x : V} (ht : P.underlying t = some (.slice e)) : hasV P k t x ↔ hasT P k t [x] := by simp only [hasV, ht]
theorem hasV_int {k : Nat} {t : TypeId} {x : V} {kd : IntKind} (ht : P.underlying t = some (.int kd)) : hasV P k t x ↔ hasT P k t [x] := by simp only [hasV, ht]
theorem hasF_vb {h : TypeId → List V → Prop} (ih : ∀ t xs, h t xs → ∀ x ∈ xs, VB 0 x) : ∀ {fs : List Field} {xs : List V}, hasF h fs xs → ∀ x ∈ xs, VB 0 x
  | [], xs, hx, x, hm => by
    simp only [hasF] at hx; subst hx; simp at hm
  | f :: fs, xs, hx, x, hm => by
    simp only [hasF] at hx
    obtain ⟨a, b, rfl, h1, h2⟩ := hx
    rcases List.mem_append.1 hm with hm | hm
    · exact ih _ _ h1 x hm
    · exact hasF_vb ih h2 x hm
theorem hasT_vb : ∀ {k : Nat} {t : TypeId} {xs : List V}, hasT P k t xs → ∀ x ∈ xs, VB 0 x
  | 0, _, _, h, _, _ => by simp [hasT] at h
  | k + 1, t, xs, h, x, hm => by
    simp only [hasT] at h
    split at h
    · obtain ⟨b, rfl⟩ := h; simp at hm; subst hm; exact .bool
    · obtain ⟨n, rfl, _⟩ := h; simp at hm; subst hm; exact .int
    · obtain ⟨s, rfl⟩ := h; simp at hm; subst hm; exact .str
    · rcases h with rfl | ⟨els, rfl, _, h⟩
      · simp at hm; subst hm; exact .nils
      · simp at hm; subst hm; exact .rs fun el he => hasT_vb (h el he)
    · exact hasF_vb (fun t xs h => hasT_vb h) h x hm
    · exact h.elim
theorem hasV_vb {k : Nat} {t : TypeId} {x : V} (h : hasV P k t x) : VB 0 x := by
  unfold hasV at h
  split at h
  · obtain ⟨xs, rfl, h⟩ := h; exact .agg fun x hx => hasT_vb h x hx
  · exact hasT_vb h x (by simp)

theorem trod_arg {H : Type} {enc : TypeId × Value → H} {w : World} {sp : Nat → Bool} {held : Bool} {k base : Nat} {t : TypeId} {v : Value} {d : DataW H} {ps : List MemPlace} (hs : simpleT P k t = true)
    (hval : Value.okWide P w .any base t v) (hd : DataW.Trod enc P w 0 sp held t v d ps) : ∃ x, VR noF w noPhi x v ∧ hasV P k t x := by
  obtain ⟨fuel, hf⟩ := hd
  obtain ⟨xs, ⟨h1, h2, h3⟩, h4⟩ := trod_open hs hf
  cases k with
  | zero => simp [simpleT] at hs
  | succ k =>
    simp only [simpleT] at hs
    unfold hasV
    rcases ht : P.underlying t with _ | u
    · rw [ht] at hs; cases hs
    rw [ht] at hs
    have single : (∀ cs, v ≠ .agg cs) → xs.length = 1 → hasT P (k + 1) t xs → ∃ x, VR noF w noPhi x v ∧ hasT P (k + 1) t [x] := by
      intro hv hx h4
      have hc : v.cells.toList = [v] := by cases v <;> first | rfl | exact absurd rfl (hv _)
      rw [hc] at h2
      match xs, hx with
      | [x], _ => exact ⟨x, h2 0 x v rfl rfl, h4⟩
    have hne : (∀ fs, u ≠ .struct fs) → simpleT P (k + 1) t = true → ∀ cs, v ≠ .agg cs := by
      intro hu hsim cs hv
      subst hv
      simp only [Value.okWide, ht] at hval
      simp only [simpleT, ht] at hsim
      cases u <;> simp only [Cell.okWide, Cell.ok, ht] at hval hsim <;> first | exact hval | (cases hsim; done) | exact hu _ rfl | skip
    have hsim : simpleT P (k + 1) t = true := by simp only [simpleT, ht]; exact hs
    cases u <;> simp only [] at hs <;> try (cases hs; done)
    case struct fs =>
      simp only [Value.okWide, ht] at hval
      obtain ⟨cs, rfl, _, _⟩ := hval
      refine ⟨.agg xs, ?_, xs, rfl, h4⟩
      have : cs = ⟨cs.toList⟩ := rfl
      rw [this]
      exact .agg h1.symm h3 h2
    all_goals
      refine single (hne (fun _ h => by cases h) hsim) ?_ h4
      simp only [hasT, ht] at h4
    · obtain ⟨b, rfl⟩ := h4; rfl
    · obtain ⟨n, rfl, _⟩ := h4; rfl
    · obtain ⟨s, rfl⟩ := h4; rfl
    · rcases h4 with rfl | ⟨els, rfl, _⟩ <;> rfl

/-- a call that answers true, with its arguments; nothing that was there has turned -/
theorem PureOk.below {f : FuncId} {args : List V} {b : Bool} (h : PureOk P (fun _ => none) f args (.bool b)) {w : World} {cargs : List Value} (ha : VRs noF w noPhi args cargs) :
    Calls P f ⟨cargs⟩ w (fun e w' => e = .returned (.bool b) ∧ Below w.heap.size w w') := by
  obtain ⟨_, _, hP⟩ := h
  refine (hP noF noPhi w.heap.size w cargs ha (rel_no w) (fun _ _ h => by cases h)).mono fun ed w' ⟨c, hc, forb', φ', k1, k2, k3, k4, k5, k6, k7, k8⟩ => ?_
  cases k1
  exact ⟨hc, k3.os, k3.tape, k3.output, k3.size, fun b hb => k3.keep b hb (fun h => h)⟩
theorem VRs.nil {w : World} : VRs noF w noPhi [] [] := ⟨rfl, fun i v c h => by simp at h⟩
theorem VRs.cons {w : World} {x : V} {v : Value} {xs : List V} {vs : List Value} (h : VR noF w noPhi x v) (k : VRs noF w noPhi xs vs) : VRs noF w noPhi (x :: xs) (v :: vs) := by
  refine ⟨by simp [k.1], fun i y c hy hc => ?_⟩
  cases i with
  | zero => simp at hy hc; subst hy hc; exact h
  | succ i => exact k.2 i y c (by simpa using hy) (by simpa using hc)
/-- a run of the small machine told -/
theorem run_ok {tab : FuncId → Option MFunc} (ht : ∀ f m, tab f = some m → ∃ fn, P.funcs[f]? = some fn ∧ compF P fn = some m) (hmix : P.follows .mixedOrders = true) (mode : FuncId → Mode) {l : List (FuncId × List V × V)} (hl : Known P l) {n : Nat} {f : FuncId} {args : List V} {v : V} (ha : ∀ x ∈ args, VB 0 x)
    (hx : pureBody (envOf tab mode l) (call (envOf tab mode l) n) n f args = some v) : PureOk P (fun _ => none) f args v :=
  pure_of_call (envOf_ok ht mode hl) hmix ha hx
end Go.Mini

namespace Go.Mini
def orV (a b : Int) : Int := wrapF .u32 (BitVec.ofInt 32 a ||| BitVec.ofInt 32 b).toNat
def andV (a b : Int) : Int := wrapF .u32 (BitVec.ofInt 32 a &&& BitVec.ofInt 32 b).toNat
theorem intAnd (a b : Int) : intV .and .u32 a .u32 b = some (.int .u32 (andV a b)) := by simp only [intV, kindEq, cond_true, forceI_eq]; rfl
theorem intOr (a b : Int) : intV .or .u32 a .u32 b = some (.int .u32 (orV a b)) := by simp only [intV, kindEq, cond_true, forceI_eq]; rfl
theorem intNe (a b : Int) : intV .neq .u32 a .u32 b = some (.bool (!(eqF a b))) := by rfl
section
variable {G : Nat → Option V} {C : FuncId → List V → H → Option Res} {t : List V} {h : H} {x y : Opd} {a b : Int} {n0 k : Nat} {o : MOper} {ms : List MOper} {s s' s1 s2 : St}
theorem bin_and (hx : ev G t x = some (.int .u32 a)) (hy : ev G t y = some (.int .u32 b)) : opV G C t (.bin .and .no x y) h = some ⟨.int .u32 (andV a b), h, [], []⟩ := by simp only [opV, op_bin, hx, hy, binV, intAnd, one]
theorem bin_or (hx : ev G t x = some (.int .u32 a)) (hy : ev G t y = some (.int .u32 b)) : opV G C t (.bin .or .no x y) h = some ⟨.int .u32 (orV a b), h, [], []⟩ := by simp only [opV, op_bin, hx, hy, binV, intOr, one]
theorem bin_ne {c : Bool} (hx : ev G t x = some (.int .u32 a)) (hy : ev G t y = some (.int .u32 b)) (hc : (!(eqF a b)) = c) : opV G C t (.bin .neq .no x y) h = some ⟨.bool c, h, [], []⟩ := by subst hc; simp only [opV, op_bin, hx, hy, binV, intNe, one]
theorem bin_eqb {c : Bool} {a b : Bool} (hx : ev G t x = some (.bool a)) (hy : ev G t y = some (.bool b)) (hc : (a == b) = c) : opV G C t (.bin .eql .bool x y) h = some ⟨.bool c, h, [], []⟩ := by subst hc; simp only [opV, op_bin, hx, hy, binV, boolV, eqOp, one]
theorem regV_go {d : Option Nat} {op : MOp} {g : Option (Nat × Bool)} {t t1 : List V} {h h1 : H} {r r1 r2 w w1 w2 : List Nat} {v : V} (hw : wantedV t g = true) (hx : opV G C t op h = some ⟨v, h1, r1, w1⟩) (ht : putV t d v = t1) (hr : uni n0 r1 r = r2) (hww : uni n0 w1 w = w2) (hk : regV G C n0 ms ⟨t1, h1, r2, w2⟩ = some s') : regV G C n0 (⟨d, op, g⟩ :: ms) ⟨t, h, r, w⟩ = some s' := by
  subst ht hr hww; simp only [regV, hw, cond_true, hx, regStep]; exact hk
theorem regV_skip {d : Option Nat} {op : MOp} {g : Option (Nat × Bool)} {t t1 : List V} {h : H} {r w : List Nat} (hw : wantedV t g = false) (ht : putV t d .undef = t1) (hk : regV G C n0 ms ⟨t1, h, r, w⟩ = some s') : regV G C n0 (⟨d, op, g⟩ :: ms) ⟨t, h, r, w⟩ = some s' := by
  subst ht; simp only [regV, hw, cond_false]; exact hk
theorem regV_nil (hk : s = s') : regV G C n0 [] s = some s' := by rw [hk]; rfl
theorem drawV_go {d : Option Nat} {op : MOp} {g : Option (Nat × Bool)} {t t1 : List V} {h h1 : H} {r r1 r2 w w1 w2 : List Nat} {v : V} {j m : Nat} {masks : List Nat} {fs fs' : List (Nat × List Nat × List Nat)} (hw : wantedV t g = true) (hx : opV G C t op h = some ⟨v, h1, r1, w1⟩) (hf : freeAt m r1 (allW h ⟨v, h1, r1, w1⟩) fs = true) (hn : note j r1 (allW h ⟨v, h1, r1, w1⟩) fs = fs') (ht : putV t d v = t1) (hr : uni n0 r1 r = r2) (hww : uni n0 w1 w = w2) (hk : drawV G C n0 ms (j + 1) masks fs' ⟨t1, h1, r2, w2⟩ = some s') : drawV G C n0 (⟨d, op, g⟩ :: ms) j (m :: masks) fs ⟨t, h, r, w⟩ = some s' := by
  subst ht hr hww hn; simp only [drawV, hw, cond_true, hx, drawStep, hf]; exact hk
theorem drawV_skip {d : Option Nat} {op : MOp} {g : Option (Nat × Bool)} {t t1 : List V} {h : H} {r w : List Nat} {j m : Nat} {masks : List Nat} {fs : List (Nat × List Nat × List Nat)} (hw : wantedV t g = false) (ht : putV t d .undef = t1) (hk : drawV G C n0 ms (j + 1) masks fs ⟨t1, h, r, w⟩ = some s') : drawV G C n0 (⟨d, op, g⟩ :: ms) j (m :: masks) fs ⟨t, h, r, w⟩ = some s' := by
  subst ht; simp only [drawV, hw, cond_false]; exact hk
theorem drawV_nil {j : Nat} {masks : List Nat} {fs : List (Nat × List Nat × List Nat)} (hk : s = s') : drawV G C n0 [] j masks fs s = some s' := by rw [hk]; rfl
variable {c d : MCode} {p : Ex × St}
theorem ex_seq {q : Ex × St} (hc : exec G C n0 k c s = some q) (hd : exSeq (exec G C n0 k) d (some q) = some p) : exec G C n0 (k + 1) (.seq c d) s = some p := by
  simp only [exec, exStep, hc]; exact hd
theorem ex_norm (hd : exec G C n0 k d s1 = some p) : exSeq (exec G C n0 k) d (some (.normal, s1)) = some p := hd
theorem ex_stop {F : MCode → St → Option (Ex × St)} : exSeq F d (some (.ret, s1)) = some (.ret, s1) := rfl
theorem ex_ret : exec G C n0 (k + 1) .ret s = some (.ret, s) := rfl
theorem ex_skip : exec G C n0 (k + 1) .skip s = some (.normal, s) := rfl
theorem ex_reg (hr : regV G C n0 ms s = some s1) : exec G C n0 (k + 1) (.reg ms) s = some (.normal, s1) := by
  simp only [exec, exStep, hr, exReg]
theorem ex_draw {masks : List Nat} (hr : drawV G C n0 ms 0 masks [] s = some s1) : exec G C n0 (k + 1) (.draw ms masks) s = some (.normal, s1) := by
  simp only [exec, exStep, hr, exReg]
theorem ex_true (hv : ev G s.t x = some (.bool true)) (hc : exec G C n0 k c s = some p) : exec G C n0 (k + 1) (.cond x c d) s = some p := by
  simp only [exec, exStep, hv, exCond]; exact hc
theorem ex_false (hv : ev G s.t x = some (.bool false)) (hd : exec G C n0 k d s = some p) : exec G C n0 (k + 1) (.cond x c d) s = some p := by
  simp only [exec, exStep, hv, exCond]; exact hd
end
theorem call_succ (E : Env) (n : Nat) (f : FuncId) (args : List V) (h : H) : call E (n + 1) f args h = callStep E (call E n) n f args h (E.mode f) := rfl
theorem call_pure {E : Env} {n : Nat} {f : FuncId} {args : List V} {h : H} {as : List (V × List Nat)} {as1 : List V} {v : V} {r : List Nat} (hm : E.mode f = .pure) (hl : mapM? (lend h 100) args = some as) (h1 : as.map (·.1) = as1) (hr : as.flatMap (·.2) = r) (hv : pureBody E (call E n) n f as1 = some v) (hb : (r.isEmpty || v.plain) = true) : call E (n + 1) f args h = some ⟨v, h, r, []⟩ := by
  rw [call_succ, hm]
  subst h1 hr
  simp only [callStep, hl, callPure, hv, hb, cond_true]
theorem pure_run {E : Env} {C : FuncId → List V → H → Option Res} {n nt : Nat} {body : MCode} {res : List MRes} {f : FuncId} {args t0 : List V} {s : St} {x : Res} (hm : E.memo f args = none) (hf : E.fn f = some ⟨nt, body, res⟩) (h0 : args ++ List.replicate (nt - args.length) .undef = t0)
    (hx : exec E.G C 0 n body ⟨t0, [], [], []⟩ = some (.ret, s)) (hr : callRes 0 false res s = some x) {v : V} (hv : x.v = v) : pureBody E C n f args = some v := by
  subst h0 hv
  have hx' : exec E.G C (List.length ([] : H)) n body ⟨args ++ List.replicate (nt - args.length) .undef, [], [], []⟩ = some (.ret, s) := hx
  have hr' : callRes (List.length ([] : H)) false res s = some x := hr
  simp only [pureBody, hm, hf, callBody, hx', callEnd, hr']
theorem pure_memo {E : Env} {C : FuncId → List V → H → Option Res} {n : Nat} {f : FuncId} {args : List V} {v : V} (hm : E.memo f args = some v) : pureBody E C n f args = some v := by simp only [pureBody, hm]
theorem op_call_of {G : Nat → Option V} {C : FuncId → List V → H → Option Res} {t : List V} {h : H} {f : FuncId} {xs : List Opd} {cap as : List V} {x : Opd} {r : Res} (hx : ev G t x = some (.fn f cap)) (ha : evs G t xs = some as) (hc : C f (as ++ cap) h = some r) : opV G C t (.call x xs) h = some r := by
  simp only [opV, op_call, hx, ha]; exact hc
end Go.Mini

namespace Go.Mini
set_option linter.unusedVariables false
set_option linter.unusedSimpArgs false
section
variable {G : Nat → Option V} {C C' : FuncId → List V → H → Option Res}
theorem regV_le (hC : Under C C') : ∀ {ms : List MOper} {n0 : Nat} {s s' : St}, regV G C n0 ms s = some s' → regV G C' n0 ms s = some s'
  | [], _, _, _, h => h
  | o :: ms, n0, s, s', h => by
    simp only [regV] at h ⊢
    cases hw : wantedV s.t o.guard
    · rw [hw] at h; simp only [cond_false] at h ⊢
      exact regV_le hC h
    · rw [hw] at h; simp only [cond_true] at h ⊢
      rcases hq : opV G C s.t o.op s.h with _ | r
      · rw [hq] at h; cases h
      · rw [hq] at h; rw [opV_le hC hq]
        simp only [regStep] at h ⊢
        exact regV_le hC h
theorem drawV_le (hC : Under C C') : ∀ {ms : List MOper} {n0 j : Nat} {masks : List Nat} {fs : List (Nat × List Nat × List Nat)} {s s' : St}, drawV G C n0 ms j masks fs s = some s' → drawV G C' n0 ms j masks fs s = some s'
  | [], _, _, _, _, _, _, h => h
  | o :: ms, n0, j, [], fs, s, s', h => by simp [drawV] at h
  | o :: ms, n0, j, m :: masks, fs, s, s', h => by
    simp only [drawV] at h ⊢
    cases hw : wantedV s.t o.guard
    · rw [hw] at h; simp only [cond_false] at h ⊢
      exact drawV_le hC h
    · rw [hw] at h; simp only [cond_true] at h ⊢
      rcases hq : opV G C s.t o.op s.h with _ | r
      · rw [hq] at h; cases h
      · rw [hq] at h; rw [opV_le hC hq]
        simp only [drawStep] at h ⊢
        cases hf : freeAt m r.r (allW s.h r) fs
        · rw [hf] at h; cases h
        · rw [hf] at h; simp only [cond_true] at h ⊢
          exact drawV_le hC h
theorem exec_le (hC : Under C C') : ∀ {k k' n0 : Nat} {c : MCode} {s : St} {p : Ex × St}, k ≤ k' → exec G C n0 k c s = some p → exec G C' n0 k' c s = some p
  | 0, k', n0, c, s, p, _, h => by cases h
  | k + 1, 0, n0, c, s, p, hk, h => by omega
  | k + 1, k' + 1, n0, c, s, p, hk, h => by
    have ih : ∀ {c : MCode} {s : St} {p : Ex × St}, exec G C n0 k c s = some p → exec G C' n0 k' c s = some p := fun h => exec_le hC (by omega) h
    simp only [exec] at h ⊢
    cases c with
    | skip => exact h
    | ret => exact h
    | exit id => exact h
    | seq a b =>
      simp only [exStep] at h ⊢
      rcases ha : exec G C n0 k a s with _ | ⟨e, s1⟩
      · rw [ha] at h; cases h
      rw [ha] at h; rw [ih ha]
      cases e <;> simp only [exSeq] at h ⊢ <;> first | exact ih h | exact h
    | cond x a b =>
      simp only [exStep] at h ⊢
      rcases hv : ev G s.t x with _ | v
      · rw [hv] at h; cases h
      rw [hv] at h
      cases v <;> simp only [exCond] at h ⊢ <;> try (cases h; done)
      rename_i b'
      cases b' <;> exact ih h
    | block id a =>
      simp only [exStep] at h ⊢
      rcases ha : exec G C n0 k a s with _ | q
      · rw [ha] at h; cases h
      rw [ha] at h; rw [ih ha]; exact h
    | loop a =>
      simp only [exStep] at h ⊢
      rcases ha : exec G C n0 k a s with _ | ⟨e, s1⟩
      · rw [ha] at h; cases h
      rw [ha] at h; rw [ih ha]
      cases e <;> simp only [exSeq] at h ⊢ <;> first | exact ih h | exact h
    | reg ops =>
      simp only [exStep] at h ⊢
      rcases ha : regV G C n0 ops s with _ | q
      · rw [ha] at h; cases h
      rw [ha] at h; rw [regV_le hC ha]; exact h
    | draw ops masks =>
      simp only [exStep] at h ⊢
      rcases ha : drawV G C n0 ops 0 masks [] s with _ | q
      · rw [ha] at h; cases h
      rw [ha] at h; rw [drawV_le hC ha]; exact h
end
theorem callBody_le {E : Env} {C C' : FuncId → List V → H → Option Res} (hC : Under C C') {k k' : Nat} (hk : k ≤ k') {keep : Bool} {args : List V} {h : H} {m : Option MFunc} {x : Res} (hx : callBody E C k keep args h m = some x) : callBody E C' k' keep args h m = some x := by
  cases m with
  | none => cases hx
  | some fn =>
    simp only [callBody] at hx ⊢
    rcases ha : exec E.G C h.length k fn.body ⟨args ++ List.replicate (fn.ntmps - args.length) .undef, h, [], []⟩ with _ | q
    · rw [ha] at hx; cases hx
    rw [ha] at hx; rw [exec_le hC hk ha]; exact hx
theorem pureBody_le {E : Env} {C C' : FuncId → List V → H → Option Res} (hC : Under C C') {k k' : Nat} (hk : k ≤ k') {f : FuncId} {args : List V} {v : V} (hx : pureBody E C k f args = some v) : pureBody E C' k' f args = some v := by
  simp only [pureBody] at hx ⊢
  split at hx
  · first | exact hx | (rename_i u hu; rw [hu]; exact hx)
  · split at hx
    · rename_i x hb; rw [callBody_le hC hk hb]; exact hx
    · cases hx
theorem call_le {E : Env} : ∀ {n m : Nat}, n ≤ m → Under (call E n) (call E m)
  | 0, m, _, f, args, h, x, hx => by cases hx
  | n + 1, 0, hn, f, args, h, x, hx => by omega
  | n + 1, m + 1, hn, f, args, h, x, hx => by
    have ih : Under (call E n) (call E m) := call_le (by omega)
    simp only [call] at hx ⊢
    cases hm : E.mode f <;> rw [hm] at hx <;> simp only [callStep] at hx ⊢
    · exact callBody_le ih (by omega) hx
    · exact callBody_le ih (by omega) hx
    · rcases hl : mapM? (lend h 100) args with _ | as
      · rw [hl] at hx; cases hx
      rw [hl] at hx
      simp only [callPure] at hx ⊢
      rcases hp : pureBody E (call E n) n f (as.map (·.1)) with _ | v
      · rw [hp] at hx; cases hx
      rw [hp] at hx; rw [pureBody_le ih (by omega) hp]; exact hx

/-! ### With as many steps as it takes -/
def Calls' (E : Env) (f : FuncId) (args : List V) (h : H) (x : Res) : Prop := ∃ n, call E n f args h = some x
def Runs (E : Env) (n0 : Nat) (c : MCode) (s : St) (p : Ex × St) : Prop := ∃ n, exec E.G (call E n) n0 n c s = some p
def Regs (E : Env) (n0 : Nat) (ms : List MOper) (s s' : St) : Prop := ∃ n, regV E.G (call E n) n0 ms s = some s'
def Draws (E : Env) (n0 : Nat) (ms : List MOper) (j : Nat) (masks : List Nat) (fs : List (Nat × List Nat × List Nat)) (s s' : St) : Prop := ∃ n, drawV E.G (call E n) n0 ms j masks fs s = some s'
def Ops (E : Env) (t : List V) (o : MOp) (h : H) (r : Res) : Prop := ∃ n, opV E.G (call E n) t o h = some r
def Pures (E : Env) (f : FuncId) (args : List V) (v : V) : Prop := ∃ n, pureBody E (call E n) n f args = some v
section
variable {E : Env} {n0 k : Nat} {c d : MCode} {s s1 s2 s' : St} {p q : Ex × St} {ms : List MOper} {x y : Opd} {t : List V} {h : H} {r : Res} {a b : Int}
theorem Runs.at (hg : Runs E n0 c s p) : ∃ n, ∀ m, n ≤ m → exec E.G (call E m) n0 m c s = some p := by
  obtain ⟨n, hn⟩ := hg
  exact ⟨n, fun m hm => exec_le (call_le hm) hm hn⟩
theorem go_seq (hc : Runs E n0 c s (.normal, s1)) (hd : Runs E n0 d s1 p) : Runs E n0 (.seq c d) s p := by
  obtain ⟨i, hi⟩ := hc.at; obtain ⟨j, hj⟩ := hd.at
  refine ⟨max i j + 1, ?_⟩
  have h1 := exec_le (call_le (E := E) (Nat.le_succ (max i j))) (Nat.le_refl _) (hi (max i j) (by omega))
  have h2 := exec_le (call_le (E := E) (Nat.le_succ (max i j))) (Nat.le_refl _) (hj (max i j) (by omega))
  simp only [exec, exStep, h1, exSeq]; exact h2
theorem go_stop {e : Ex} (he : e ≠ .normal) (hc : Runs E n0 c s (e, s1)) : Runs E n0 (.seq c d) s (e, s1) := by
  obtain ⟨i, hi⟩ := hc.at
  refine ⟨i + 1, ?_⟩
  have h1 := exec_le (call_le (E := E) (Nat.le_succ i)) (Nat.le_refl _) (hi i (by omega))
  simp only [exec, exStep, h1]
  cases e <;> simp only [exSeq]
  exact absurd rfl he
theorem go_loop (hc : Runs E n0 c s (.normal, s1)) (hd : Runs E n0 (.loop c) s1 p) : Runs E n0 (.loop c) s p := by
  obtain ⟨i, hi⟩ := hc.at; obtain ⟨j, hj⟩ := hd.at
  refine ⟨max i j + 1, ?_⟩
  have h1 := exec_le (call_le (E := E) (Nat.le_succ (max i j))) (Nat.le_refl _) (hi (max i j) (by omega))
  have h2 := exec_le (call_le (E := E) (Nat.le_succ (max i j))) (Nat.le_refl _) (hj (max i j) (by omega))
  simp only [exec, exStep, h1, exSeq]; exact h2
theorem go_break {e : Ex} (he : e ≠ .normal) (hc : Runs E n0 c s (e, s1)) : Runs E n0 (.loop c) s (e, s1) := by
  obtain ⟨i, hi⟩ := hc.at
  refine ⟨i + 1, ?_⟩
  have h1 := exec_le (call_le (E := E) (Nat.le_succ i)) (Nat.le_refl _) (hi i (by omega))
  simp only [exec, exStep, h1]
  cases e <;> simp only [exSeq]
  exact absurd rfl he
theorem go_ret : Runs E n0 .ret s (.ret, s) := ⟨1, rfl⟩
theorem go_skip : Runs E n0 .skip s (.normal, s) := ⟨1, rfl⟩
theorem go_exit {id : Nat} : Runs E n0 (.exit id) s (.exit id, s) := ⟨1, rfl⟩
theorem go_true (hv : ev E.G s.t x = some (.bool true)) (hc : Runs E n0 c s p) : Runs E n0 (.cond x c d) s p := by
  obtain ⟨i, hi⟩ := hc.at
  refine ⟨i + 1, ?_⟩
  simp only [exec, exStep, hv, exCond]
  exact exec_le (call_le (E := E) (Nat.le_succ i)) (Nat.le_refl _) (hi i (by omega))
theorem go_false (hv : ev E.G s.t x = some (.bool false)) (hd : Runs E n0 d s p) : Runs E n0 (.cond x c d) s p := by
  obtain ⟨i, hi⟩ := hd.at
  refine ⟨i + 1, ?_⟩
  simp only [exec, exStep, hv, exCond]
  exact exec_le (call_le (E := E) (Nat.le_succ i)) (Nat.le_refl _) (hi i (by omega))
theorem go_block {id : Nat} {e : Ex} (hc : Runs E n0 c s (e, s1)) (he : e ≠ .exit id) : Runs E n0 (.block id c) s (e, s1) := by
  obtain ⟨i, hi⟩ := hc.at
  refine ⟨i + 1, ?_⟩
  have h1 := exec_le (call_le (E := E) (Nat.le_succ i)) (Nat.le_refl _) (hi i (by omega))
  simp only [exec, exStep, h1]
  cases e <;> simp only [exBlock]
  rw [if_neg (fun h => he (by rw [h]))]
theorem go_leave {id : Nat} (hc : Runs E n0 c s (.exit id, s1)) : Runs E n0 (.block id c) s (.normal, s1) := by
  obtain ⟨i, hi⟩ := hc.at
  refine ⟨i + 1, ?_⟩
  have h1 := exec_le (call_le (E := E) (Nat.le_succ i)) (Nat.le_refl _) (hi i (by omega))
  simp only [exec, exStep, h1, exBlock, if_true]
theorem go_reg (hr : Regs E n0 ms s s1) : Runs E n0 (.reg ms) s (.normal, s1) := by
  obtain ⟨i, hi⟩ := hr
  refine ⟨i + 1, ?_⟩
  have h1 := regV_le (call_le (E := E) (Nat.le_succ i)) hi
  simp only [exec, exStep, h1, exReg]
theorem go_draw {masks : List Nat} (hr : Draws E n0 ms 0 masks [] s s1) : Runs E n0 (.draw ms masks) s (.normal, s1) := by
  obtain ⟨i, hi⟩ := hr
  refine ⟨i + 1, ?_⟩
  have h1 := drawV_le (call_le (E := E) (Nat.le_succ i)) hi
  simp only [exec, exStep, h1, exReg]
theorem regs_nil : Regs E n0 [] s s := ⟨0, rfl⟩
theorem draws_nil {j : Nat} {masks : List Nat} {fs : List (Nat × List Nat × List Nat)} : Draws E n0 [] j masks fs s s := ⟨0, rfl⟩
theorem regs_go {d : Option Nat} {op : MOp} {g : Option (Nat × Bool)} {t t1 : List V} {h h1 : H} {r r1 r2 w w1 w2 : List Nat} {v : V} (hw : wantedV t g = true) (hx : Ops E t op h ⟨v, h1, r1, w1⟩) (ht : putV t d v = t1) (hr : uni n0 r1 r = r2) (hww : uni n0 w1 w = w2) (hk : Regs E n0 ms ⟨t1, h1, r2, w2⟩ s') : Regs E n0 (⟨d, op, g⟩ :: ms) ⟨t, h, r, w⟩ s' := by
  obtain ⟨i, hi⟩ := hx; obtain ⟨j, hj⟩ := hk
  exact ⟨max i j, regV_go hw (opV_le (call_le (by omega)) hi) ht hr hww (regV_le (call_le (by omega)) hj)⟩
theorem regs_skip {d : Option Nat} {op : MOp} {g : Option (Nat × Bool)} {t t1 : List V} {h : H} {r w : List Nat} (hw : wantedV t g = false) (ht : putV t d .undef = t1) (hk : Regs E n0 ms ⟨t1, h, r, w⟩ s') : Regs E n0 (⟨d, op, g⟩ :: ms) ⟨t, h, r, w⟩ s' := by
  obtain ⟨j, hj⟩ := hk
  exact ⟨j, regV_skip hw ht hj⟩
theorem draws_go {d : Option Nat} {op : MOp} {g : Option (Nat × Bool)} {t t1 : List V} {h h1 : H} {r r1 r2 w w1 w2 : List Nat} {v : V} {j m : Nat} {masks : List Nat} {fs fs' : List (Nat × List Nat × List Nat)} (hw : wantedV t g = true) (hx : Ops E t op h ⟨v, h1, r1, w1⟩) (hf : freeAt m r1 (allW h ⟨v, h1, r1, w1⟩) fs = true) (hn : note j r1 (allW h ⟨v, h1, r1, w1⟩) fs = fs') (ht : putV t d v = t1) (hr : uni n0 r1 r = r2) (hww : uni n0 w1 w = w2) (hk : Draws E n0 ms (j + 1) masks fs' ⟨t1, h1, r2, w2⟩ s') : Draws E n0 (⟨d, op, g⟩ :: ms) j (m :: masks) fs ⟨t, h, r, w⟩ s' := by
  obtain ⟨i, hi⟩ := hx; obtain ⟨l, hl⟩ := hk
  exact ⟨max i l, drawV_go hw (opV_le (call_le (by omega)) hi) hf hn ht hr hww (drawV_le (call_le (by omega)) hl)⟩
theorem draws_skip {d : Option Nat} {op : MOp} {g : Option (Nat × Bool)} {t t1 : List V} {h : H} {r w : List Nat} {j m : Nat} {masks : List Nat} {fs : List (Nat × List Nat × List Nat)} (hw : wantedV t g = false) (ht : putV t d .undef = t1) (hk : Draws E n0 ms (j + 1) masks fs ⟨t1, h, r, w⟩ s') : Draws E n0 (⟨d, op, g⟩ :: ms) j (m :: masks) fs ⟨t, h, r, w⟩ s' := by
  obtain ⟨l, hl⟩ := hk
  exact ⟨l, drawV_skip hw ht hl⟩
theorem ops_of {o : MOp} (hx : opV E.G (call E 0) t o h = some r) : Ops E t o h r := ⟨0, hx⟩
theorem ops_call {f : FuncId} {xs : List Opd} {cap as : List V} (hx : ev E.G t x = some (.fn f cap)) (ha : evs E.G t xs = some as) (hc : Calls' E f (as ++ cap) h r) : Ops E t (.call x xs) h r := by
  obtain ⟨i, hi⟩ := hc
  exact ⟨i, op_call_of hx ha hi⟩
end
theorem calls_keep {E : Env} {f : FuncId} {args t0 : List V} {h : H} {nt : Nat} {body : MCode} {res : List MRes} {s : St} {e : Ex} {x : Res} (hm : E.mode f = .keep) (hf : E.fn f = some ⟨nt, body, res⟩) (h0 : args ++ List.replicate (nt - args.length) .undef = t0) (hg : Runs E h.length body ⟨t0, h, [], []⟩ (e, s)) (he : e = .ret ∨ e = .normal) (hr : callRes h.length true res s = some x) : Calls' E f args h x := by
  obtain ⟨i, hi⟩ := hg
  refine ⟨i + 1, ?_⟩
  subst h0
  rw [call_succ, hm]
  simp only [callStep, callBody, hf, hi]
  rcases he with rfl | rfl <;> exact hr
theorem calls_frozen {E : Env} {f : FuncId} {args t0 : List V} {h : H} {nt : Nat} {body : MCode} {res : List MRes} {s : St} {e : Ex} {x : Res} (hm : E.mode f = .frozen) (hf : E.fn f = some ⟨nt, body, res⟩) (h0 : args ++ List.replicate (nt - args.length) .undef = t0) (hg : Runs E h.length body ⟨t0, h, [], []⟩ (e, s)) (he : e = .ret ∨ e = .normal) (hr : callRes h.length false res s = some x) : Calls' E f args h x := by
  obtain ⟨i, hi⟩ := hg
  refine ⟨i + 1, ?_⟩
  subst h0
  rw [call_succ, hm]
  simp only [callStep, callBody, hf, hi]
  rcases he with rfl | rfl <;> exact hr
theorem calls_pure {E : Env} {f : FuncId} {args as1 : List V} {h : H} {as : List (V × List Nat)} {v : V} {r : List Nat} (hm : E.mode f = .pure) (hl : mapM? (lend h 100) args = some as) (h1 : as.map (·.1) = as1) (hr : as.flatMap (·.2) = r) (hv : Pures E f as1 v) (hb : (r.isEmpty || v.plain) = true) : Calls' E f args h ⟨v, h, r, []⟩ := by
  obtain ⟨i, hi⟩ := hv
  exact ⟨i + 1, call_pure hm hl h1 hr hi hb⟩
theorem pures_run {E : Env} {nt : Nat} {body : MCode} {res : List MRes} {f : FuncId} {args t0 : List V} {s : St} {e : Ex} {x : Res} (hm : E.memo f args = none) (hf : E.fn f = some ⟨nt, body, res⟩) (h0 : args ++ List.replicate (nt - args.length) .undef = t0)
    (hg : Runs E 0 body ⟨t0, [], [], []⟩ (e, s)) (he : e = .ret ∨ e = .normal) (hr : callRes 0 false res s = some x) {v : V} (hv : x.v = v) : Pures E f args v := by
  obtain ⟨i, hi⟩ := hg
  refine ⟨i, ?_⟩
  subst h0 hv
  have hi' : exec E.G (call E i) (List.length ([] : H)) i body ⟨args ++ List.replicate (nt - args.length) .undef, [], [], []⟩ = some (e, s) := hi
  have hr' : callRes (List.length ([] : H)) false res s = some x := hr
  simp only [pureBody, hm, hf, callBody, hi']
  rcases he with rfl | rfl <;> simp only [callEnd, hr']
theorem pures_memo {E : Env} {f : FuncId} {args : List V} {v : V} (hm : E.memo f args = some v) : Pures E f args v := ⟨0, pure_memo hm⟩
end Go.Mini

namespace Go.Mini
set_option linter.unusedVariables false
set_option linter.unusedSimpArgs false
variable {E : Env} {t : List V} {h : H} {x y a b : Opd} {m n : Int} {k : IntKind} {cmp : Cmp}

theorem wrapF_i64 {n : Int} (h0 : -9223372036854775808 ≤ n) (h1 : n ≤ 9223372036854775807) : wrapF .i64 n = n := by
  cases n with
  | ofNat m =>
    show (bif Nat.blt m 9223372036854775808 then Int.ofNat m else _) = _
    have : Nat.blt m 9223372036854775808 = true := by rw [Nat.blt_eq]; have : (Int.ofNat m) = (m : Int) := rfl; omega
    rw [this]; rfl
  | negSucc m =>
    show (bif true && Nat.blt m 9223372036854775808 then Int.negSucc m else _) = _
    have : Nat.blt m 9223372036854775808 = true := by rw [Nat.blt_eq]; have : (Int.negSucc m) = -(m : Int) - 1 := by omega
                                                      omega
    rw [this]; rfl
theorem beqI (a b : Int) : eqF a b = decide (a = b) := by rw [eqF_eq]; rfl

theorem ops_add {r : Int} (hx : ev E.G t x = some (.int .i64 m)) (hy : ev E.G t y = some (.int .i64 n)) (hr : m + n = r) (h0 : -9223372036854775808 ≤ r) (h1 : r ≤ 9223372036854775807) : Ops E t (.bin .add cmp x y) h ⟨.int .i64 r, h, [], []⟩ :=
  ops_of (by simp only [opV, op_bin, hx, hy, binV, intV, kindEq, cond_true, forceI_eq, hr, wrapF_i64 h0 h1, one])
theorem ops_sub {r : Int} (hx : ev E.G t x = some (.int .i64 m)) (hy : ev E.G t y = some (.int .i64 n)) (hr : m - n = r) (h0 : -9223372036854775808 ≤ r) (h1 : r ≤ 9223372036854775807) : Ops E t (.bin .sub cmp x y) h ⟨.int .i64 r, h, [], []⟩ :=
  ops_of (by simp only [opV, op_bin, hx, hy, binV, intV, kindEq, cond_true, forceI_eq, hr, wrapF_i64 h0 h1, one])
theorem ops_mul {r : Int} (hx : ev E.G t x = some (.int .i64 m)) (hy : ev E.G t y = some (.int .i64 n)) (hr : m * n = r) (h0 : -9223372036854775808 ≤ r) (h1 : r ≤ 9223372036854775807) : Ops E t (.bin .mul cmp x y) h ⟨.int .i64 r, h, [], []⟩ :=
  ops_of (by simp only [opV, op_bin, hx, hy, binV, intV, kindEq, cond_true, forceI_eq, hr, wrapF_i64 h0 h1, one])
theorem ops_quo {r : Int} (hx : ev E.G t x = some (.int .i64 m)) (hy : ev E.G t y = some (.int .i64 n)) (hn : n ≠ 0) (hr : m.tdiv n = r) (h0 : -9223372036854775808 ≤ r) (h1 : r ≤ 9223372036854775807) : Ops E t (.bin .quo cmp x y) h ⟨.int .i64 r, h, [], []⟩ :=
  ops_of (by
    have : eqF n 0 = false := by rw [beqI]; simpa using hn
    simp only [opV, op_bin, hx, hy, binV, intV, kindEq, cond_true, this, cond_false, forceI_eq, hr, wrapF_i64 h0 h1, one])
theorem ops_rem {r : Int} (hx : ev E.G t x = some (.int .i64 m)) (hy : ev E.G t y = some (.int .i64 n)) (hn : n ≠ 0) (hr : m.tmod n = r) : Ops E t (.bin .rem cmp x y) h ⟨.int .i64 r, h, [], []⟩ :=
  ops_of (by
    have : eqF n 0 = false := by rw [beqI]; simpa using hn
    simp only [opV, op_bin, hx, hy, binV, intV, kindEq, cond_true, this, cond_false, forceI_eq, hr, one])
theorem ops_lss {c : Bool} (hx : ev E.G t x = some (.int .i64 m)) (hy : ev E.G t y = some (.int .i64 n)) (hc : decide (m < n) = c) : Ops E t (.bin .lss cmp x y) h ⟨.bool c, h, [], []⟩ :=
  ops_of (by simp only [opV, op_bin, hx, hy, binV, intV, kindEq, cond_true, ltF_eq, hc, one])
theorem ops_gtr {c : Bool} (hx : ev E.G t x = some (.int .i64 m)) (hy : ev E.G t y = some (.int .i64 n)) (hc : decide (n < m) = c) : Ops E t (.bin .gtr cmp x y) h ⟨.bool c, h, [], []⟩ :=
  ops_of (by simp only [opV, op_bin, hx, hy, binV, intV, kindEq, cond_true, ltF_eq, hc, one])
theorem ops_leq {c : Bool} (hx : ev E.G t x = some (.int .i64 m)) (hy : ev E.G t y = some (.int .i64 n)) (hc : decide (m ≤ n) = c) : Ops E t (.bin .leq cmp x y) h ⟨.bool c, h, [], []⟩ :=
  ops_of (by
    have : (!decide (n < m)) = c := by rw [← hc]; by_cases h : n < m <;> simp [h] <;> omega
    simp only [opV, op_bin, hx, hy, binV, intV, kindEq, cond_true, ltF_eq, this, one])
theorem ops_geq {c : Bool} (hx : ev E.G t x = some (.int .i64 m)) (hy : ev E.G t y = some (.int .i64 n)) (hc : decide (n ≤ m) = c) : Ops E t (.bin .geq cmp x y) h ⟨.bool c, h, [], []⟩ :=
  ops_of (by
    have : (!decide (m < n)) = c := by rw [← hc]; by_cases h : m < n <;> simp [h] <;> omega
    simp only [opV, op_bin, hx, hy, binV, intV, kindEq, cond_true, ltF_eq, this, one])
theorem ops_eql {c : Bool} (hx : ev E.G t x = some (.int k m)) (hy : ev E.G t y = some (.int k n)) (hc : decide (m = n) = c) : Ops E t (.bin .eql cmp x y) h ⟨.bool c, h, [], []⟩ :=
  ops_of (by
    have : kindEq k k = true := by cases k <;> rfl
    simp only [opV, op_bin, hx, hy, binV, intV, this, cond_true, beqI, hc, one])
theorem ops_neq {c : Bool} (hx : ev E.G t x = some (.int k m)) (hy : ev E.G t y = some (.int k n)) (hc : (!decide (m = n)) = c) : Ops E t (.bin .neq cmp x y) h ⟨.bool c, h, [], []⟩ :=
  ops_of (by
    have : kindEq k k = true := by cases k <;> rfl
    simp only [opV, op_bin, hx, hy, binV, intV, this, cond_true, beqI, hc, one])
theorem ops_load {bb v i o : Nat} {row : Row} {el : List V} {agg : Option Nat} {u : V} (ha : ev E.G t a = some (.ptr bb v i o)) (hr : rowAt h bb v = some row) (he : row.els[i]? = some el) (hl : loadC agg (el.drop o) = some u) : Ops E t (.load agg a) h ⟨u, h, [bb], []⟩ :=
  ops_of (by simp only [opV, op_load, ha, deref, hr, he, hl])
theorem ops_loadR {cells : List V} {agg : Option Nat} {u : V} (ha : ev E.G t a = some (.rp cells)) (hl : loadC agg cells = some u) : Ops E t (.load agg a) h ⟨u, h, [], []⟩ :=
  ops_of (by simp only [opV, op_load, ha, deref, hl])
theorem ops_store {bb v i o n : Nat} {row : Row} {el : List V} {u : V} {h' : H} (ha : ev E.G t a = some (.ptr bb v i o)) (hx : ev E.G t x = some u) (hr : rowAt h bb v = some row) (hv : v = row.cur) (hn : u.cells.length = n) (hl : u.lies = true) (he : row.els[i]? = some el) (ho : o + n ≤ el.length) (hh : h.set bb (.row { row with els := row.els.set i (setFrom el o u.cells), rd := row.cur }) = h') : Ops E t (.store n a x) h ⟨.undef, h', [], [bb]⟩ :=
  ops_of (by subst hh; simp only [opV, op_store, ha, hx, storeV, hr]; rw [if_pos ⟨hv, hn, hl⟩]; simp only [he, if_pos ho])
theorem ops_iaddr {bb v sz i m' s : Nat} {c : Bool} (hx : ev E.G t x = some (.os bb v sz i m' c)) (hy : ev E.G t y = some (.int k n)) (h0 : 0 ≤ n) (h1 : n < m') (hs : sz = s) {j : Nat} (hj : i + n.toNat = j) : Ops E t (.iaddr s x y) h ⟨.ptr bb v j 0, h, [], []⟩ :=
  ops_of (by subst hj; simp only [opV, op_iaddr, hx, hy]; rw [if_pos ⟨h0, h1, hs⟩])
theorem ops_iaddrR {sz s : Nat} {els : List (List V)} {el : List V} (hx : ev E.G t x = some (.rs sz els)) (hy : ev E.G t y = some (.int k n)) (h0 : 0 ≤ n) (hs : sz = s) (he : els[n.toNat]? = some el) : Ops E t (.iaddr s x y) h ⟨.rp el, h, [], []⟩ :=
  ops_of (by simp only [opV, op_iaddr, hx, hy]; rw [if_pos ⟨h0, hs⟩, he])
theorem ops_conv {k' : IntKind} (hx : ev E.G t x = some (.int k' n)) (h0 : -9223372036854775808 ≤ n) (h1 : n ≤ 9223372036854775807) : Ops E t (.convI .i64 x) h ⟨.int .i64 n, h, [], []⟩ :=
  ops_of (by simp only [opV, op_convI, hx, forceI_eq, wrapF_i64 h0 h1])
theorem ops_min2 {r : Int} {xs : List Opd} (hx : evs E.G t xs = some [.int .i64 m, .int .i64 n]) (hr : (if n < m then n else m) = r) : Ops E t (.minmax false xs) h ⟨.int .i64 r, h, [], []⟩ :=
  ops_of (by simp only [opV, op_minmax, hx, minV, cond_false, ltF_eq, cond_eq_ite, decide_eq_true_eq, hr]; rfl)
theorem ops_max2 {r : Int} {xs : List Opd} (hx : evs E.G t xs = some [.int .i64 m, .int .i64 n]) (hr : (if m < n then n else m) = r) : Ops E t (.minmax true xs) h ⟨.int .i64 r, h, [], []⟩ :=
  ops_of (by simp only [opV, op_minmax, hx, minV, cond_true, ltF_eq, cond_eq_ite, decide_eq_true_eq, hr]; rfl)
theorem rowAt_of {bb v : Nat} {row : Row} (hb : h[bb]? = some (.row row)) (h0 : row.rd ≤ v) (h1 : v ≤ row.cur) : rowAt h bb v = some row := by
  simp only [rowAt, hb]; rw [if_pos ⟨h0, h1⟩]
theorem set_at {bb : Nat} {o : Ob} (hb : bb < h.length) : (h.set bb o)[bb]? = some o := List.getElem?_set_self hb
theorem set_ne {bb c : Nat} {o : Ob} (hb : bb ≠ c) : (h.set bb o)[c]? = h[c]? := List.getElem?_set_ne hb
end Go.Mini

namespace Go.Mini
set_option linter.unusedVariables false
set_option linter.unusedSimpArgs false

/-- by slots: the modulus -/
def tnt : List (Nat × Nat) → Nat → Option Nat
  | [], _ => none
  | (d, c) :: rest, i => if d = i then some c else tnt rest i
def clean (D : List (Nat × Nat)) (l : List Nat) : Bool := l.all fun d => (tnt D d).isNone
/-- the same, or alike by a modulus -/
def Sim (c : Nat) (x y : Option V) : Prop := x = y ∨ ∃ k, ∃ n m : Nat, x = some (.int k n) ∧ y = some (.int k m) ∧ n < 65536 ∧ m < 65536 ∧ n % c = m % c
def SimS (D : List (Nat × Nat)) (t t' : List V) : Prop := t.length = t'.length ∧ ∀ i, match tnt D i with
  | none => t[i]? = t'[i]?
  | some c => Sim c t[i]? t'[i]?
structure SimSt (D : List (Nat × Nat)) (s s' : St) : Prop where
  t : SimS D s.t s'.t
  h : s.h = s'.h
  r : s.r = s'.r
  w : s.w = s'.w

def operTn (D : List (Nat × Nat)) (o : MOper) : Bool :=
  (match o.guard with | some (d, _) => (tnt D d).isNone | none => true) &&
  (clean D o.op.slots || match o.op with
    | .mv (.t d) => match tnt D d, o.dst with
      | some c, some e => tnt D e == some c
      | _, _ => false
    | .convI k (.t d) => decide (65536 ≤ halfK k) && match tnt D d, o.dst with
      | some c, some e => tnt D e == some c
      | _, _ => false
    | .bin .rem _ (.t d) (.c (.int _ (.ofNat n))) => decide (n ≠ 0) && tnt D d == some n
    | _ => false)
def codeTn (D : List (Nat × Nat)) : MCode → Bool
  | .skip | .ret | .exit _ => true
  | .seq a b => codeTn D a && codeTn D b
  | .cond c a b => clean D c.slot && codeTn D a && codeTn D b
  | .block _ c => codeTn D c
  | .loop c => codeTn D c
  | .reg ops => ops.all (operTn D)
  | .draw ops _ => ops.all (operTn D)
def resTn (D : List (Nat × Nat)) : List MRes → Bool
  | [] => true
  | .tmp i :: rest => (tnt D i).isNone && resTn D rest
  | .cell a _ :: rest => (tnt D a).isNone && resTn D rest

variable {D : List (Nat × Nat)} {G : Nat → Option V} {C : FuncId → List V → H → Option Res} {s s' : St} {t t' : List V}

theorem SimS.at (h : SimS D t t') {l : List Nat} (hl : clean D l = true) : ∀ d ∈ l, t[d]? = t'[d]? := by
  intro d hd
  have := List.all_eq_true.1 hl d hd
  have h2 := h.2 d
  rw [Option.isNone_iff_eq_none] at this
  rw [this] at h2; exact h2
theorem SimS.put (h : SimS D t t') {d : Option Nat} {x y : V} (hxy : ∀ e, d = some e → match tnt D e with | none => x = y | some c => Sim c (some x) (some y)) : SimS D (putV t d x) (putV t' d y) := by
  cases d with
  | none => exact h
  | some e =>
    refine ⟨by simp [putV, h.1], fun i => ?_⟩
    have h2 := h.2 i
    have h3 := hxy e rfl
    simp only [putV]
    by_cases hi : e = i
    · subst hi
      by_cases hl : e < t.length
      · rw [List.getElem?_set_self hl, List.getElem?_set_self (by rw [← h.1]; exact hl)]
        split at h3
        · first | (rw [h3]; done) | (rename_i hc; rw [hc, h3])
        · first | exact h3 | (rename_i c hc; rw [hc]; exact h3)
      · rw [List.set_eq_of_length_le (by omega), List.set_eq_of_length_le (by rw [← h.1]; omega)]; exact h2
    · rw [List.getElem?_set_ne hi, List.getElem?_set_ne hi]; exact h2
theorem wanted_sim (h : SimS D t t') {g : Option (Nat × Bool)} (hg : (match g with | some (d, _) => (tnt D d).isNone | none => true) = true) : wantedV t g = wantedV t' g := by
  cases g with
  | none => rfl
  | some p =>
    obtain ⟨d, w⟩ := p
    have := h.at (l := [d]) (by simp only [clean, List.all_cons, List.all_nil, Bool.and_true]; exact hg) d (by simp)
    simp only [wantedV, this]
theorem wrapF_small {k : IntKind} {n : Nat} (hk : 65536 ≤ halfK k) (hn : n < 65536) : wrapF k (n : Int) = n := by
  show (bif Nat.blt n (halfK k) then (Int.ofNat n) else _) = _
  rw [show Nat.blt n (halfK k) = true by rw [Nat.blt_eq]; omega]; rfl
theorem eqF_zero {n : Nat} (h : n ≠ 0) : eqF (.ofNat n) 0 = false := by
  cases n with
  | zero => exact absurd rfl h
  | succ n => rfl
theorem tmod_sim {n m c : Nat} (h : n % c = m % c) : (n : Int).tmod (c : Int) = (m : Int).tmod (c : Int) := by
  show ((n % c : Nat) : Int) = ((m % c : Nat) : Int)
  rw [h]

theorem op_sim (h : SimS D t t') {o : MOper} (ho : operTn D o = true) {H0 : H} : 
    (opV G C t o.op H0 = none ∧ opV G C t' o.op H0 = none) ∨ ∃ r v, opV G C t o.op H0 = some r ∧ opV G C t' o.op H0 = some ⟨v, r.h, r.r, r.w⟩ ∧ ∀ e, o.dst = some e → match tnt D e with | none => r.v = v | some c => Sim c (some r.v) (some v) := by
  have same : opV G C t o.op H0 = opV G C t' o.op H0 → (opV G C t o.op H0 = none ∧ opV G C t' o.op H0 = none) ∨ ∃ r v, opV G C t o.op H0 = some r ∧ opV G C t' o.op H0 = some ⟨v, r.h, r.r, r.w⟩ ∧ ∀ e, o.dst = some e → match tnt D e with | none => r.v = v | some c => Sim c (some r.v) (some v) := by
    intro he
    rw [he]
    rcases hq : opV G C t' o.op H0 with _ | r
    · exact .inl ⟨rfl, rfl⟩
    · refine .inr ⟨r, r.v, rfl, rfl, fun e _ => ?_⟩
      split <;> first | rfl | exact .inl rfl
  simp only [operTn, Bool.and_eq_true, Bool.or_eq_true] at ho
  rcases ho.2 with hc | hc
  · exact same (opV_congr fun d hd => h.at hc d hd)
  · obtain ⟨dst, op, g⟩ := o
    simp only at hc same ⊢
    split at hc
    · rename_i d
      split at hc
      · rename_i c e h1 
        have h2 := h.2 d
        rw [h1] at h2
        rcases h2 with h2 | ⟨k, n, m, e1, e2, l1, l2, l3⟩
        · exact same (opV_congr fun i hi => by simp [MOp.slots, Opd.slot] at hi; subst hi; exact h2)
        · refine .inr ⟨⟨.int k n, H0, [], []⟩, .int k m, ?_, ?_, ?_⟩
          · simp only [opV, op_mv, ev, e1, one]
          · simp only [opV, op_mv, ev, e2, one]
          · intro e' he; cases he
            rw [eq_of_beq hc]
            exact .inr ⟨k, n, m, rfl, rfl, l1, l2, l3⟩
      · cases hc
    · rename_i k d
      simp only [Bool.and_eq_true, decide_eq_true_eq] at hc
      obtain ⟨hk, hc⟩ := hc
      split at hc
      · rename_i c e h1
        have h2 := h.2 d
        rw [h1] at h2
        rcases h2 with h2 | ⟨k', n, m, e1, e2, l1, l2, l3⟩
        · exact same (opV_congr fun i hi => by simp [MOp.slots, Opd.slot] at hi; subst hi; exact h2)
        · refine .inr ⟨⟨.int k n, H0, [], []⟩, .int k m, ?_, ?_, ?_⟩
          · simp only [opV, op_convI, ev, e1, wrapF_small hk l1, forceI_eq]
          · simp only [opV, op_convI, ev, e2, wrapF_small hk l2, forceI_eq]
          · intro e' he; cases he
            rw [eq_of_beq hc]
            exact .inr ⟨k, n, m, rfl, rfl, l1, l2, l3⟩
      · cases hc
    · rename_i cmp d k2 c
      simp only [Bool.and_eq_true, decide_eq_true_eq] at hc
      obtain ⟨h0, h1⟩ := hc
      have h1 := eq_of_beq h1
      have h2 := h.2 d
      rw [h1] at h2
      rcases h2 with h2 | ⟨k, n, m, e1, e2, l1, l2, l3⟩
      · exact same (opV_congr fun i hi => by simp [MOp.slots, Opd.slot] at hi; subst hi; exact h2)
      · apply same
        have hz := eqF_zero h0
        simp only [opV, op_bin, ev, e1, e2, binV, intV, hz, forceI_eq]
        have := tmod_sim l3
        show one (bif kindEq k k2 then (bif false then none else some (V.int k ((n : Int).tmod (c : Int)))) else none) H0 = _
        rw [this]; rfl
    · cases hc

theorem reg_sim : ∀ {ms : List MOper} {n0 : Nat} {s s' s1 : St}, ms.all (operTn D) = true → SimSt D s s' → regV G C n0 ms s' = some s1 → ∃ s2, regV G C n0 ms s = some s2 ∧ SimSt D s2 s1
  | [], n0, s, s', s1, _, h, hr => by
    simp only [regV, Option.some.injEq] at hr; subst hr
    exact ⟨s, rfl, h⟩
  | o :: ms, n0, s, s', s1, ho, h, hr => by
    simp only [List.all_cons, Bool.and_eq_true] at ho
    have hw := wanted_sim h.t (g := o.guard) (by have := ho.1; simp only [operTn, Bool.and_eq_true] at this; exact this.1)
    simp only [regV] at hr ⊢
    rw [hw]
    rcases hq : wantedV s'.t o.guard with _ | _
    · rw [hq] at hr; simp only [cond_false] at hr ⊢
      refine reg_sim (s := ⟨putV s.t o.dst .undef, s.h, s.r, s.w⟩) (s' := ⟨putV s'.t o.dst .undef, s'.h, s'.r, s'.w⟩) ho.2 ⟨h.t.put fun e _ => ?_, h.h, h.r, h.w⟩ hr
      split <;> first | rfl | exact .inl rfl
    · rw [hq] at hr; simp only [cond_true] at hr ⊢
      rw [← h.h] at hr
      rcases op_sim (G := G) (C := C) h.t ho.1 (H0 := s.h) with ⟨h1, h2⟩ | ⟨r, v, h1, h2, h3⟩
      · rw [h2] at hr; cases hr
      · rw [h2] at hr; rw [h1]
        simp only [regStep] at hr ⊢
        exact reg_sim (s := regPut n0 s o.dst r) (s' := regPut n0 s' o.dst ⟨v, r.h, r.r, r.w⟩) ho.2 ⟨h.t.put h3, rfl, by simp only [regPut, h.r], by simp only [regPut, h.w]⟩ hr
theorem draw_sim : ∀ {ms : List MOper} {n0 j : Nat} {masks : List Nat} {fs : List (Nat × List Nat × List Nat)} {s s' s1 : St}, ms.all (operTn D) = true → SimSt D s s' → drawV G C n0 ms j masks fs s' = some s1 → ∃ s2, drawV G C n0 ms j masks fs s = some s2 ∧ SimSt D s2 s1
  | [], n0, j, masks, fs, s, s', s1, _, h, hr => by
    simp only [drawV, Option.some.injEq] at hr; subst hr
    exact ⟨s, rfl, h⟩
  | o :: ms, n0, j, [], fs, s, s', s1, ho, h, hr => by simp [drawV] at hr
  | o :: ms, n0, j, m :: masks, fs, s, s', s1, ho, h, hr => by
    simp only [List.all_cons, Bool.and_eq_true] at ho
    have hw := wanted_sim h.t (g := o.guard) (by have := ho.1; simp only [operTn, Bool.and_eq_true] at this; exact this.1)
    simp only [drawV] at hr ⊢
    rw [hw]
    rcases hq : wantedV s'.t o.guard with _ | _
    · rw [hq] at hr; simp only [cond_false] at hr ⊢
      refine draw_sim (s := ⟨putV s.t o.dst .undef, s.h, s.r, s.w⟩) (s' := ⟨putV s'.t o.dst .undef, s'.h, s'.r, s'.w⟩) ho.2 ⟨h.t.put fun e _ => ?_, h.h, h.r, h.w⟩ hr
      split <;> first | rfl | exact .inl rfl
    · rw [hq] at hr; simp only [cond_true] at hr ⊢
      rw [← h.h] at hr
      rcases op_sim (G := G) (C := C) h.t ho.1 (H0 := s.h) with ⟨h1, h2⟩ | ⟨r, v, h1, h2, h3⟩
      · rw [h2] at hr; cases hr
      · rw [h2] at hr; rw [h1]
        simp only [drawStep, ← h.h] at hr ⊢
        have ea : allW s.h ⟨v, r.h, r.r, r.w⟩ = allW s.h r := rfl
        rw [ea] at hr
        rcases hf : freeAt m r.r (allW s.h r) fs with _ | _
        · rw [hf] at hr; cases hr
        · rw [hf] at hr; simp only [cond_true] at hr ⊢
          exact draw_sim (s := regPut n0 s o.dst r) (s' := regPut n0 s' o.dst ⟨v, r.h, r.r, r.w⟩) ho.2 ⟨h.t.put h3, rfl, by simp only [regPut, h.r], by simp only [regPut, h.w]⟩ hr
theorem exec_sim : ∀ {k : Nat} {n0 : Nat} {c : MCode} {s s' : St} {e : Ex} {s1 : St}, codeTn D c = true → SimSt D s s' → exec G C n0 k c s' = some (e, s1) → ∃ s2, exec G C n0 k c s = some (e, s2) ∧ SimSt D s2 s1
  | 0, n0, c, s, s', e, s1, _, _, hx => by cases hx
  | k + 1, n0, c, s, s', e, s1, hc, h, hx => by
    cases c with
    | skip => cases hx; exact ⟨s, rfl, h⟩
    | ret => cases hx; exact ⟨s, rfl, h⟩
    | exit id => cases hx; exact ⟨s, rfl, h⟩
    | seq a b =>
      simp only [codeTn, Bool.and_eq_true] at hc
      simp only [exec, exStep] at hx ⊢
      rcases ha : exec G C n0 k a s' with _ | ⟨e1, s3⟩
      · rw [ha] at hx; cases hx
      rw [ha] at hx
      obtain ⟨s4, h1, h2⟩ := exec_sim hc.1 h ha
      rw [h1]
      cases e1 with
      | normal => exact exec_sim hc.2 h2 hx
      | exit id => cases hx; exact ⟨s4, rfl, h2⟩
      | ret => cases hx; exact ⟨s4, rfl, h2⟩
    | cond x a b =>
      simp only [codeTn, Bool.and_eq_true] at hc
      simp only [exec, exStep] at hx ⊢
      have hv : ev G s.t x = ev G s'.t x := ev_congr fun d hd => h.t.at hc.1.1 d hd
      rw [hv]
      rcases hq : ev G s'.t x with _ | v
      · rw [hq] at hx; cases hx
      rw [hq] at hx
      cases v <;> simp only [exCond] at hx ⊢ <;> try (cases hx; done)
      rename_i bb
      cases bb
      · exact exec_sim hc.2 h hx
      · exact exec_sim hc.1.2 h hx
    | block id a =>
      simp only [codeTn] at hc
      simp only [exec, exStep] at hx ⊢
      rcases ha : exec G C n0 k a s' with _ | ⟨e1, s3⟩
      · rw [ha] at hx; cases hx
      rw [ha] at hx
      obtain ⟨s4, h1, h2⟩ := exec_sim hc h ha
      rw [h1]
      cases e1 with
      | normal => cases hx; exact ⟨s4, rfl, h2⟩
      | ret => cases hx; exact ⟨s4, rfl, h2⟩
      | exit id' =>
        simp only [exBlock] at hx ⊢
        split at hx
        · rename_i hi; cases hx; rw [if_pos hi]; exact ⟨s4, rfl, h2⟩
        · rename_i hi; cases hx; rw [if_neg hi]; exact ⟨s4, rfl, h2⟩
    | loop a =>
      have hc' := hc
      simp only [codeTn] at hc
      simp only [exec, exStep] at hx ⊢
      rcases ha : exec G C n0 k a s' with _ | ⟨e1, s3⟩
      · rw [ha] at hx; cases hx
      rw [ha] at hx
      obtain ⟨s4, h1, h2⟩ := exec_sim hc h ha
      rw [h1]
      cases e1 with
      | normal => exact exec_sim hc' h2 hx
      | exit id => cases hx; exact ⟨s4, rfl, h2⟩
      | ret => cases hx; exact ⟨s4, rfl, h2⟩
    | reg ops =>
      simp only [exec, exStep] at hx ⊢
      rcases ha : regV G C n0 ops s' with _ | s3
      · rw [ha] at hx; cases hx
      rw [ha] at hx; cases hx
      obtain ⟨s4, h1, h2⟩ := reg_sim hc h ha
      rw [h1]; exact ⟨s4, rfl, h2⟩
    | draw ops masks =>
      simp only [exec, exStep] at hx ⊢
      rcases ha : drawV G C n0 ops 0 masks [] s' with _ | s3
      · rw [ha] at hx; cases hx
      rw [ha] at hx; cases hx
      obtain ⟨s4, h1, h2⟩ := draw_sim hc h ha
      rw [h1]; exact ⟨s4, rfl, h2⟩

theorem res_sim (h : SimS D t t') {H0 : H} : ∀ {res : List MRes}, resTn D res = true → resV H0 t res = resV H0 t' res
  | [], _ => rfl
  | .tmp i :: rest, hr => by
    simp only [resTn, Bool.and_eq_true] at hr
    have := h.at (l := [i]) (by simp only [clean, List.all_cons, List.all_nil, Bool.and_true]; exact hr.1) i (by simp)
    simp only [resV, this, res_sim h hr.2]
  | .cell a agg :: rest, hr => by
    simp only [resTn, Bool.and_eq_true] at hr
    have := h.at (l := [a]) (by simp only [clean, List.all_cons, List.all_nil, Bool.and_true]; exact hr.1) a (by simp)
    simp only [resV, this, res_sim h hr.2]

/-- The answer at other numbers. -/
theorem pure_sim {E : Env} {C : FuncId → List V → H → Option Res} {n : Nat} {f : FuncId} {args args' : List V} {m : MFunc} {v : V} (D : List (Nat × Nat)) (hm : ∀ as, E.memo f as = none) (hf : E.fn f = some m) (hc : (codeTn D m.body && resTn D m.res) = true)
    (ha : SimS D (args ++ List.replicate (m.ntmps - args.length) .undef) (args' ++ List.replicate (m.ntmps - args'.length) .undef)) (hx : pureBody E C n f args' = some v) : pureBody E C n f args = some v := by
  simp only [Bool.and_eq_true] at hc
  simp only [pureBody, hm, hf, callBody] at hx ⊢
  rcases hq : exec E.G C (List.length ([] : H)) n m.body ⟨args' ++ List.replicate (m.ntmps - args'.length) .undef, [], [], []⟩ with _ | ⟨e, s1⟩
  · rw [hq] at hx; simp [callEnd] at hx
  obtain ⟨s2, h1, h2⟩ := exec_sim hc.1 (s := ⟨args ++ List.replicate (m.ntmps - args.length) .undef, [], [], []⟩) (s' := ⟨args' ++ List.replicate (m.ntmps - args'.length) .undef, [], [], []⟩) ⟨ha, rfl, rfl, rfl⟩ hq
  rw [h1]; rw [hq] at hx
  have hr : callRes (List.length ([] : H)) false m.res s2 = callRes (List.length ([] : H)) false m.res s1 := by
    simp only [callRes, callOut, h2.h, h2.r, h2.w, res_sim h2.t hc.2]
  cases e <;> simp only [callEnd, hr] at hx ⊢ <;> exact hx
theorem simS_args {args args' : List V} {n : Nat} (hl : args.length = args'.length) (h : ∀ i, i < args.length → match tnt D i with | none => args[i]? = args'[i]? | some c => Sim c args[i]? args'[i]?) : SimS D (args ++ List.replicate (n - args.length) .undef) (args' ++ List.replicate (n - args'.length) .undef) := by
  refine ⟨by simp [hl], fun i => ?_⟩
  by_cases hi : i < args.length
  · have := h i hi
    rw [List.getElem?_append_left hi, List.getElem?_append_left (by omega)]; exact this
  · rw [List.getElem?_append_right (by omega), List.getElem?_append_right (by omega), hl]
    split <;> first | rfl | exact .inl rfl
/-- arguments alike -/
def ArgsSim (D : List (Nat × Nat)) : Nat → List V → List V → Prop
  | _, [], [] => True
  | i, x :: xs, y :: ys => (match tnt D i with | none => x = y | some c => Sim c (some x) (some y)) ∧ ArgsSim D (i + 1) xs ys
  | _, _, _ => False
theorem ArgsSim.at : ∀ {xs ys : List V} {k : Nat}, ArgsSim D k xs ys → xs.length = ys.length ∧ ∀ i, i < xs.length → match tnt D (k + i) with | none => xs[i]? = ys[i]? | some c => Sim c xs[i]? ys[i]?
  | [], [], k, _ => ⟨rfl, fun i hi => by simp at hi⟩
  | [], y :: ys, k, h => h.elim
  | x :: xs, [], k, h => h.elim
  | x :: xs, y :: ys, k, h => by
    obtain ⟨h1, h2⟩ := h
    obtain ⟨h3, h4⟩ := h2.at
    refine ⟨by simp [h3], fun i hi => ?_⟩
    cases i with
    | zero =>
      simp only [Nat.add_zero, List.getElem?_cons_zero]
      split at h1
      · rw [h1]
      · exact h1
    | succ i =>
      have := h4 i (by simpa using hi)
      rw [show k + 1 + i = k + (i + 1) by omega] at this
      simpa using this
theorem memoOf_none {f : FuncId} : ∀ {l : List (FuncId × List V × V)}, (l.all fun e => !(Nat.beq f e.1)) = true → ∀ as, memoOf l f as = none
  | [], _, _ => rfl
  | (g, bs, v) :: rest, h, as => by
    simp only [List.all_cons, Bool.and_eq_true, Bool.not_eq_true'] at h
    simp only [memoOf, h.1, Bool.false_and, cond_false]
    exact memoOf_none h.2 as
/-- a call at numbers that are alike, from one that the kernel runs -/
theorem sim_fast {P : Program} {tab : FuncId → Option MFunc} (ht : ∀ f m, tab f = some m → ∃ fn, P.funcs[f]? = some fn ∧ compF P fn = some m) (hmix : P.follows .mixedOrders = true) (mode : FuncId → Mode) {l : List (FuncId × List V × V)} (hl : Known P l) (k : Nat) (D : List (Nat × Nat)) {f : FuncId} {m : MFunc} {args args' : List V} {v : V} (hf : tab f = some m)
    (hc : (codeTn D m.body && resTn D m.res && (l.all fun e => !(Nat.beq f e.1)) && args'.all (low 100)) = true) (hs : ArgsSim D 0 args args') (hvb : ∀ x ∈ args, VB 0 x)
    (hx : pureBodyF (envOf tab mode l) (callF (envOf tab mode l) k) k f args' = some v) : PureOk P (fun _ => none) f args v := by
  simp only [Bool.and_eq_true] at hc
  obtain ⟨⟨⟨h1, h2⟩, h3⟩, h4⟩ := hc
  have hx' := pureBodyF_ok (callF_ok k) hx
  obtain ⟨e1, e2⟩ := hs.at
  have e3 : SimS D (args ++ List.replicate (m.ntmps - args.length) .undef) (args' ++ List.replicate (m.ntmps - args'.length) .undef) := simS_args (n := m.ntmps) e1 (fun i hi => by
    have := e2 i hi
    rw [Nat.zero_add] at this; exact this)
  exact pure_of_call (envOf_ok ht mode hl) hmix hvb (pure_sim (E := envOf tab mode l) D (memoOf_none h3) hf (by rw [h1, h2]; rfl) e3 hx')
/-- the number of a small whole number -/
theorem u8_nat {z : Int} (h0 : (0 : Int) ≤ z) (h1 : z ≤ 255) : ∃ n : Nat, z = n ∧ n < 256 := ⟨z.toNat, by omega, by omega⟩
theorem sim_at {k : IntKind} {n m c : Nat} (hn : n < 65536) (hm : m < 65536) (h : n % c = m % c) : Sim c (some (.int k n)) (some (.int k m)) := .inr ⟨k, n, m, rfl, rfl, hn, hm, h⟩
end Go.Mini

namespace Go.Mini
open Go.RowKit
set_option linter.unusedVariables false
set_option linter.unusedSimpArgs false
variable {P : Program} {G : Nat → Option V}

def KnownG (P : Program) (G : Nat → Option V) (l : List (FuncId × List V × V)) : Prop := ∀ e ∈ l, PureOk P G e.1 e.2.1 e.2.2
theorem KnownG.nil : KnownG P G [] := fun e h => by simp at h
theorem KnownG.cons {e : FuncId × List V × V} {l : List (FuncId × List V × V)} (h : PureOk P G e.1 e.2.1 e.2.2) (hl : KnownG P G l) : KnownG P G (e :: l) := by
  intro x hx
  rcases List.mem_cons.1 hx with rfl | hx
  · exact h
  · exact hl x hx
theorem memoOf_okG : ∀ {l : List (FuncId × List V × V)}, KnownG P G l → ∀ {f args v}, memoOf l f args = some v → PureOk P G f args v
  | [], _, f, args, v, h => by simp [memoOf] at h
  | (g, as, u) :: rest, hl, f, args, v, h => by
    simp only [memoOf, cond_eq_ite, Bool.and_eq_true] at h
    split at h
    · rename_i hc; cases h
      have h1 := Nat.eq_of_beq_eq_true hc.1
      have h2 := beqL_ok (fun x y h => beqV_ok h) hc.2
      subst h1 h2
      exact hl (f, args, u) (by simp)
    · exact memoOf_okG (fun e he => hl e (by simp [he])) h
def envG (tab : FuncId → Option MFunc) (mode : FuncId → Mode) (G : Nat → Option V) (l : List (FuncId × List V × V)) : Env := ⟨tab, mode, memoOf l, G⟩
theorem envG_ok {tab : FuncId → Option MFunc} (ht : ∀ f m, tab f = some m → ∃ fn, P.funcs[f]? = some fn ∧ compF P fn = some m) (mode : FuncId → Mode) (hg : GB G) {l : List (FuncId × List V × V)} (hl : KnownG P G l) : EnvOk P (envG tab mode G l) :=
  ⟨⟨ht, hg⟩, fun f args v h => memoOf_okG hl h⟩
theorem known_fastG {tab : FuncId → Option MFunc} (ht : ∀ f m, tab f = some m → ∃ fn, P.funcs[f]? = some fn ∧ compF P fn = some m) (hmix : P.follows .mixedOrders = true) (mode : FuncId → Mode) (hg : GB G) {l : List (FuncId × List V × V)} (hl : KnownG P G l) (k : Nat) {f : FuncId} {args : List V} {v : V} (ha : args.all (low 100) = true)
    (hx : pureBodyF (envG tab mode G l) (callF (envG tab mode G l) k) k f args = some v) : PureOk P G f args v :=
  pure_of_call (envG_ok ht mode hg hl) hmix (fun x hx => low_ok (List.all_eq_true.1 ha x hx)) (pureBodyF_ok (callF_ok k) hx)
theorem sim_fastG {tab : FuncId → Option MFunc} (ht : ∀ f m, tab f = some m → ∃ fn, P.funcs[f]? = some fn ∧ compF P fn = some m) (hmix : P.follows .mixedOrders = true) (mode : FuncId → Mode) (hg : GB G) {l : List (FuncId × List V × V)} (hl : KnownG P G l) (k : Nat) (D : List (Nat × Nat)) {f : FuncId} {m : MFunc} {args args' : List V} {v : V} (hf : tab f = some m)
    (hc : (codeTn D m.body && resTn D m.res && (l.all fun e => !(Nat.beq f e.1)) && args'.all (low 100)) = true) (hs : ArgsSim D 0 args args') (hvb : ∀ x ∈ args, VB 0 x)
    (hx : pureBodyF (envG tab mode G l) (callF (envG tab mode G l) k) k f args' = some v) : PureOk P G f args v := by
  simp only [Bool.and_eq_true] at hc
  obtain ⟨⟨⟨h1, h2⟩, h3⟩, h4⟩ := hc
  have hx' := pureBodyF_ok (callF_ok k) hx
  obtain ⟨e1, e2⟩ := hs.at
  have e3 : SimS D (args ++ List.replicate (m.ntmps - args.length) .undef) (args' ++ List.replicate (m.ntmps - args'.length) .undef) := simS_args (n := m.ntmps) e1 (fun i hi => by
    have := e2 i hi
    rw [Nat.zero_add] at this; exact this)
  exact pure_of_call (envG_ok ht mode hg hl) hmix hvb (pure_sim (E := envG tab mode G l) D (memoOf_none h3) hf (by rw [h1, h2]; rfl) e3 hx')

/-- one listed table -/
def tabG (g : Nat) (cells : List V) (n : Nat) : Option V := bif Nat.beq n g then some (.rp cells) else none
theorem tabG_gb {g : Nat} {cells : List V} (h : cells.all (low 100) = true) : GB (tabG g cells) := by
  intro n v hv
  unfold tabG at hv
  rw [cond_eq_ite] at hv
  split at hv
  · cases hv; exact .rp fun x hx => low_ok (List.all_eq_true.1 h x hx)
  · cases hv
theorem tab_glob {w : World} {name : String} {g : Nat} {k : IntKind} {zs : List Int} {cells : List V} (hg : P.globalNamed name = some g) (h : Lib.TabIs P w name k zs) (hc : cells = zs.map fun z => V.int k z) :
    ∀ n v, tabG g cells n = some v → VR noF w noPhi v (.pointer (some ⟨n, 0, none⟩)) := by
  intro n v hv
  unfold tabG at hv
  rw [cond_eq_ite] at hv
  split at hv
  · rename_i hb
    have := Nat.eq_of_beq_eq_true hb
    subst this
    cases hv
    have hcell : ∀ i, w.cell? ⟨n, i, none⟩ = (zs.map fun z => Value.int k z)[i]? := fun i => by
      rw [World.var?_cell hg h i]; simp
    have key : ∀ (o : Nat) x, cells[o]? = some x → ∃ z, x = .int k z ∧ w.cell? ((⟨n, 0, none⟩ : Addr).add o) = some (.int k z) := by
      intro o x hx
      rw [hc, List.getElem?_map] at hx
      rcases hz : zs[o]? with _ | z
      · rw [hz] at hx; cases hx
      · rw [hz] at hx; cases hx
        refine ⟨z, rfl, ?_⟩
        have : (⟨n, 0, none⟩ : Addr).add o = ⟨n, o, none⟩ := by unfold Addr.add; split <;> simp_all
        rw [this, hcell, List.getElem?_map, hz]; rfl
    refine .rp (fun o x hx => ?_) (fun o x c hx hcc => ?_)
    · obtain ⟨z, rfl, h2⟩ := key o x hx
      exact ⟨fun h => h, rfl, _, h2⟩
    · obtain ⟨z, rfl, h2⟩ := key o x hx
      rw [h2] at hcc; cases hcc; exact .int
  · cases hv
theorem tab_reads {w : World} {name : String} {g : Nat} {k : IntKind} {zs : List Int} {t e : TypeId} {n : Nat} (hg : P.globalNamed name = some g) (hty : (P.globals[g]?).map (·.type) = some t) (ht : P.underlying t = some (.array n e)) (he : P.underlying e = some (.int k)) (hce : P.cellsOf e = 1) (hct : P.cellsOf t = n)
    {l : List (String × DataW Unit)} {ps : List MemPlace} (h : DataW.LaidVars P w l ps) (hm : (name, Lib.tabData k zs) ∈ l) : Lib.TabIs P w name k zs := by
  induction l generalizing ps with
  | nil => cases hm
  | cons x r ih =>
    obtain ⟨n', d'⟩ := x
    obtain ⟨g', t', cs, fuel, p, q, h1, h2, h3, h4, h5, _⟩ := h
    rcases List.mem_cons.1 hm with e0 | e0
    · cases e0
      obtain rfl := Option.some.inj (h1.symm.trans hg)
      obtain rfl := Option.some.inj (h2.symm.trans hty)
      have := Lib.cells_of_tab ht he hce hct h4
      unfold Lib.TabIs
      rw [h3, ← this]
    · exact ih h5 e0
/-- a call that answers true, over a listed table -/
theorem PureOk.belowG {f : FuncId} {args : List V} {b : Bool} (h : PureOk P G f args (.bool b)) {w : World} {cargs : List Value} (ha : VRs noF w noPhi args cargs) (hg : ∀ n v, G n = some v → VR noF w noPhi v (.pointer (some ⟨n, 0, none⟩))) :
    Calls P f ⟨cargs⟩ w (fun e w' => e = .returned (.bool b) ∧ Below w.heap.size w w') := by
  obtain ⟨_, _, hP⟩ := h
  refine (hP noF noPhi w.heap.size w cargs ha (rel_no w) hg).mono fun ed w' ⟨c, hc, forb', φ', k1, k2, k3, k4, k5, k6, k7, k8⟩ => ?_
  cases k1
  exact ⟨hc, k3.os, k3.tape, k3.output, k3.size, fun b hb => k3.keep b hb (fun h => h)⟩
end Go.Mini
