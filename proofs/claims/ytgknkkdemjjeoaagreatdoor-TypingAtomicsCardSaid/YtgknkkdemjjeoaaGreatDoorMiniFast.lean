/- A part of the proof: MiniFast. No condition. -/
import Derived.Test.YtgknkkdemjjeoaaGreatDoorMiniDefs
set_option linter.all false
set_option maxRecDepth 100000
namespace Go.Mini
set_option linter.unusedVariables false
/-! The same machine, made for the kernel: slots in a tree of projections, forced states. -/
structure B8 (α : Type) where
  a0 : α
  a1 : α
  a2 : α
  a3 : α
  a4 : α
  a5 : α
  a6 : α
  a7 : α
structure T where
  b0 : B8 V
  b1 : B8 V
  b2 : B8 V
  b3 : B8 V
  b4 : B8 V
  b5 : B8 V
  b6 : B8 V
  rest : B8 (B8 (B8 V))

noncomputable section
def fL {α : Type} {β : Type} (l : List β) : (List β → α) → α := List.rec (fun k => k []) (fun x _ ih k => ih fun ys => k (x :: ys)) l
/-- a list of rows, forced -/
def fLL {α β : Type} (l : List (List β)) : (List (List β) → α) → α := List.rec (fun k => k []) (fun x _ ih k => fL x fun x => ih fun ys => k (x :: ys)) l
def fV {α : Type} (v : V) (k : V → α) : α := match v with
  | .agg cs => fL cs fun cs => k (.agg cs)
  | .tup cs => fL cs fun cs => k (.tup cs)
  | .fn f cs => fL cs fun cs => k (.fn f cs)
  | .rs sz els => fL els fun els => k (.rs sz els)
  | .rp cs => fL cs fun cs => k (.rp cs)
  | .str s => fL s fun s => k (.str s)
  | .bool b => match b with | true => k (.bool true) | false => k (.bool false)
  | .int kk n => forceI n fun n => k (.int kk n)
  | .ptr b v i o => forceN b fun b => forceN v fun v => forceN i fun i => forceN o fun o => k (.ptr b v i o)
  | .os b v sz i n c => forceN b fun b => forceN v fun v => forceN i fun i => forceN n fun n => match c with | true => k (.os b v sz i n true) | false => k (.os b v sz i n false)
  | v => k v
/-- operations whose result lies there as it is -/
def still : MOp → Bool
  | .mv _ | .pick _ _ _ | .nilc _ | .extract _ _ | .call _ _ | .store _ _ _ => true
  | _ => false
def fO {α : Type} (o : Ob) (k : Ob → α) : α := match o with
  | .row x => match x with | ⟨sz, els, cur, rd⟩ => fLL els fun els => forceN cur fun cur => forceN rd fun rd => k (.row ⟨sz, els, cur, rd⟩)
def fH {α : Type} (l : H) : (H → α) → α := List.rec (fun k => k []) (fun x _ ih k => fO x fun x => ih fun ys => k (x :: ys)) l
/-- a heap, forced where an operation has changed it -/
def fHx {α : Type} (w : List Nat) (n : Nat) (l : H) : Nat → (H → α) → α := List.rec (fun _ k => k []) (fun x _ ih i k => bif Nat.ble n i || w.any (Nat.beq i) then fO x fun x => ih (i + 1) fun ys => k (x :: ys) else ih (i + 1) fun ys => k (x :: ys)) l
def uniF {α : Type} (n0 : Nat) (a b : List Nat) (k : List Nat → α) : α := match a with | [] => k b | _ => fL (uni n0 a b) k
end

structure SF where
  t : T
  h : H
  r : List Nat
  w : List Nat
abbrev OF := Option SF

section
variable {α : Type} {R : Type}
def md0 (t : B8 α) (f : α → (α → R) → R) (k : B8 α → R) : R := match t with | ⟨a0, a1, a2, a3, a4, a5, a6, a7⟩ => f a0 fun x => k ⟨x, a1, a2, a3, a4, a5, a6, a7⟩
def st0 (t : B8 α) (x : α) (k : B8 α → R) : R := match t with | ⟨a0, a1, a2, a3, a4, a5, a6, a7⟩ => k ⟨x, a1, a2, a3, a4, a5, a6, a7⟩
def md1 (t : B8 α) (f : α → (α → R) → R) (k : B8 α → R) : R := match t with | ⟨a0, a1, a2, a3, a4, a5, a6, a7⟩ => f a1 fun x => k ⟨a0, x, a2, a3, a4, a5, a6, a7⟩
def st1 (t : B8 α) (x : α) (k : B8 α → R) : R := match t with | ⟨a0, a1, a2, a3, a4, a5, a6, a7⟩ => k ⟨a0, x, a2, a3, a4, a5, a6, a7⟩
def md2 (t : B8 α) (f : α → (α → R) → R) (k : B8 α → R) : R := match t with | ⟨a0, a1, a2, a3, a4, a5, a6, a7⟩ => f a2 fun x => k ⟨a0, a1, x, a3, a4, a5, a6, a7⟩
def st2 (t : B8 α) (x : α) (k : B8 α → R) : R := match t with | ⟨a0, a1, a2, a3, a4, a5, a6, a7⟩ => k ⟨a0, a1, x, a3, a4, a5, a6, a7⟩
def md3 (t : B8 α) (f : α → (α → R) → R) (k : B8 α → R) : R := match t with | ⟨a0, a1, a2, a3, a4, a5, a6, a7⟩ => f a3 fun x => k ⟨a0, a1, a2, x, a4, a5, a6, a7⟩
def st3 (t : B8 α) (x : α) (k : B8 α → R) : R := match t with | ⟨a0, a1, a2, a3, a4, a5, a6, a7⟩ => k ⟨a0, a1, a2, x, a4, a5, a6, a7⟩
def md4 (t : B8 α) (f : α → (α → R) → R) (k : B8 α → R) : R := match t with | ⟨a0, a1, a2, a3, a4, a5, a6, a7⟩ => f a4 fun x => k ⟨a0, a1, a2, a3, x, a5, a6, a7⟩
def st4 (t : B8 α) (x : α) (k : B8 α → R) : R := match t with | ⟨a0, a1, a2, a3, a4, a5, a6, a7⟩ => k ⟨a0, a1, a2, a3, x, a5, a6, a7⟩
def md5 (t : B8 α) (f : α → (α → R) → R) (k : B8 α → R) : R := match t with | ⟨a0, a1, a2, a3, a4, a5, a6, a7⟩ => f a5 fun x => k ⟨a0, a1, a2, a3, a4, x, a6, a7⟩
def st5 (t : B8 α) (x : α) (k : B8 α → R) : R := match t with | ⟨a0, a1, a2, a3, a4, a5, a6, a7⟩ => k ⟨a0, a1, a2, a3, a4, x, a6, a7⟩
def md6 (t : B8 α) (f : α → (α → R) → R) (k : B8 α → R) : R := match t with | ⟨a0, a1, a2, a3, a4, a5, a6, a7⟩ => f a6 fun x => k ⟨a0, a1, a2, a3, a4, a5, x, a7⟩
def st6 (t : B8 α) (x : α) (k : B8 α → R) : R := match t with | ⟨a0, a1, a2, a3, a4, a5, a6, a7⟩ => k ⟨a0, a1, a2, a3, a4, a5, x, a7⟩
def md7 (t : B8 α) (f : α → (α → R) → R) (k : B8 α → R) : R := match t with | ⟨a0, a1, a2, a3, a4, a5, a6, a7⟩ => f a7 fun x => k ⟨a0, a1, a2, a3, a4, a5, a6, x⟩
def st7 (t : B8 α) (x : α) (k : B8 α → R) : R := match t with | ⟨a0, a1, a2, a3, a4, a5, a6, a7⟩ => k ⟨a0, a1, a2, a3, a4, a5, a6, x⟩
def tp0 (t : T) (f : B8 V → (B8 V → R) → R) (k : T → R) : R := match t with | ⟨a0, a1, a2, a3, a4, a5, a6, a7⟩ => f a0 fun x => k ⟨x, a1, a2, a3, a4, a5, a6, a7⟩
def tp1 (t : T) (f : B8 V → (B8 V → R) → R) (k : T → R) : R := match t with | ⟨a0, a1, a2, a3, a4, a5, a6, a7⟩ => f a1 fun x => k ⟨a0, x, a2, a3, a4, a5, a6, a7⟩
def tp2 (t : T) (f : B8 V → (B8 V → R) → R) (k : T → R) : R := match t with | ⟨a0, a1, a2, a3, a4, a5, a6, a7⟩ => f a2 fun x => k ⟨a0, a1, x, a3, a4, a5, a6, a7⟩
def tp3 (t : T) (f : B8 V → (B8 V → R) → R) (k : T → R) : R := match t with | ⟨a0, a1, a2, a3, a4, a5, a6, a7⟩ => f a3 fun x => k ⟨a0, a1, a2, x, a4, a5, a6, a7⟩
def tp4 (t : T) (f : B8 V → (B8 V → R) → R) (k : T → R) : R := match t with | ⟨a0, a1, a2, a3, a4, a5, a6, a7⟩ => f a4 fun x => k ⟨a0, a1, a2, a3, x, a5, a6, a7⟩
def tp5 (t : T) (f : B8 V → (B8 V → R) → R) (k : T → R) : R := match t with | ⟨a0, a1, a2, a3, a4, a5, a6, a7⟩ => f a5 fun x => k ⟨a0, a1, a2, a3, a4, x, a6, a7⟩
def tp6 (t : T) (f : B8 V → (B8 V → R) → R) (k : T → R) : R := match t with | ⟨a0, a1, a2, a3, a4, a5, a6, a7⟩ => f a6 fun x => k ⟨a0, a1, a2, a3, a4, a5, x, a7⟩
def tp7 (t : T) (f : B8 (B8 (B8 V)) → (B8 (B8 (B8 V)) → R) → R) (k : T → R) : R := match t with | ⟨a0, a1, a2, a3, a4, a5, a6, a7⟩ => f a7 fun x => k ⟨a0, a1, a2, a3, a4, a5, a6, x⟩
/-- a digit's way in -/
def pick8 {β : Type} (d : Nat) (f : (B8 α → α) → (B8 α → (α → (α → R) → R) → (B8 α → R) → R) → β) : β := match d with
  | 0 => f (fun t => t.a0) md0
  | 1 => f (fun t => t.a1) md1
  | 2 => f (fun t => t.a2) md2
  | 3 => f (fun t => t.a3) md3
  | 4 => f (fun t => t.a4) md4
  | 5 => f (fun t => t.a5) md5
  | 6 => f (fun t => t.a6) md6
  | _ => f (fun t => t.a7) md7
def leaf8 {β : Type} (d : Nat) (f : (B8 α → α) → (B8 α → α → (B8 α → R) → R) → β) : β := match d with
  | 0 => f (fun t => t.a0) st0
  | 1 => f (fun t => t.a1) st1
  | 2 => f (fun t => t.a2) st2
  | 3 => f (fun t => t.a3) st3
  | 4 => f (fun t => t.a4) st4
  | 5 => f (fun t => t.a5) st5
  | 6 => f (fun t => t.a6) st6
  | _ => f (fun t => t.a7) st7
def top7 {β : Type} (d : Nat) (f : (T → B8 V) → (T → (B8 V → (B8 V → R) → R) → (T → R) → R) → β) : β := match d with
  | 0 => f (fun t => t.b0) tp0
  | 1 => f (fun t => t.b1) tp1
  | 2 => f (fun t => t.b2) tp2
  | 3 => f (fun t => t.b3) tp3
  | 4 => f (fun t => t.b4) tp4
  | 5 => f (fun t => t.b5) tp5
  | _ => f (fun t => t.b6) tp6
end

structure Slot where
  get : T → V
  set : V → T → (T → OF) → OF
def slotOf (i : Nat) : Slot :=
  bif Nat.blt i 56 then top7 (R := OF) (i / 8) fun g m => leaf8 (α := V) (R := OF) (i % 8) fun g' m' =>
    ⟨fun t => g' (g t), fun v t k => m t (fun u k => m' u v k) k⟩
  else pick8 (α := B8 (B8 V)) (R := OF) ((i - 56) / 64) fun g m => pick8 (α := B8 V) (R := OF) ((i - 56) / 8 % 8) fun g' m' => leaf8 (α := V) (R := OF) ((i - 56) % 8) fun g'' m'' =>
    ⟨fun t => g'' (g' (g t.rest)), fun v t k => tp7 t (fun r k => m r (fun u k => m' u (fun w k => m'' w v k) k) k) k⟩

/-- operands, looked up -/
def sO (t : T) : Opd → Opd
  | .t i => .c ((slotOf i).get t)
  | x => x
def sOs (t : T) (l : List Opd) : List Opd := l.map (sO t)
def sOo (t : T) : Option Opd → Option Opd
  | some x => some (sO t x)
  | none => none
def sP (t : T) (l : List (Nat × Nat × Opd)) : List (Nat × Nat × Opd) := l.map fun p => (p.1, p.2.1, sO t p.2.2)
def sOp (t : T) (o : MOp) : MOp :=
  match o with
  | .mv x => .mv (sO t x)
  | .pick c a b => .pick (sO t c) (sO t a) (sO t b)
  | .alloc cells => .alloc cells
  | .box n x => .box n (sO t x)
  | .build zero parts => .build zero (sP t parts)
  | .bslice sz len zero parts => .bslice sz len zero (sP t parts)
  | .load agg a => .load agg (sO t a)
  | .store n a x => .store n (sO t a) (sO t x)
  | .nilc x => .nilc (sO t x)
  | .bin op cmp x y => .bin op cmp (sO t x) (sO t y)
  | .un op x => .un op (sO t x)
  | .convI k x => .convI k (sO t x)
  | .s2b x => .s2b (sO t x)
  | .b2s x => .b2s (sO t x)
  | .mkfn f cap => .mkfn f (sOs t cap)
  | .mkslice sz bytes zero l c => .mkslice sz bytes zero (sO t l) (sO t c)
  | .cut sz x lo hi mx => .cut sz (sO t x) (sOo t lo) (sOo t hi) (sOo t mx)
  | .cutS x lo hi => .cutS (sO t x) (sOo t lo) (sOo t hi)
  | .faddr off x => .faddr off (sO t x)
  | .field agg off x => .field agg off (sO t x)
  | .iaddr sz x ix => .iaddr sz (sO t x) (sO t ix)
  | .iaddrA len sz x ix => .iaddrA len sz (sO t x) (sO t ix)
  | .index x ix => .index (sO t x) (sO t ix)
  | .idxB x ix => .idxB (sO t x) (sO t ix)
  | .cntB x ix => .cntB (sO t x) (sO t ix)
  | .idxA l g s x ix => .idxA l g s (sO t x) (sO t ix)
  | .extract x i => .extract (sO t x) i
  | .len x => .len (sO t x)
  | .lenS x => .lenS (sO t x)
  | .append sz bytes s x => .append sz bytes (sO t s) (sO t x)
  | .minmax mx xs => .minmax mx (sOs t xs)
  | .call f args => .call (sO t f) (sOs t args)

def heavy : MOp → Bool
  | .alloc _ | .box _ _ | .bslice _ _ _ _ | .store _ _ _ | .s2b _ | .mkslice _ _ _ _ _ | .append _ _ _ _ | .call _ _ => true
  | _ => false

def wantedF (t : T) : Option (Nat × Bool) → Bool
  | none => true
  | some (d, want) => match (slotOf d).get t with
    | .bool b => b == want
    | _ => false

noncomputable section
variable (G : Nat → Option V)
/-- an operation, its kind looked at once -/
structure KOp where
  run : (FuncId → List V → H → Option Res) → T → H → Option Res
def cOp (o : MOp) : KOp :=
  match o with
  | .mv x => ⟨fun C t h => op_mv G [] (sO t x) h⟩
  | .pick c a b => ⟨fun C t h => op_pick G [] (sO t c) (sO t a) (sO t b) h⟩
  | .alloc cells => ⟨fun C t h => op_alloc [] cells h⟩
  | .box n x => ⟨fun C t h => op_box G [] n (sO t x) h⟩
  | .build zero parts => ⟨fun C t h => op_build G [] zero (sP t parts) h⟩
  | .bslice sz len zero parts => ⟨fun C t h => op_bslice G [] sz len zero (sP t parts) h⟩
  | .load agg a => ⟨fun C t h => op_load G [] agg (sO t a) h⟩
  | .store n a x => ⟨fun C t h => op_store G [] n (sO t a) (sO t x) h⟩
  | .nilc x => ⟨fun C t h => op_nilc G [] (sO t x) h⟩
  | .bin op cmp x y => ⟨fun C t h => op_bin G [] op cmp (sO t x) (sO t y) h⟩
  | .un op x => ⟨fun C t h => op_un G [] op (sO t x) h⟩
  | .convI k x => ⟨fun C t h => op_convI G [] k (sO t x) h⟩
  | .s2b x => ⟨fun C t h => op_s2b G [] (sO t x) h⟩
  | .b2s x => ⟨fun C t h => op_b2s G [] (sO t x) h⟩
  | .mkfn f cap => ⟨fun C t h => op_mkfn G [] f (sOs t cap) h⟩
  | .mkslice sz bytes zero l c => ⟨fun C t h => op_mkslice G [] sz bytes zero (sO t l) (sO t c) h⟩
  | .cut sz x lo hi mx => ⟨fun C t h => op_cut G [] sz (sO t x) (sOo t lo) (sOo t hi) (sOo t mx) h⟩
  | .cutS x lo hi => ⟨fun C t h => op_cutS G [] (sO t x) (sOo t lo) (sOo t hi) h⟩
  | .faddr off x => ⟨fun C t h => op_faddr G [] off (sO t x) h⟩
  | .field agg off x => ⟨fun C t h => op_field G [] agg off (sO t x) h⟩
  | .iaddr sz x ix => ⟨fun C t h => op_iaddr G [] sz (sO t x) (sO t ix) h⟩
  | .iaddrA len sz x ix => ⟨fun C t h => op_iaddrA G [] len sz (sO t x) (sO t ix) h⟩
  | .index x ix => ⟨fun C t h => op_index G [] (sO t x) (sO t ix) h⟩
  | .idxB x ix => ⟨fun C t h => op_idxB G [] (sO t x) (sO t ix) h⟩
  | .cntB x ix => ⟨fun C t h => op_cntB G [] (sO t x) (sO t ix) h⟩
  | .idxA l g s x ix => ⟨fun C t h => op_idxA G [] l g s (sO t x) (sO t ix) h⟩
  | .extract x i => ⟨fun C t h => op_extract G [] (sO t x) i h⟩
  | .len x => ⟨fun C t h => op_len G [] (sO t x) h⟩
  | .lenS x => ⟨fun C t h => op_lenS G [] (sO t x) h⟩
  | .append sz bytes s x => ⟨fun C t h => op_append G [] sz bytes (sO t s) (sO t x) h⟩
  | .minmax mx xs => ⟨fun C t h => op_minmax G [] mx (sOs t xs) h⟩
  | .call f args => ⟨fun C t h => op_call G C [] (sO t f) (sOs t args) h⟩
theorem cOp_eq (C : FuncId → List V → H → Option Res) (t : T) (h : H) (o : MOp) : (cOp G o).run C t h = opV G C [] (sOp t o) h := by cases o <;> rfl

/-- how a result is laid down -/
structure KPut where
  run : Nat → Nat → T → List Nat → List Nat → Res → (SF → OF) → OF
def cPut (st hv : Bool) (d : Option Nat) : KPut := match hv with
  | true => match d with
    | some d => match st with
      | true => ⟨fun n n0 t r w x k => match x with | ⟨v, h', r', w'⟩ => (slotOf d).set v t fun t => uniF n0 r' r fun r => uniF n0 w' w fun w => fHx w' n h' 0 fun h' => k ⟨t, h', r, w⟩⟩
      | false => ⟨fun n n0 t r w x k => match x with | ⟨v, h', r', w'⟩ => fV v fun v => (slotOf d).set v t fun t => uniF n0 r' r fun r => uniF n0 w' w fun w => fHx w' n h' 0 fun h' => k ⟨t, h', r, w⟩⟩
    | none => ⟨fun n n0 t r w x k => match x with | ⟨v, h', r', w'⟩ => uniF n0 r' r fun r => uniF n0 w' w fun w => fHx w' n h' 0 fun h' => k ⟨t, h', r, w⟩⟩
  | false => match d with
    | some d => match st with
      | true => ⟨fun n n0 t r w x k => match x with | ⟨v, h', r', w'⟩ => (slotOf d).set v t fun t => uniF n0 r' r fun r => uniF n0 w' w fun w => k ⟨t, h', r, w⟩⟩
      | false => ⟨fun n n0 t r w x k => match x with | ⟨v, h', r', w'⟩ => fV v fun v => (slotOf d).set v t fun t => uniF n0 r' r fun r => uniF n0 w' w fun w => k ⟨t, h', r, w⟩⟩
    | none => ⟨fun n n0 t r w x k => match x with | ⟨v, h', r', w'⟩ => uniF n0 r' r fun r => uniF n0 w' w fun w => k ⟨t, h', r, w⟩⟩
def putF (t : T) (d : Option Nat) (v : V) (k : T → OF) : OF := match d with | some d => (slotOf d).set v t k | none => k t
structure KSt where
  run : (FuncId → List V → H → Option Res) → Nat → SF → (SF → OF) → OF
def cOper (o : MOper) : KSt := match o with
  | ⟨dst, op, guard⟩ => match guard with
    | none => ⟨fun C n0 s k => match (cOp G op).run C s.t s.h with
      | some x => (cPut (still op) (heavy op) dst).run s.h.length n0 s.t s.r s.w x k
      | none => none⟩
    | some g => ⟨fun C n0 s k => bif wantedF s.t (some g) then (match (cOp G op).run C s.t s.h with
        | some x => (cPut (still op) (heavy op) dst).run s.h.length n0 s.t s.r s.w x k
        | none => none)
      else putF s.t dst .undef fun t => k ⟨t, s.h, s.r, s.w⟩⟩
def regF (C : FuncId → List V → H → Option Res) (n0 : Nat) (ms : List MOper) : SF → OF :=
  List.rec (fun s => some s) (fun o _ ih s => (cOper G o).run C n0 s ih) ms
def drawStepF (k : List (Nat × List Nat × List Nat) → SF → OF) (n0 j m : Nat) (fs : List (Nat × List Nat × List Nat)) (s : SF) (st hv : Bool) (d : Option Nat) (x : Option Res) : OF := match x with
  | some x => bif freeAt m x.r (allW s.h x) fs then (cPut st hv d).run s.h.length n0 s.t s.r s.w x (k (note j x.r (allW s.h x) fs)) else none
  | none => none
def drawF (C : FuncId → List V → H → Option Res) (n0 : Nat) (ms : List MOper) : Nat → List Nat → List (Nat × List Nat × List Nat) → SF → OF :=
  List.rec (fun _ _ _ s => some s) (fun o _ ih j masks fs s => match masks with
    | [] => none
    | m :: masks => bif wantedF s.t o.guard then drawStepF (ih (j + 1) masks) n0 j m fs s (still o.op) (heavy o.op) o.dst ((cOp G o.op).run C s.t s.h)
      else putF s.t o.dst .undef fun t => ih (j + 1) masks fs ⟨t, s.h, s.r, s.w⟩) ms
def exSeqF (ex : MCode → SF → Option (Ex × SF)) (b : MCode) (r : Option (Ex × SF)) : Option (Ex × SF) := match r with
  | some (e, s') => match e with
    | .normal => ex b s'
    | _ => r
  | none => none
def exCondF (ex : MCode → SF → Option (Ex × SF)) (a b : MCode) (s : SF) (v : Option V) : Option (Ex × SF) := match v with
  | some v => match v with
    | .bool c => match c with
      | true => ex a s
      | false => ex b s
    | _ => none
  | none => none
def exBlockF (id : Nat) (r : Option (Ex × SF)) : Option (Ex × SF) := match r with
  | some (e, s') => match e with
    | .exit id' => bif Nat.beq id' id then some (.normal, s') else r
    | _ => r
  | none => none
def exRegF (r : OF) : Option (Ex × SF) := match r with
  | some s' => some (.normal, s')
  | none => none
def exStepF (C : FuncId → List V → H → Option Res) (n0 : Nat) (ex : MCode → SF → Option (Ex × SF)) (c : MCode) (s : SF) : Option (Ex × SF) :=
  match c with
  | .skip => some (.normal, s)
  | .ret => some (.ret, s)
  | .exit id => some (.exit id, s)
  | .seq a b => exSeqF ex b (ex a s)
  | .cond c a b => exCondF ex a b s (ev G [] (sO s.t c))
  | .block id c => exBlockF id (ex c s)
  | .loop c => exSeqF ex (.loop c) (ex c s)
  | .reg ops => exRegF (regF G C n0 ops s)
  | .draw ops masks => exRegF (drawF G C n0 ops 0 masks [] s)
def execF (C : FuncId → List V → H → Option Res) (n0 : Nat) (n : Nat) : MCode → SF → Option (Ex × SF) :=
  Nat.rec (fun _ _ => none) (fun _ ih => exStepF G C n0 ih) n
end

/-! the slots that a code names -/
def opdOk (n : Nat) : Opd → Bool
  | .t i => Nat.blt i n
  | _ => true
def slOk (n : Nat) (l : List Nat) : Bool := l.all fun i => Nat.blt i n
def operOk (n : Nat) (o : MOper) : Bool := slOk n o.reads && (match o.dst with | some d => Nat.blt d n | none => true)
def codeOk (n : Nat) : MCode → Bool
  | .seq a b => codeOk n a && codeOk n b
  | .cond c a b => opdOk n c && codeOk n a && codeOk n b
  | .block _ c => codeOk n c
  | .loop c => codeOk n c
  | .reg ops => ops.all (operOk n)
  | .draw ops _ => ops.all (operOk n)
  | _ => true
def resOk (n : Nat) : MRes → Bool
  | .tmp i => Nat.blt i n
  | .cell i _ => Nat.blt i n
def funcOk (m : MFunc) : Bool := Nat.ble m.ntmps 568 && codeOk m.ntmps m.body && m.res.all (resOk m.ntmps)

def T1 : B8 V := ⟨.undef, .undef, .undef, .undef, .undef, .undef, .undef, .undef⟩
def T2 : B8 (B8 V) := ⟨T1, T1, T1, T1, T1, T1, T1, T1⟩
def T3 : B8 (B8 (B8 V)) := ⟨T2, T2, T2, T2, T2, T2, T2, T2⟩
def T0 : T := ⟨⟨.undef, .undef, .undef, .undef, .undef, .undef, .undef, .undef⟩, ⟨.undef, .undef, .undef, .undef, .undef, .undef, .undef, .undef⟩, ⟨.undef, .undef, .undef, .undef, .undef, .undef, .undef, .undef⟩, T1, T1, T1, T1, T3⟩

noncomputable section
def setArgs (l : List V) : Nat → T → (T → OF) → OF := List.rec (fun _ t k => k t) (fun v _ ih i t k => fV v fun v => (slotOf i).set v t fun t => ih (i + 1) t k) l
def resF (h : H) (t : T) : List MRes → Option (List V × List Nat)
  | [] => some ([], [])
  | .tmp i :: rest => match resF h t rest with
    | some (vs, r) => some ((slotOf i).get t :: vs, r)
    | none => none
  | .cell a agg :: rest => match resF h t rest with
    | some (vs, r) => match deref h ((slotOf a).get t) with
      | some (cells, r1) => match loadC agg cells with
        | some v => some (v :: vs, r1 ++ r)
        | none => none
      | none => none
    | none => none
def callResF (n0 : Nat) (keep : Bool) (res : List MRes) (s : SF) : Option Res :=
  match resF s.h s.t res with
  | some (vs, r1) => callOut n0 keep (tupV vs) r1 ⟨[], s.h, s.r, s.w⟩
  | none => none
def callEndF (n0 : Nat) (keep : Bool) (res : List MRes) (r : Option (Ex × SF)) : Option Res := match r with
  | some (e, s) => match e with
    | .exit _ => none
    | _ => callResF n0 keep res s
  | none => none
def fRes (r : Option Res) : Option Res := match r with
  | some x => match x with
    | ⟨v, h, r, w⟩ => fV v fun v => some ⟨v, h, r, w⟩
  | none => none
def callBodyF (E : Env) (C : FuncId → List V → H → Option Res) (n : Nat) (keep : Bool) (args : List V) (h : H) (m : Option MFunc) : Option Res := match m with
  | some fn => bif funcOk fn && Nat.ble args.length fn.ntmps then forceN h.length fun n0 => match setArgs args 0 T0 (fun t => some ⟨t, [], [], []⟩) with
      | some s => callEndF n0 keep fn.res (execF E.G C n0 n fn.body ⟨s.t, h, [], []⟩)
      | none => none
    else none
  | none => none
def pureBodyF (E : Env) (C : FuncId → List V → H → Option Res) (n : Nat) (f : FuncId) (args : List V) : Option V :=
  match E.memo f args with
  | some v => some v
  | none => match callBodyF E C n false args [] (E.fn f) with
    | some x => some x.v
    | none => none
def callStepF (E : Env) (C : FuncId → List V → H → Option Res) (n : Nat) (f : FuncId) (args : List V) (h : H) : Mode → Option Res
  | .frozen => fRes (callBodyF E C n false args h (E.fn f))
  | .keep => fRes (callBodyF E C n true args h (E.fn f))
  | .pure => fRes (callPure (pureBodyF E C n f) h (mapM? (lend h 100) args))
def callF (E : Env) (n : Nat) : FuncId → List V → H → Option Res :=
  Nat.rec (fun _ _ _ => none) (fun n ih f args h => callStepF E ih n f args h (E.mode f)) n
end
end Go.Mini
