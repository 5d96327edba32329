/-
A small machine over the translated code: values with immutable rows, a heap of the call's own blocks, no tape.
-/
import Derived.Calls
import Derived.Orders
set_option linter.all false
set_option maxRecDepth 100000
namespace Go.Mini

/-- Values of the small machine. -/
inductive V where
  | bool (b : Bool)
  | int (k : IntKind) (n : Int)
  | str (s : List UInt8)
  | undef
  | nilp
  | ptr (b v i o : Nat)
  | rp (cells : List V)
  | nils
  | os (b v sz i n : Nat) (clip : Bool)
  | rs (sz : Nat) (els : List (List V))
  | nilm
  | mp (b : Nat)
  | nilf
  | fn (f : FuncId) (cap : List V)
  | agg (cells : List V)
  | tup (vs : List V)
  deriving Inhabited

structure Row where
  sz : Nat
  els : List (List V)
  cur : Nat
  rd : Nat
  deriving Inhabited

inductive Ob where
  | row (x : Row)
  deriving Inhabited

abbrev H := List Ob

def V.cells : V → List V
  | .agg cs => cs
  | v => [v]
/-- may a value lie in one cell? -/
def V.isCell : V → Bool
  | .agg _ | .tup _ | .undef => false
  | _ => true
/-- may a value lie in memory? -/
def V.lies : V → Bool
  | .agg _ => true
  | .tup _ | .undef => false
  | _ => true

def ofVal1 : Value → Option V
  | .bool b => some (.bool b)
  | .int k n => some (.int k n)
  | .string s => some (.str s.data.toList)
  | .tuple vs => if vs.size = 0 then some .undef else none
  | .pointer none => some .nilp
  | .slice none 0 0 => some .nils
  | .nilIface => some .nilm
  | .nilFunc => some .nilf
  | _ => none
def ofVals : List Value → Option (List V)
  | [] => some []
  | v :: vs => match ofVal1 v, ofVals vs with
    | some x, some xs => if x.isCell then some (x :: xs) else none
    | _, _ => none
def ofVal : Value → Option V
  | .agg cs => (ofVals cs.toList).map .agg
  | v => ofVal1 v

/-! ### The code, its types resolved -/
inductive Opd where
  | t (i : Nat)
  | c (v : V)
  | g (n : Nat)
  deriving Inhabited

/-- the kinds of a plain struct's fields -/
inductive FK | b | i | s
  deriving DecidableEq, Inhabited
/-- how two values are held against each other -/
inductive Cmp where
  | no
  | bool
  | flat (ks : List FK)
  | ptr
  | slice
  | func
  | iface
  deriving Inhabited

inductive MOp where
  | mv (x : Opd)
  | pick (c a b : Opd)
  | alloc (cells : List V)
  | box (n : Nat) (x : Opd)
  | build (zero : List V) (parts : List (Nat × Nat × Opd))
  | bslice (sz len : Nat) (zero : List V) (parts : List (Nat × Nat × Opd))
  | load (agg : Option Nat) (a : Opd)
  | store (n : Nat) (a x : Opd)
  | nilc (x : Opd)
  | bin (op : BinOp) (cmp : Cmp) (x y : Opd)
  | un (op : UnOp) (x : Opd)
  | convI (k : IntKind) (x : Opd)
  | s2b (x : Opd)
  | b2s (x : Opd)
  | mkfn (f : FuncId) (cap : List Opd)
  | mkslice (sz bytes : Nat) (zero : List V) (l c : Opd)
  | cut (sz : Nat) (x : Opd) (lo hi mx : Option Opd)
  | cutS (x : Opd) (lo hi : Option Opd)
  | faddr (off : Nat) (x : Opd)
  | field (agg : Option Nat) (off : Nat) (x : Opd)
  | iaddr (sz : Nat) (x i : Opd)
  | iaddrA (len sz : Nat) (x i : Opd)
  | index (x i : Opd)
  | idxB (x i : Opd)
  | cntB (x i : Opd)
  | idxA (len : Nat) (agg : Option Nat) (sz : Nat) (x i : Opd)
  | extract (x : Opd) (i : Nat)
  | len (x : Opd)
  | lenS (x : Opd)
  | append (sz bytes : Nat) (s x : Opd)
  | minmax (mx : Bool) (xs : List Opd)
  | call (f : Opd) (args : List Opd)
  deriving Inhabited

structure MOper where
  dst : Option Nat
  op : MOp
  guard : Option (Nat × Bool)
  deriving Inhabited

inductive MCode where
  | skip
  | ret
  | exit (id : Nat)
  | seq (a b : MCode)
  | cond (c : Opd) (a b : MCode)
  | block (id : Nat) (c : MCode)
  | loop (c : MCode)
  | reg (ops : List MOper)
  | draw (ops : List MOper) (masks : List Nat)
  deriving Inhabited

inductive MRes where
  | tmp (i : Nat)
  | cell (a : Nat) (agg : Option Nat)
  deriving Inhabited

structure MFunc where
  ntmps : Nat
  body : MCode
  res : List MRes
  deriving Inhabited

/-! ### The translation -/
def mapM? {α β : Type} (f : α → Option β) : List α → Option (List β)
  | [] => some []
  | x :: xs => match f x, mapM? f xs with
    | some y, some ys => some (y :: ys)
    | _, _ => none

section
variable (P : Program)

def isAggT (t : TypeId) : Option Bool :=
  match P.underlying t with
  | some (.struct _) | some (.array _ _) => some true
  | some _ => some false
  | none => none
def sizeT (t : TypeId) : Option Nat := (P.info? t).map (·.size)
def zeroT (t : TypeId) : Option V := match P.info? t with
  | some i => match i.zero with | some z => ofVal z | none => none
  | none => none
def aggN (t : TypeId) : Option (Option Nat) :=
  match isAggT P t, sizeT P t with
  | some true, some n => some (some n)
  | some false, some _ => some none
  | _, _ => none

/-- may structs of a type be held cell against cell? -/
def flatF : List Field → Nat → Option (List FK)
  | [], _ => some []
  | f :: fs, n => if f.name ≠ "_" ∧ f.offset = n then
      match P.underlying f.type with
      | some .bool => (flatF fs (n + 1)).map (.b :: ·)
      | some (.int _) => (flatF fs (n + 1)).map (.i :: ·)
      | some .string => (flatF fs (n + 1)).map (.s :: ·)
      | _ => none
    else none
def flatT (ty : TypeId) : Option (List FK) :=
  match P.underlying ty with
  | some (.struct fs) => if P.stoodInHeld ty || P.eqGuardType P.depth ty then none else flatF P fs.toList 0
  | _ => none

def cmpT (ty : TypeId) : Cmp :=
  match P.underlying ty with
  | some (.struct _) => match flatT P ty with | some n => .flat n | none => .no
  | some .bool => .bool
  | some (.pointer _) => .ptr
  | some (.slice _) => .slice
  | some (.func _ _ _) => .func
  | _ => .no

def opd : Operand → Option Opd
  | .tmp i => some (.t i)
  | .const v => (ofVal v).map .c
  | .global g => some (.g g)
  | .func f => some (.c (.fn f []))
def opdO : Option Operand → Option (Option Opd)
  | none => some none
  | some x => (opd x).map some

/-- is an operand the library's search for a byte, which is of no text? -/
def isIdx : Operand → Bool
  | .func f => match P.funcs[f]? with
    | some fn => fn.body.isNone && fn.name == "internal/bytealg.IndexByteString" && (Extern.findNext fn).isNone
    | none => false
  | _ => false

def compOp (o : Oper) : Option MOp :=
  match o.op with
  | .move x | .assign x => (opd x).map .mv
  | .pick c a b => match opd c, opd a, opd b with
    | some c, some a, some b => some (.pick c a b)
    | _, _, _ => none
  | .alloc ty => match zeroT P ty with
    | some z => if z.cells.all V.isCell then some (.alloc z.cells) else none
    | _ => none
  | .box ty x => match opd x, sizeT P ty with
    | some x, some n => some (.box n x)
    | _, _ => none
  | .build ty parts => match zeroT P ty, P.underlying ty with
    | some z, some (.struct fs) =>
      match mapM? (fun (p : Nat × Operand) => match fs[p.1]?, opd p.2 with
          | some f, some x => (sizeT P f.type).map fun s => (f.offset, s, x)
          | _, _ => none) parts.toList, mapM? (fun (f : Field) => sizeT P f.type) fs.toList with
      | some ps, some _ => if z.cells.all V.isCell then some (.build z.cells ps) else none
      | _, _ => none
    | _, _ => none
  | .buildSlice ty len parts => match P.underlying ty with
    | some (.slice el) => match sizeT P el, zeroT P el with
      | some s, some z => if s = 0 ∨ z.cells.length ≠ s ∨ len * s > 16777216 ∨ z.cells.all V.isCell = false then none else
        match mapM? (fun (p : Nat × Operand) => (opd p.2).map fun x => (p.1 * s, s, x)) parts.toList with
        | some ps => some (.bslice s len z.cells ps)
        | none => none
      | _, _ => none
    | _ => none
  | .load ty a => match aggN P ty, opd a with
    | some n, some a => some (.load n a)
    | _, _ => none
  | .store ty a x => match sizeT P ty, opd a, opd x with
    | some n, some a, some x => if n = 0 then none else some (.store n a x)
    | _, _, _ => none
  | .nilCheck x => (opd x).map .nilc
  | .binOp op ty x y _ => match opd x, opd y with
    | some x, some y => some (.bin op (cmpT P ty) x y)
    | _, _ => none
  | .unOp op _ x => (opd x).map (.un op)
  | .convert src dst x => match P.underlying src, P.underlying dst, opd x with
    | some (.int _), some (.int k), some x => some (.convI k x)
    | some .string, some (.slice el), some x => match P.underlying el, P.info? el with
      | some (.int .u8), some inf => if inf.size = 1 ∧ inf.bytes = 1 then some (.s2b x) else none
      | _, _ => none
    | some (.slice el), some .string, some x => match P.underlying el with
      | some (.int .u8) => some (.b2s x)
      | _ => none
    | _, _, _ => none
  | .makeFunc (.func f) first cap => match first.toList, mapM? opd cap.toList with
    | [], some cs => some (.mkfn f cs)
    | _, _ => none
  | .makeSlice ty l c => match P.underlying ty with
    | some (.slice el) => match P.info? el, zeroT P el, opd l, opd c with
      | some inf, some z, some l, some c => if inf.size = 0 ∨ inf.bytes = 0 ∨ z.cells.length ≠ inf.size ∨ z.cells.all V.isCell = false then none else some (.mkslice inf.size inf.bytes z.cells l c)
      | _, _, _, _ => none
    | _ => none
  | .slice ty x lo hi mx => match P.underlying ty, opd x, opdO lo, opdO hi, opdO mx with
    | some .string, some x, some lo, some hi, some none => some (.cutS x lo hi)
    | some (.slice el), some x, some lo, some hi, some mx => match sizeT P el with
      | some s => if mx.isSome && hi.isNone then none else some (.cut s x lo hi mx)
      | none => none
    | _, _, _, _, _ => none
  | .fieldAddr s x f => match P.underlying s, opd x with
    | some (.struct fs), some x => match fs[f]? with
      | some f => match sizeT P f.type with
        | some s => if s = 0 then none else some (.faddr f.offset x)
        | none => none
      | none => none
    | _, _ => none
  | .field ty x f => match P.underlying ty, opd x with
    | some (.struct fs), some x => match fs[f]? with
      | some f => (aggN P f.type).map fun n => .field n f.offset x
      | none => none
    | _, _ => none
  | .indexAddr ty x ix => match P.underlying ty, opd x, opd ix with
    | some (.slice el), some x, some ix => (sizeT P el).map fun s => .iaddr s x ix
    | some (.array len el), some x, some ix => (sizeT P el).map fun s => .iaddrA len s x ix
    | _, _, _ => none
  | .index ty x ix => match P.underlying ty, opd x, opd ix with
    | some .string, some x, some ix => some (.index x ix)
    | _, _, _ => none
  | .extract x i => (opd x).map fun x => .extract x i
  | .call c => match c.callee with
    | .builtin .len => match c.argTypes.toList, mapM? opd c.args.toList with
      | [ty], some [x] => match P.underlying ty with
        | some .string => some (.lenS x)
        | some (.slice _) => some (.len x)
        | _ => none
      | _, _ => none
    | .builtin .append => match c.argTypes.toList, mapM? opd c.args.toList with
      | [ty, ty'], some [s, x] => match P.underlying ty, P.underlying ty' with
        | some (.slice _), some (.int _) => none
        | some (.slice el), some _ => match P.info? el with
          | some inf => match inf.zero with
            | some z => if inf.size = 0 ∨ inf.bytes = 0 ∨ z.cells.size ≠ inf.size then none else some (.append inf.size inf.bytes s x)
            | none => none
          | none => none
        | _, _ => none
      | _, _ => none
    | .builtin .min => (mapM? opd c.args.toList).map (.minmax false)
    | .builtin .max => (mapM? opd c.args.toList).map (.minmax true)
    | .value f => if isIdx P f then (match mapM? opd c.args.toList with
        | some [x, y] => some (.idxB x y)
        | _ => none) else
      match opd f, mapM? opd c.args.toList with
      | some f, some as => some (.call f as)
      | _, _ => none
    | _ => none
  | _ => none

/-- is an operand the library's count of a byte, which is of no text? -/
def isCnt : Operand → Bool
  | .func f => match P.funcs[f]? with
    | some fn => fn.body.isNone && fn.name == "internal/bytealg.CountString" && (Extern.findNext fn).isNone
    | none => false
  | _ => false
/-- a value of an interface type against the literal nil; arrays; the count of a byte -/
def compNil (o : Oper) : Option MOp := match o.op with
  | .binOp op ty x (.const .nilIface) _ => match P.underlying ty, opd x with
    | some (.interface _), some x => some (.bin op .iface x (.c .nilm))
    | _, _ => none
  | .build ty parts => match zeroT P ty, P.underlying ty with
    | some z, some (.array _ el) => match sizeT P el with
      | some s => match mapM? (fun (p : Nat × Operand) => (opd p.2).map fun x => (p.1 * s, s, x)) parts.toList with
        | some ps => if z.cells.all V.isCell then some (.build z.cells ps) else none
        | none => none
      | none => none
    | _, _ => none
  | .index ty x ix => match P.underlying ty, opd x, opd ix with
    | some (.array len el), some x, some ix => match aggN P el, sizeT P el with
      | some g, some s => some (.idxA len g s x ix)
      | _, _ => none
    | _, _, _ => none
  | .call c => match c.callee with
    | .value f => if isCnt P f then (match mapM? opd c.args.toList with
        | some [x, y] => some (.cntB x y)
        | _ => none) else none
    | _ => none
  | _ => none
/-- what the small machine does not know: no run comes behind it -/
def stuckOp : MOp := .call (.c .undef) []
def compX (o : Oper) : MOp := match compNil P o with
  | some m => m
  | none => match compOp P o with
    | some m => m
    | none => stuckOp
theorem compX_cases (o : Oper) : compNil P o = some (compX P o) ∨ compOp P o = some (compX P o) ∨ compX P o = stuckOp := by
  unfold compX
  split
  · rename_i m h; exact .inl h
  · split
    · rename_i m h; exact .inr (.inl h)
    · exact .inr (.inr rfl)

def compOper (ops : List Oper) (o : Oper) : Option MOper :=
  match o.guard with
  | none => some ⟨o.dst, compX P o, none⟩
  | some (j, want) => match (ops[j]?).bind (·.dst) with
    | some d => some ⟨o.dst, compX P o, some (d, want)⟩
    | none => none

def maskOf (acc : List Nat) : List Edge → Option Nat
  | [] => some 0
  | e :: es => match maskOf acc es with
    | some m => if Region.binds .any e then
        if e.on < acc.length then some ((1 <<< e.on) ||| (acc.getD e.on 0) ||| m) else none
      else some m
    | none => none
def masksOf : List Nat → List Oper → Option (List Nat)
  | acc, [] => some acc
  | acc, o :: rest => match maskOf acc o.after.toList with
    | some m => masksOf (acc ++ [m]) rest
    | none => none

def Opd.slot : Opd → List Nat
  | .t i => [i]
  | _ => []
def slotO : Option Opd → List Nat
  | some x => x.slot
  | none => []
def slots : List Opd → List Nat
  | [] => []
  | x :: xs => x.slot ++ slots xs
def slotP : List (Nat × Nat × Opd) → List Nat
  | [] => []
  | x :: xs => x.2.2.slot ++ slotP xs
/-- the slots that an operation reads -/
def MOp.slots : MOp → List Nat
  | .mv x | .box _ x | .nilc x | .un _ x | .convI _ x | .s2b x | .b2s x | .faddr _ x | .field _ _ x | .extract x _ | .len x | .lenS x | .load _ x => x.slot
  | .pick c a b => c.slot ++ a.slot ++ b.slot
  | .alloc _ => []
  | .build _ ps | .bslice _ _ _ ps => slotP ps
  | .store _ a x | .bin _ _ a x | .iaddr _ a x | .iaddrA _ _ a x | .index a x | .idxB a x | .idxA _ _ _ a x | .cntB a x | .append _ _ a x | .mkslice _ _ _ a x => a.slot ++ x.slot
  | .mkfn _ cs => Mini.slots cs
  | .cut _ x a b c => x.slot ++ slotO a ++ slotO b ++ slotO c
  | .cutS x a b => x.slot ++ slotO a ++ slotO b
  | .minmax _ xs => Mini.slots xs
  | .call f as => f.slot ++ Mini.slots as
def MOper.reads (m : MOper) : List Nat := match m.guard with | some (d, _) => d :: m.op.slots | none => m.op.slots
def MOper.hits (m n : MOper) : Bool := match m.dst with
  | some d => n.reads.contains d || n.dst == some d
  | none => false
/-- may slots be written out of the text's order? -/
def slotsOk1 (n : MOper) (mask : Nat) : List MOper → Nat → Bool
  | [], _ => true
  | m :: ms, i => (!(m.hits n || n.hits m) || mask.testBit i) && slotsOk1 n mask ms (i + 1)
def slotsOk (done : List MOper) : List MOper → List Nat → Bool
  | [], [] => true
  | n :: ns, k :: ks => slotsOk1 n k done 0 && slotsOk (done ++ [n]) ns ks
  | _, _ => false

def comp : Code → Option MCode
  | .skip => some .skip
  | .ret => some .ret
  | .exit id => some (.exit id)
  | .seq a b => match comp a, comp b with
    | some a, some b => some (.seq a b)
    | _, _ => none
  | .cond c a b => match opd c, comp a, comp b with
    | some c, some a, some b => some (.cond c a b)
    | _, _, _ => none
  | .block id c => (comp c).map (.block id)
  | .loop c => (comp c).map .loop
  | .region _ ops draw => match mapM? (compOper P ops.toList) ops.toList with
    | some ms => if draw then
        match masksOf [] ops.toList with
        | some ks => if slotsOk [] ms ks then some (.draw ms ks) else none
        | none => none
      else some (.reg ms)
    | none => none
  | _ => none

def compRes : ResultVar → Option MRes
  | .tmp i => some (.tmp i)
  | .cell a ty => (aggN P ty).map (.cell a)

def compF (fn : Func) : Option MFunc :=
  if fn.name == "runtime.NumGoroutine" then none else
  match fn.body with
  | some c => match comp P c, mapM? (compRes P) fn.results.toList with
    | some m, some rs => some ⟨fn.ntmps, m, rs⟩
    | _, _ => none
  | none => none
end

/-! ### The machine -/
/-- value, heap, blocks read, blocks written -/
structure Res where
  v : V
  h : H
  r : List Nat
  w : List Nat
  deriving Inhabited

structure St where
  t : List V
  h : H
  r : List Nat
  w : List Nat
  deriving Inhabited

def ins (b : Nat) (l : List Nat) : List Nat := if l.contains b then l else b :: l
/-- what lies below n0 of a, laid to b -/
def uni (n0 : Nat) : List Nat → List Nat → List Nat
  | [], b => b
  | x :: a, b => if x < n0 then ins x (uni n0 a b) else uni n0 a b
def meets (a b : List Nat) : Bool := a.any b.contains

/-- the same number, forced -/
def forceN {α : Type} (n : Nat) (k : Nat → α) : α := match n with
  | 0 => k 0
  | m + 1 => k (m + 1)
def forceI {α : Type} (n : Int) (k : Int → α) : α := match n with
  | .ofNat m => forceN m fun m => k (.ofNat m)
  | .negSucc m => forceN m fun m => k (.negSucc m)

/-- half the numbers of a kind with a sign; all of one without -/
def halfK : IntKind → Nat
  | .i8 => 128 | .i16 => 32768 | .i32 => 2147483648 | .i64 => 9223372036854775808
  | .u8 => 256 | .u16 => 65536 | .u32 => 4294967296 | .u64 => 18446744073709551616
/-- 'wrap', quick where nothing is wrapped -/
def wrapF (k : IntKind) (n : Int) : Int := match n with
  | .ofNat m => bif Nat.blt m (halfK k) then .ofNat m else k.wrap (.ofNat m)
  | .negSucc m => bif k.signed && Nat.blt m (halfK k) then .negSucc m else k.wrap (.negSucc m)
def ltF : Int → Int → Bool
  | .ofNat m, .ofNat n => Nat.blt m n
  | .negSucc m, .negSucc n => Nat.blt n m
  | .negSucc _, .ofNat _ => true
  | .ofNat _, .negSucc _ => false
def eqF : Int → Int → Bool
  | .ofNat m, .ofNat n => Nat.beq m n
  | .negSucc m, .negSucc n => Nat.beq m n
  | _, _ => false
def kindEq : IntKind → IntKind → Bool
  | .i8, .i8 | .i16, .i16 | .i32, .i32 | .i64, .i64 | .u8, .u8 | .u16, .u16 | .u32, .u32 | .u64, .u64 => true
  | _, _ => false

def intV (op : BinOp) (k : IntKind) (a : Int) (k' : IntKind) (b : Int) : Option V :=
  match op with
  | .shl => bif ltF b 0 then none else forceI (wrapF k (a * 2 ^ (min b.toNat k.bits))) fun n => some (.int k n)
  | .shr => bif ltF b 0 then none else forceI (a.fdiv (2 ^ (min b.toNat k.bits))) fun n => some (.int k n)
  | _ => bif kindEq k k' then (match op with
    | .add => forceI (wrapF k (a + b)) fun n => some (.int k n)
    | .sub => forceI (wrapF k (a - b)) fun n => some (.int k n)
    | .mul => forceI (wrapF k (a * b)) fun n => some (.int k n)
    | .quo => bif eqF b 0 then none else forceI (wrapF k (a.tdiv b)) fun n => some (.int k n)
    | .rem => bif eqF b 0 then none else forceI (a.tmod b) fun n => some (.int k n)
    | .and => forceI (wrapF k (BitVec.ofInt k.bits a &&& BitVec.ofInt k.bits b).toNat) fun n => some (.int k n)
    | .or => forceI (wrapF k (BitVec.ofInt k.bits a ||| BitVec.ofInt k.bits b).toNat) fun n => some (.int k n)
    | .xor => forceI (wrapF k (BitVec.ofInt k.bits a ^^^ BitVec.ofInt k.bits b).toNat) fun n => some (.int k n)
    | .andNot => forceI (wrapF k (BitVec.ofInt k.bits a &&& ~~~BitVec.ofInt k.bits b).toNat) fun n => some (.int k n)
    | .eql => some (.bool (eqF a b))
    | .neq => some (.bool (!(eqF a b)))
    | .lss => some (.bool (ltF a b))
    | .leq => some (.bool !(ltF b a))
    | .gtr => some (.bool (ltF b a))
    | .geq => some (.bool !(ltF a b))
    | _ => none) else none

def eqC : FK → V → V → Option Bool
  | .i, .int k a, .int k' b => bif kindEq k k' then some (eqF a b) else none
  | .b, .bool a, .bool b => some (a == b)
  | .s, .str a, .str b => some (a == b)
  | _, _, _ => none
def eqCs : List FK → List V → List V → Option Bool
  | [], [], [] => some true
  | k :: ks, x :: xs, y :: ys => match eqC k x y with
    | some true => eqCs ks xs ys
    | r => r
  | _, _, _ => none

def strV (op : BinOp) (x y : List UInt8) : Option V :=
  match op with
  | .add => if x.length + y.length ≤ 140737488355328 then some (.str (x ++ y)) else none
  | .eql => some (.bool (x == y))
  | .neq => some (.bool !(x == y))
  | .lss => some (.bool (Op.bytesLess x y))
  | _ => none

def isNil : Cmp → V → Option Bool
  | .ptr, .nilp => some true
  | .ptr, .ptr .. => some false
  | .ptr, .rp _ => some false
  | .slice, .nils => some true
  | .slice, .os .. => some false
  | .slice, .rs .. => some false
  | .func, .nilf => some true
  | .func, .fn .. => some false
  | .iface, .nilm => some true
  | _, _ => none

def eqOp (op : BinOp) (b : Bool) : Option V :=
  match op with
  | .eql => some (.bool b)
  | .neq => some (.bool !b)
  | _ => none

def aggV (op : BinOp) (cmp : Cmp) (a b : List V) : Option V :=
  match cmp with
  | .flat ks => match eqCs ks a b with
    | some r => eqOp op r
    | none => none
  | _ => none

def boolV (op : BinOp) (cmp : Cmp) (a b : Bool) : Option V :=
  match cmp with
  | .bool => eqOp op (a == b)
  | _ => none

def nilV (op : BinOp) (cmp : Cmp) (x y : V) : Option V :=
  match isNil cmp x, isNil cmp y with
  | some a, some b => if a || b then eqOp op (a && b) else none
  | _, _ => none

def binV (op : BinOp) (cmp : Cmp) : V → V → Option V
  | .int k a, .int k' b => intV op k a k' b
  | .str a, .str b => strV op a b
  | .bool a, .bool b => boolV op cmp a b
  | .agg a, .agg b => aggV op cmp a b
  | x, y => nilV op cmp x y

def unV (op : UnOp) : V → Option V
  | .bool b => match op with | .not => some (.bool !b) | _ => none
  | .int k n => match op with
    | .neg => forceI (wrapF k (0 - n)) fun n => some (.int k n)
    | .xor => forceI (k.wrap (BitVec.ofInt k.bits (if k.signed then -1 else k.max) ^^^ BitVec.ofInt k.bits n).toNat) fun n => some (.int k n)
    | _ => none
  | _ => none

def minV (mx : Bool) : Int → List V → Option Int
  | x, [] => some x
  | x, .int .i64 y :: rest => minV mx (bif mx then (bif ltF x y then y else x) else (bif ltF y x then y else x)) rest
  | _, _ => none

def loadC (agg : Option Nat) (cells : List V) : Option V :=
  match agg with
  | some n => if n ≤ cells.length then some (.agg (cells.take n)) else none
  | none => cells.head?

def rowAt (h : H) (b v : Nat) : Option Row :=
  match h[b]? with
  | some (.row x) => if x.rd ≤ v ∧ v ≤ x.cur then some x else none
  | _ => none

/-- what stands from a pointer on, and which block is read -/
def deref (h : H) : V → Option (List V × List Nat)
  | .rp cells => some (cells, [])
  | .ptr b v i o => match rowAt h b v with
    | some x => match x.els[i]? with
      | some el => some (el.drop o, [b])
      | none => none
    | none => none
  | _ => none

def setFrom (l : List V) (o : Nat) (cs : List V) : List V := l.take o ++ cs ++ l.drop (o + cs.length)

def storeV (n : Nat) (h : H) (a x : V) : Option Res :=
  match a with
  | .ptr b v i o => match rowAt h b v with
    | some r => if v = r.cur ∧ x.cells.length = n ∧ x.lies = true then
        match r.els[i]? with
        | some el => if o + n ≤ el.length then
            some ⟨.undef, h.set b (.row { r with els := r.els.set i (setFrom el o x.cells), rd := r.cur }), [], [b]⟩ else none
        | none => none
      else none
    | none => none
  | _ => none

def newRow (h : H) (sz : Nat) (els : List (List V)) : H := h ++ [.row ⟨sz, els, 0, 0⟩]

/-- parts laid into cells -/
def fillV (cells : List V) : List (Nat × Nat × V) → Option (List V)
  | [] => some cells
  | (off, size, v) :: rest => if v.cells.length ≠ size ∨ off + size > cells.length ∨ v.lies = false then none
      else fillV (setFrom cells off v.cells) rest

def chunks (sz : Nat) : Nat → List V → List (List V)
  | 0, _ => []
  | n + 1, l => l.take sz :: chunks sz n (l.drop sz)

/-- a slice's elements, the size of one, which blocks are read -/
def elems (h : H) : V → Option (Nat × List (List V) × List Nat)
  | .rs sz els => some (sz, els, [])
  | .os b v sz i n _ => match rowAt h b v with
    | some x => if x.sz = sz ∧ i + n ≤ x.els.length then some (sz, (x.els.drop i).take n, [b]) else none
    | none => none
  | _ => none

def sources (sz : Nat) (h : H) (x : V) : Option (List (List V) × List Nat) :=
  match x with
  | .nils => some ([], [])
  | .str b => if sz = 1 then some (b.map fun c => [V.int .u8 c.toNat], []) else none
  | x => match elems h x with
    | some (sz', els, r) => if sz' = sz then some (els, r) else none
    | none => none

def appendV (sz bytes : Nat) (h : H) (s x : V) : Option Res :=
  match sources sz h x with
  | some (xs, r) =>
    match s with
    | .nils => if xs.isEmpty then some ⟨.nils, h, r, []⟩
      else if xs.length * bytes ≤ 140737488355328 then some ⟨.os h.length 0 sz 0 xs.length false, newRow h sz xs, r, []⟩ else none
    | .rs _ _ => if xs.isEmpty then some ⟨s, h, r, []⟩ else none
    | .os b v sz' i n clip => if xs.isEmpty then some ⟨s, h, r, []⟩ else
      match rowAt h b v with
      | some y => if sz' = sz ∧ y.sz = sz ∧ i + n ≤ y.els.length ∧ (n + xs.length) * bytes ≤ 140737488355328 then
          if clip then
            some ⟨.os h.length 0 sz 0 (n + xs.length) false, newRow h sz ((y.els.drop i).take n ++ xs), b :: r, []⟩
          else if v = y.cur then
            some ⟨.os b (y.cur + 1) sz i (n + xs.length) false,
              h.set b (.row ⟨sz, y.els.take (i + n) ++ xs, y.cur + 1, if i + n = y.els.length then y.rd else y.cur + 1⟩), r, [b]⟩
          else none
        else none
      | none => none
    | _ => none
  | none => none

def asNat (n : Int) : Option Nat := if 0 ≤ n then some n.toNat else none

section
variable (G : Nat → Option V)

def ev (t : List V) : Opd → Option V
  | .t i => t[i]?
  | .c v => some v
  | .g n => G n
def evs (t : List V) : List Opd → Option (List V)
  | [] => some []
  | x :: xs => match ev G t x, evs t xs with
    | some v, some vs => some (v :: vs)
    | _, _ => none
def evP (t : List V) : List (Nat × Nat × Opd) → Option (List (Nat × Nat × V))
  | [] => some []
  | (a, b, x) :: xs => match ev G t x, evP t xs with
    | some v, some vs => some ((a, b, v) :: vs)
    | _, _ => none

def boundOf (t : List V) (d : Nat) : Option Opd → Option Nat
  | none => some d
  | some x => match ev G t x with
    | some (.int _ n) => asNat n
    | _ => none

def cutV (t : List V) (sz : Nat) (x : V) (lo hi mx : Option Opd) : Option V :=
  match x with
  | .nils => match boundOf G t 0 lo, boundOf G t 0 hi, boundOf G t 0 mx with
    | some 0, some 0, some 0 => some .nils
    | _, _, _ => none
  | .rs sz' els => match boundOf G t 0 lo, boundOf G t els.length hi, mx with
    | some l, some h, none => if l ≤ h ∧ h ≤ els.length ∧ sz' = sz then some (.rs sz ((els.take h).drop l)) else none
    | _, _, _ => none
  | .os b v sz' i n clip => match boundOf G t 0 lo, boundOf G t n hi with
    | some l, some h => if l ≤ h ∧ h ≤ n ∧ sz' = sz then
        match mx with
        | none => some (.os b v sz (i + l) (h - l) (clip && h == n))
        | some m => match boundOf G t 0 (some m) with
          | some m' => if m' = h then some (.os b v sz (i + l) (h - l) true) else none
          | none => none
      else none
    | _, _ => none
  | _ => none

def one (v : Option V) (h : H) : Option Res := match v with | some v => some ⟨v, h, [], []⟩ | none => none

def op_mv (t : List V) (x : Opd) (h : H) : Option Res :=
  one (ev G t x) h
def op_pick (t : List V) (c : Opd) (a : Opd) (b : Opd) (h : H) : Option Res :=
  match ev G t c with
  | some (.bool true) => one (ev G t a) h
  | some (.bool false) => one (ev G t b) h
  | _ => none
def op_alloc (t : List V) (cells : List V) (h : H) : Option Res :=
  some ⟨.ptr h.length 0 0 0, newRow h cells.length [cells], [], []⟩
def op_box (t : List V) (n : Nat) (x : Opd) (h : H) : Option Res :=
  match ev G t x with
  | some x => if x.cells.length = n ∧ x.lies = true then some ⟨.ptr h.length 0 0 0, newRow h n [x.cells], [], []⟩ else none
  | _ => none
def op_build (t : List V) (zero : List V) (parts : List (Nat × Nat × Opd)) (h : H) : Option Res :=
  match evP G t parts with
  | some ps => match fillV zero ps with
    | some cs => some ⟨.agg cs, h, [], []⟩
    | none => none
  | none => none
def op_bslice (t : List V) (sz : Nat) (len : Nat) (zero : List V) (parts : List (Nat × Nat × Opd)) (h : H) : Option Res :=
  match evP G t parts with
  | some ps => match fillV (List.replicate len zero).flatten ps with
    | some cs => some ⟨.os h.length 0 sz 0 len true, newRow h sz (chunks sz len cs), [], []⟩
    | none => none
  | none => none
def op_load (t : List V) (agg : Option Nat) (a : Opd) (h : H) : Option Res :=
  match ev G t a with
  | some a => match deref h a with
    | some (cells, r) => match loadC agg cells with
      | some v => some ⟨v, h, r, []⟩
      | none => none
    | none => none
  | none => none
def op_store (t : List V) (n : Nat) (a : Opd) (x : Opd) (h : H) : Option Res :=
  match ev G t a, ev G t x with
  | some a, some x => storeV n h a x
  | _, _ => none
def op_nilc (t : List V) (x : Opd) (h : H) : Option Res :=
  match ev G t x with
  | some (.ptr b v i o) => some ⟨.ptr b v i o, h, [], []⟩
  | some (.rp c) => some ⟨.rp c, h, [], []⟩
  | some (.fn f c) => some ⟨.fn f c, h, [], []⟩
  | _ => none
def op_bin (t : List V) (op : BinOp) (cmp : Cmp) (x : Opd) (y : Opd) (h : H) : Option Res :=
  match ev G t x, ev G t y with
  | some x, some y => one (binV op cmp x y) h
  | _, _ => none
def op_un (t : List V) (op : UnOp) (x : Opd) (h : H) : Option Res :=
  match ev G t x with
  | some x => one (unV op x) h
  | none => none
def op_convI (t : List V) (k : IntKind) (x : Opd) (h : H) : Option Res :=
  match ev G t x with
  | some (.int _ n) => forceI (wrapF k n) fun n => some ⟨.int k n, h, [], []⟩
  | _ => none
def op_s2b (t : List V) (x : Opd) (h : H) : Option Res :=
  match ev G t x with
  | some (.str s) => if s.length ≤ 140737488355328 then some ⟨.os h.length 0 1 0 s.length false, newRow h 1 (s.map fun c => [V.int .u8 c.toNat]), [], []⟩ else none
  | _ => none
def op_b2s (t : List V) (x : Opd) (h : H) : Option Res :=
  match ev G t x with
  | some x => match (match x with | .nils => some (1, [], []) | x => elems h x) with
    | some (1, els, r) => match mapM? (fun c => match c with | [V.int .u8 n] => some (UInt8.ofNat n.toNat) | _ => none) els with
      | some bs => some ⟨.str bs, h, r, []⟩
      | none => none
    | _ => none
  | none => none
def op_mkfn (t : List V) (f : FuncId) (cap : List Opd) (h : H) : Option Res :=
  match evs G t cap with
  | some cs => some ⟨.fn f cs, h, [], []⟩
  | none => none
def op_mkslice (t : List V) (sz : Nat) (bytes : Nat) (zero : List V) (l : Opd) (c : Opd) (h : H) : Option Res :=
  match ev G t l, ev G t c with
  | some (.int .i64 l), some (.int .i64 c) => if l < 0 ∨ c < l ∨ bytes * c > 140737488355328 then none
      else some ⟨.os h.length 0 sz 0 l.toNat false, newRow h sz (List.replicate c.toNat zero), [], []⟩
  | _, _ => none
def op_cut (t : List V) (sz : Nat) (x : Opd) (lo : Option Opd) (hi : Option Opd) (mx : Option Opd) (h : H) : Option Res :=
  match ev G t x with
  | some x => one (cutV G t sz x lo hi mx) h
  | none => none
def op_cutS (t : List V) (x : Opd) (lo : Option Opd) (hi : Option Opd) (h : H) : Option Res :=
  match ev G t x with
  | some (.str s) => match boundOf G t 0 lo, boundOf G t s.length hi with
    | some l, some r => if l ≤ r ∧ r ≤ s.length then some ⟨.str ((s.take r).drop l), h, [], []⟩ else none
    | _, _ => none
  | _ => none
def op_faddr (t : List V) (off : Nat) (x : Opd) (h : H) : Option Res :=
  match ev G t x with
  | some (.ptr b v i o) => some ⟨.ptr b v i (o + off), h, [], []⟩
  | some (.rp cells) => some ⟨.rp (cells.drop off), h, [], []⟩
  | _ => none
def op_field (t : List V) (agg : Option Nat) (off : Nat) (x : Opd) (h : H) : Option Res :=
  match ev G t x with
  | some (.agg cs) => one (loadC agg (cs.drop off)) h
  | _ => none
def op_iaddr (t : List V) (s : Nat) (x : Opd) (ix : Opd) (h : H) : Option Res :=
  match ev G t x, ev G t ix with
  | some (.rs sz els), some (.int _ n) => if 0 ≤ n ∧ sz = s then
      match els[n.toNat]? with
      | some el => some ⟨.rp el, h, [], []⟩
      | none => none
    else none
  | some (.os b v sz i m _), some (.int _ n) => if 0 ≤ n ∧ n < m ∧ sz = s then some ⟨.ptr b v (i + n.toNat) 0, h, [], []⟩ else none
  | _, _ => none
def op_iaddrA (t : List V) (len : Nat) (s : Nat) (x : Opd) (ix : Opd) (h : H) : Option Res :=
  match ev G t x, ev G t ix with
  | some (.rp cells), some (.int _ n) => if 0 ≤ n ∧ n < len then some ⟨.rp (cells.drop (n.toNat * s)), h, [], []⟩ else none
  | some (.ptr b v i o), some (.int _ n) => if 0 ≤ n ∧ n < len then some ⟨.ptr b v i (o + n.toNat * s), h, [], []⟩ else none
  | _, _ => none
def op_index (t : List V) (x : Opd) (ix : Opd) (h : H) : Option Res :=
  match ev G t x, ev G t ix with
  | some (.str s), some (.int _ n) => if 0 ≤ n then match s[n.toNat]? with
      | some b => some ⟨.int .u8 b.toNat, h, [], []⟩
      | none => none
    else none
  | _, _ => none
/-- the first place of a byte from one on -/
def idxFrom (n : Nat) : List UInt8 → Nat → Int
  | [], _ => -1
  | b :: l, i => bif Nat.beq b.toNat n then (i : Int) else idxFrom n l (i + 1)
def op_idxB (t : List V) (x : Opd) (ix : Opd) (h : H) : Option Res :=
  match ev G t x, ev G t ix with
  | some (.str s), some (.int .u8 n) => some ⟨.int .i64 (idxFrom n.toNat.toUInt8.toNat s 0), h, [], []⟩
  | _, _ => none
def op_idxA (t : List V) (len : Nat) (agg : Option Nat) (s : Nat) (x : Opd) (ix : Opd) (h : H) : Option Res :=
  match ev G t x, ev G t ix with
  | some (.agg cs), some (.int _ n) => if 0 ≤ n ∧ n < len then one (loadC agg (cs.drop (n.toNat * s))) h else none
  | _, _ => none
/-- how often a byte stands there -/
def cntOf (n : Nat) : List UInt8 → Nat → Nat
  | [], k => k
  | b :: l, k => cntOf n l (bif Nat.beq b.toNat n then k + 1 else k)
def op_cntB (t : List V) (x : Opd) (ix : Opd) (h : H) : Option Res :=
  match ev G t x, ev G t ix with
  | some (.str s), some (.int .u8 n) => some ⟨.int .i64 (cntOf n.toNat.toUInt8.toNat s 0), h, [], []⟩
  | _, _ => none
def op_extract (t : List V) (x : Opd) (i : Nat) (h : H) : Option Res :=
  match ev G t x with
  | some (.tup vs) => one vs[i]? h
  | _ => none
def op_lenS (t : List V) (x : Opd) (h : H) : Option Res :=
  match ev G t x with
  | some (.str s) => some ⟨.int .i64 s.length, h, [], []⟩
  | _ => none
def op_len (t : List V) (x : Opd) (h : H) : Option Res :=
  match ev G t x with
  | some .nils => some ⟨.int .i64 0, h, [], []⟩
  | some (.rs _ els) => some ⟨.int .i64 els.length, h, [], []⟩
  | some (.os _ _ _ _ n _) => some ⟨.int .i64 n, h, [], []⟩
  | _ => none
def op_append (t : List V) (sz : Nat) (bytes : Nat) (s : Opd) (x : Opd) (h : H) : Option Res :=
  match ev G t s, ev G t x with
  | some s, some x => appendV sz bytes h s x
  | _, _ => none
def op_minmax (t : List V) (mx : Bool) (xs : List Opd) (h : H) : Option Res :=
  match evs G t xs with
  | some (.int .i64 x :: rest) => match minV mx x rest with
    | some n => some ⟨.int .i64 n, h, [], []⟩
    | none => none
  | _ => none
def op_call (C : FuncId → List V → H → Option Res) (t : List V) (f : Opd) (args : List Opd) (h : H) : Option Res :=
  match ev G t f, evs G t args with
  | some (.fn f cap), some as => C f (as ++ cap) h
  | _, _ => none

def opV (C : FuncId → List V → H → Option Res) (t : List V) (o : MOp) (h : H) : Option Res :=
  match o with
  | .mv x => op_mv G t x h
  | .pick c a b => op_pick G t c a b h
  | .alloc cells => op_alloc t cells h
  | .box n x => op_box G t n x h
  | .build zero parts => op_build G t zero parts h
  | .bslice sz len zero parts => op_bslice G t sz len zero parts h
  | .load agg a => op_load G t agg a h
  | .store n a x => op_store G t n a x h
  | .nilc x => op_nilc G t x h
  | .bin op cmp x y => op_bin G t op cmp x y h
  | .un op x => op_un G t op x h
  | .convI k x => op_convI G t k x h
  | .s2b x => op_s2b G t x h
  | .b2s x => op_b2s G t x h
  | .mkfn f cap => op_mkfn G t f cap h
  | .mkslice sz bytes zero l c => op_mkslice G t sz bytes zero l c h
  | .cut sz x lo hi mx => op_cut G t sz x lo hi mx h
  | .cutS x lo hi => op_cutS G t x lo hi h
  | .faddr off x => op_faddr G t off x h
  | .field agg off x => op_field G t agg off x h
  | .iaddr s x ix => op_iaddr G t s x ix h
  | .iaddrA len s x ix => op_iaddrA G t len s x ix h
  | .index x ix => op_index G t x ix h
  | .idxB x ix => op_idxB G t x ix h
  | .cntB x ix => op_cntB G t x ix h
  | .idxA len agg s x ix => op_idxA G t len agg s x ix h
  | .extract x i => op_extract G t x i h
  | .len x => op_len G t x h
  | .lenS x => op_lenS G t x h
  | .append sz bytes s x => op_append G t sz bytes s x h
  | .minmax mx xs => op_minmax G t mx xs h
  | .call f args => op_call G C t f args h

/-- is an operation carried out? -/
def wantedV (t : List V) : Option (Nat × Bool) → Bool
  | none => true
  | some (d, want) => match t[d]? with
    | some (.bool b) => b == want
    | _ => false

def putV (t : List V) (d : Option Nat) (v : V) : List V := match d with | some d => t.set d v | none => t

def regPut (n0 : Nat) (s : St) (d : Option Nat) (x : Res) : St := ⟨putV s.t d x.v, x.h, uni n0 x.r s.r, uni n0 x.w s.w⟩
def regStep (k : St → Option St) (n0 : Nat) (s : St) (d : Option Nat) : Option Res → Option St
  | some x => k (regPut n0 s d x)
  | none => none
def regV (C : FuncId → List V → H → Option Res) (n0 : Nat) : List MOper → St → Option St
  | [], s => some s
  | o :: rest, s => bif wantedV s.t o.guard then regStep (regV C n0 rest) n0 s o.dst (opV G C s.t o.op s.h)
    else regV C n0 rest ⟨putV s.t o.dst .undef, s.h, s.r, s.w⟩

def clash (r w r' w' : List Nat) : Bool := meets w r' || meets w w' || meets r w'
/-- an operation with footprint r, w, that comes behind those of the mask, beside the earlier ones -/
def freeAt (mask : Nat) (r w : List Nat) : List (Nat × List Nat × List Nat) → Bool
  | [] => true
  | (i, r', w') :: rest => (!clash r w r' w' || mask.testBit i) && freeAt mask r w rest
def note (j : Nat) (r w : List Nat) (fs : List (Nat × List Nat × List Nat)) : List (Nat × List Nat × List Nat) :=
  if r.isEmpty && w.isEmpty then fs else (j, r, w) :: fs

/-- the blocks that are written, and the new ones -/
def allW (h : H) (x : Res) : List Nat := x.w ++ List.range' h.length (x.h.length - h.length)
def drawStep (k : List (Nat × List Nat × List Nat) → St → Option St) (n0 j m : Nat) (fs : List (Nat × List Nat × List Nat)) (s : St) (d : Option Nat) : Option Res → Option St
  | some x => bif freeAt m x.r (allW s.h x) fs then k (note j x.r (allW s.h x) fs) (regPut n0 s d x) else none
  | none => none
def drawV (C : FuncId → List V → H → Option Res) (n0 : Nat) : List MOper → Nat → List Nat → List (Nat × List Nat × List Nat) → St → Option St
  | [], _, _, _, s => some s
  | o :: rest, j, masks, fs, s => match masks with
    | [] => none
    | m :: masks => bif wantedV s.t o.guard then drawStep (drawV C n0 rest (j + 1) masks) n0 j m fs s o.dst (opV G C s.t o.op s.h)
      else drawV C n0 rest (j + 1) masks fs ⟨putV s.t o.dst .undef, s.h, s.r, s.w⟩

inductive Ex | normal | exit (id : Nat) | ret
  deriving DecidableEq, Inhabited

def exSeq (ex : MCode → St → Option (Ex × St)) (b : MCode) : Option (Ex × St) → Option (Ex × St)
  | some (.normal, s') => ex b s'
  | r => r
def exCond (ex : MCode → St → Option (Ex × St)) (a b : MCode) (s : St) : Option V → Option (Ex × St)
  | some (.bool true) => ex a s
  | some (.bool false) => ex b s
  | _ => none
def exBlock (id : Nat) : Option (Ex × St) → Option (Ex × St)
  | some (.exit id', s') => if id' = id then some (.normal, s') else some (.exit id', s')
  | r => r
def exReg : Option St → Option (Ex × St)
  | some s' => some (.normal, s')
  | none => none
def exStep (C : FuncId → List V → H → Option Res) (n0 : Nat) (ex : MCode → St → Option (Ex × St)) (c : MCode) (s : St) : Option (Ex × St) :=
  match c with
  | .skip => some (.normal, s)
  | .ret => some (.ret, s)
  | .exit id => some (.exit id, s)
  | .seq a b => exSeq ex b (ex a s)
  | .cond c a b => exCond ex a b s (ev G s.t c)
  | .block id c => exBlock id (ex c s)
  | .loop c => exSeq ex (.loop c) (ex c s)
  | .reg ops => exReg (regV G C n0 ops s)
  | .draw ops masks => exReg (drawV G C n0 ops 0 masks [] s)
def exec (C : FuncId → List V → H → Option Res) (n0 : Nat) : Nat → MCode → St → Option (Ex × St)
  | 0 => fun _ _ => none
  | n + 1 => exStep G C n0 (exec C n0 n)
end

/-- a value that lives on behind a call: what lies in blocks from n0 on is laid into it -/
def fz (n0 : Nat) (h : H) : Nat → Bool → V → Option V
  | 0, _, _ => none
  | k + 1, inn, v => match v with
    | .os b vv sz i n clip => if b < n0 then (if inn then none else some (.os b vv sz i n clip)) else
      match rowAt h b vv with
      | some x => if x.sz = sz ∧ i + n ≤ x.els.length then
          match mapM? (mapM? (fz n0 h k true)) ((x.els.drop i).take n) with
          | some els => some (.rs sz els)
          | none => none
        else none
      | none => none
    | .ptr b vv i o => if b < n0 then (if inn then none else some (.ptr b vv i o)) else
      match rowAt h b vv with
      | some x => match x.els[i]? with
        | some el => match mapM? (fz n0 h k true) (el.drop o) with
          | some cs => some (.rp cs)
          | none => none
        | none => none
      | none => none
    | .mp b => if b < n0 ∧ !inn then some (.mp b) else none
    | .fn f cap => match mapM? (fz n0 h k inn) cap with
      | some cs => some (.fn f cs)
      | none => none
    | .agg cs => match mapM? (fz n0 h k inn) cs with
      | some cs => some (.agg cs)
      | none => none
    | .tup vs => match mapM? (fz n0 h k inn) vs with
      | some cs => some (.tup cs)
      | none => none
    | v => some v

def fzBlk (n0 : Nat) (h : H) : List Nat → H → Option H
  | [], h' => some h'
  | b :: bs, h' => match h[b]? with
    | some (.row x) => match mapM? (mapM? (fz n0 h 100 false)) x.els with
      | some els => fzBlk n0 h bs (h'.set b (.row { x with els }))
      | none => none
    | none => none

def resV (h : H) (t : List V) : List MRes → Option (List V × List Nat)
  | [] => some ([], [])
  | .tmp i :: rest => match t[i]?, resV h t rest with
    | some v, some (vs, r) => some (v :: vs, r)
    | _, _ => none
  | .cell a agg :: rest => match t[a]?, resV h t rest with
    | some a, some (vs, r) => match deref h a with
      | some (cells, r1) => match loadC agg cells with
        | some v => some (v :: vs, r1 ++ r)
        | none => none
      | none => none
    | _, _ => none

def tupV : List V → V
  | [v] => v
  | vs => .tup vs

/-- a value handed to a call that only reads: what it leads to is laid into it; which blocks are read -/
def lend (h : H) : Nat → V → Option (V × List Nat)
  | 0, _ => none
  | k + 1, v => match v with
    | .os b vv sz i n _ => match rowAt h b vv with
      | some x => if x.sz = sz ∧ i + n ≤ x.els.length then
          match mapM? (mapM? (lend h k)) ((x.els.drop i).take n) with
          | some els => some (.rs sz (els.map (·.map (·.1))), b :: els.flatMap (·.flatMap (·.2)))
          | none => none
        else none
      | none => none
    | .ptr b vv i o => match rowAt h b vv with
      | some x => match x.els[i]? with
        | some el => match mapM? (lend h k) (el.drop o) with
          | some cs => some (.rp (cs.map (·.1)), b :: cs.flatMap (·.2))
          | none => none
        | none => none
      | none => none
    | .mp _ => none
    | .fn f cap => match mapM? (lend h k) cap with
      | some cs => some (.fn f (cs.map (·.1)), cs.flatMap (·.2))
      | none => none
    | .agg cs => match mapM? (lend h k) cs with
      | some cs => some (.agg (cs.map (·.1)), cs.flatMap (·.2))
      | none => none
    | .tup cs => match mapM? (lend h k) cs with
      | some cs => some (.tup (cs.map (·.1)), cs.flatMap (·.2))
      | none => none
    | v => some (v, [])

/-- leads it nowhere? -/
def V.plain1 : V → Bool
  | .bool _ | .int _ _ | .str _ | .undef | .nilp | .nils | .nilm | .nilf => true
  | _ => false
def V.plain : V → Bool
  | .agg cs => cs.all V.plain1
  | .tup vs => vs.all fun v => match v with | .agg cs => cs.all V.plain1 | v => v.plain1
  | v => v.plain1

/-- how a call is told: what is made lives on as values; as its caller's to write; or the call only reads, and is told without the heap -/
inductive Mode | frozen | keep | pure
  deriving DecidableEq, Inhabited

/-- the functions of a program, translated; each one's mode; what is known of calls that only read -/
structure Env where
  fn : FuncId → Option MFunc
  mode : FuncId → Mode
  memo : FuncId → List V → Option V
  G : Nat → Option V

def callOut (n0 : Nat) (keep : Bool) (v : V) (r1 : List Nat) (s : St) : Option Res :=
  bif keep then some ⟨v, s.h, uni n0 r1 s.r, s.w⟩ else
  match fz n0 s.h 100 false v, fzBlk n0 s.h s.w (s.h.take n0) with
  | some v, some h' => some ⟨v, h', uni n0 r1 s.r, s.w⟩
  | _, _ => none
def callRes (n0 : Nat) (keep : Bool) (res : List MRes) (s : St) : Option Res :=
  match resV s.h s.t res with
  | some (vs, r1) => callOut n0 keep (tupV vs) r1 s
  | none => none
def callEnd (n0 : Nat) (keep : Bool) (res : List MRes) : Option (Ex × St) → Option Res
  | some (.normal, s) => callRes n0 keep res s
  | some (.ret, s) => callRes n0 keep res s
  | _ => none
def callBody (E : Env) (C : FuncId → List V → H → Option Res) (n : Nat) (keep : Bool) (args : List V) (h : H) : Option MFunc → Option Res
  | some fn => callEnd h.length keep fn.res (exec E.G C h.length n fn.body ⟨args ++ List.replicate (fn.ntmps - args.length) .undef, h, [], []⟩)
  | none => none
/-- the answer of a call that only reads -/
def pureBody (E : Env) (C : FuncId → List V → H → Option Res) (n : Nat) (f : FuncId) (args : List V) : Option V :=
  match E.memo f args with
  | some v => some v
  | none => match callBody E C n false args [] (E.fn f) with
    | some x => some x.v
    | none => none
def callPure (p : List V → Option V) (h : H) : Option (List (V × List Nat)) → Option Res
  | some as => match p (as.map (·.1)) with
    | some v => bif (as.flatMap (·.2)).isEmpty || v.plain then some ⟨v, h, as.flatMap (·.2), []⟩ else none
    | none => none
  | none => none
def callStep (E : Env) (C : FuncId → List V → H → Option Res) (n : Nat) (f : FuncId) (args : List V) (h : H) : Mode → Option Res
  | .frozen => callBody E C n false args h (E.fn f)
  | .keep => callBody E C n true args h (E.fn f)
  | .pure => callPure (pureBody E C n f) h (mapM? (lend h 100) args)
def call (E : Env) : Nat → FuncId → List V → H → Option Res
  | 0 => fun _ _ _ => none
  | n + 1 => fun f args h => callStep E (call E n) n f args h (E.mode f)
end Go.Mini
