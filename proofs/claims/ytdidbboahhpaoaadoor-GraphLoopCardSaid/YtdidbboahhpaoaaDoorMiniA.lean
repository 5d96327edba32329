/- A part of the proof: MiniA. No condition. -/
import Derived.Calls
import Derived.Orders
import Derived.Laws.Sem
import Derived.Laws.World
import Derived.Laws.Cells
import Derived.Laws.BitsLemmas
import Derived.Lib.Bytealg
import Derived.Laws.StructEq
import Derived.Laws.Strings2
import Derived.Laws.Slices
import Derived.Laws.IdiomCopy
import Derived.Laws.Tables
import Derived.Laws.BytesArg
set_option linter.all false
set_option maxRecDepth 100000
namespace Go.Mini

/-- Values of the small machine. -/
inductive V where
  | bool (b : Bool)
  | int (k : IntKind) (n : Int)
  | str (s : List UInt8)
  | undef
  | nilp
  | ptr (b v i o : Nat)
  | rp (cells : List V)
  | nils
  | os (b v sz i n : Nat) (clip : Bool)
  | rs (sz : Nat) (els : List (List V))
  | nilm
  | nilmap
  | mp (b : Nat)
  | nilf
  | fn (f : FuncId) (cap : List V)
  | agg (cells : List V)
  | tup (vs : List V)
  deriving Inhabited

structure Row where
  sz : Nat
  els : List (List V)
  cur : Nat
  rd : Nat
  deriving Inhabited

/-- a map's entries: the keys are structs of whole numbers, the elements whole numbers -/
abbrev Ents := List (List (IntKind × Int) × (IntKind × Int))
inductive Ob where
  | row (x : Row)
  | mp (es : Ents)
  deriving Inhabited

abbrev H := List Ob

def V.cells : V → List V
  | .agg cs => cs
  | v => [v]
/-- may a value lie in one cell? -/
def V.isCell : V → Bool
  | .agg _ | .tup _ | .undef => false
  | _ => true
/-- may a value lie in memory? -/
def V.lies : V → Bool
  | .agg _ => true
  | .tup _ | .undef => false
  | _ => true

def ofVal1 : Value → Option V
  | .bool b => some (.bool b)
  | .int k n => some (.int k n)
  | .string s => some (.str s.data.toList)
  | .tuple vs => if vs.size = 0 then some .undef else none
  | .pointer none => some .nilp
  | .slice none 0 0 => some .nils
  | .nilIface => some .nilm
  | .nilFunc => some .nilf
  | .map none => some .nilmap
  | _ => none
def ofVals : List Value → Option (List V)
  | [] => some []
  | v :: vs => match ofVal1 v, ofVals vs with
    | some x, some xs => if x.isCell then some (x :: xs) else none
    | _, _ => none
def ofVal : Value → Option V
  | .agg cs => (ofVals cs.toList).map .agg
  | v => ofVal1 v

/-! ### The code, its types resolved -/
inductive Opd where
  | t (i : Nat)
  | c (v : V)
  | g (n : Nat)
  deriving Inhabited

/-- the kinds of a plain struct's fields -/
inductive FK | b | i | s
  deriving DecidableEq, Inhabited
/-- how two values are held against each other -/
inductive Cmp where
  | no
  | bool
  | flat (ks : List FK)
  | ptr
  | slice
  | func
  | iface
  deriving Inhabited

inductive MOp where
  | mv (x : Opd)
  | pick (c a b : Opd)
  | alloc (cells : List V)
  | box (n : Nat) (x : Opd)
  | build (zero : List V) (parts : List (Nat × Nat × Opd))
  | bslice (sz len : Nat) (zero : List V) (parts : List (Nat × Nat × Opd))
  | load (agg : Option Nat) (a : Opd)
  | store (n : Nat) (a x : Opd)
  | nilc (x : Opd)
  | bin (op : BinOp) (cmp : Cmp) (x y : Opd)
  | un (op : UnOp) (x : Opd)
  | convI (k : IntKind) (x : Opd)
  | s2b (x : Opd)
  | b2s (x : Opd)
  | mkfn (f : FuncId) (cap : List Opd)
  | mkslice (sz bytes : Nat) (zero : List V) (l c : Opd)
  | cut (sz : Nat) (x : Opd) (lo hi mx : Option Opd)
  | cutS (x : Opd) (lo hi : Option Opd)
  | faddr (off : Nat) (x : Opd)
  | field (agg : Option Nat) (off : Nat) (x : Opd)
  | iaddr (sz : Nat) (x i : Opd)
  | iaddrA (len sz : Nat) (x i : Opd)
  | index (x i : Opd)
  | idxB (x i : Opd)
  | cntB (x i : Opd)
  | mkmap
  | look (ks : List FK) (zk : IntKind) (z : Int) (ok : Bool) (m k : Opd)
  | mput (ks : List FK) (m k x : Opd)
  | idxA (len : Nat) (agg : Option Nat) (sz : Nat) (x i : Opd)
  | extract (x : Opd) (i : Nat)
  | len (x : Opd)
  | lenS (x : Opd)
  | append (sz bytes : Nat) (s x : Opd)
  | minmax (mx : Bool) (xs : List Opd)
  | call (f : Opd) (args : List Opd)
  deriving Inhabited

structure MOper where
  dst : Option Nat
  op : MOp
  guard : Option (Nat × Bool)
  deriving Inhabited

inductive MCode where
  | skip
  | ret
  | exit (id : Nat)
  | seq (a b : MCode)
  | cond (c : Opd) (a b : MCode)
  | block (id : Nat) (c : MCode)
  | loop (c : MCode)
  | reg (ops : List MOper)
  | draw (ops : List MOper) (masks : List Nat)
  deriving Inhabited

inductive MRes where
  | tmp (i : Nat)
  | cell (a : Nat) (agg : Option Nat)
  deriving Inhabited

structure MFunc where
  ntmps : Nat
  body : MCode
  res : List MRes
  deriving Inhabited

/-! ### The translation -/
def mapM? {α β : Type} (f : α → Option β) : List α → Option (List β)
  | [] => some []
  | x :: xs => match f x, mapM? f xs with
    | some y, some ys => some (y :: ys)
    | _, _ => none

section
variable (P : Program)

def isAggT (t : TypeId) : Option Bool :=
  match P.underlying t with
  | some (.struct _) | some (.array _ _) => some true
  | some _ => some false
  | none => none
def sizeT (t : TypeId) : Option Nat := (P.info? t).map (·.size)
def zeroT (t : TypeId) : Option V := match P.info? t with
  | some i => match i.zero with | some z => ofVal z | none => none
  | none => none
def aggN (t : TypeId) : Option (Option Nat) :=
  match isAggT P t, sizeT P t with
  | some true, some n => some (some n)
  | some false, some _ => some none
  | _, _ => none

/-- may structs of a type be held cell against cell? -/
def flatF : List Field → Nat → Option (List FK)
  | [], _ => some []
  | f :: fs, n => if f.name ≠ "_" ∧ f.offset = n then
      match P.underlying f.type with
      | some .bool => (flatF fs (n + 1)).map (.b :: ·)
      | some (.int _) => (flatF fs (n + 1)).map (.i :: ·)
      | some .string => (flatF fs (n + 1)).map (.s :: ·)
      | _ => none
    else none
def flatT (ty : TypeId) : Option (List FK) :=
  match P.underlying ty with
  | some (.struct fs) => if P.stoodInHeld ty || P.eqGuardType P.depth ty then none else flatF P fs.toList 0
  | _ => none

def cmpT (ty : TypeId) : Cmp :=
  match P.underlying ty with
  | some (.struct _) => match flatT P ty with | some n => .flat n | none => .no
  | some .bool => .bool
  | some (.pointer _) => .ptr
  | some (.slice _) => .slice
  | some (.func _ _ _) => .func
  | _ => .no

def opd : Operand → Option Opd
  | .tmp i => some (.t i)
  | .const v => (ofVal v).map .c
  | .global g => some (.g g)
  | .func f => some (.c (.fn f []))
def opdO : Option Operand → Option (Option Opd)
  | none => some none
  | some x => (opd x).map some

/-- is an operand the library's search for a byte, which is of no text? -/
def isIdx : Operand → Bool
  | .func f => match P.funcs[f]? with
    | some fn => fn.body.isNone && fn.name == "internal/bytealg.IndexByteString" && (Extern.findNext fn).isNone
    | none => false
  | _ => false

def compOp (o : Oper) : Option MOp :=
  match o.op with
  | .move x | .assign x => (opd x).map .mv
  | .pick c a b => match opd c, opd a, opd b with
    | some c, some a, some b => some (.pick c a b)
    | _, _, _ => none
  | .alloc ty => match zeroT P ty with
    | some z => if z.cells.all V.isCell then some (.alloc z.cells) else none
    | _ => none
  | .box ty x => match opd x, sizeT P ty with
    | some x, some n => some (.box n x)
    | _, _ => none
  | .build ty parts => match zeroT P ty, P.underlying ty with
    | some z, some (.struct fs) =>
      match mapM? (fun (p : Nat × Operand) => match fs[p.1]?, opd p.2 with
          | some f, some x => (sizeT P f.type).map fun s => (f.offset, s, x)
          | _, _ => none) parts.toList, mapM? (fun (f : Field) => sizeT P f.type) fs.toList with
      | some ps, some _ => if z.cells.all V.isCell then some (.build z.cells ps) else none
      | _, _ => none
    | _, _ => none
  | .buildSlice ty len parts => match P.underlying ty with
    | some (.slice el) => match sizeT P el, zeroT P el with
      | some s, some z => if s = 0 ∨ z.cells.length ≠ s ∨ len * s > 16777216 ∨ z.cells.all V.isCell = false then none else
        match mapM? (fun (p : Nat × Operand) => (opd p.2).map fun x => (p.1 * s, s, x)) parts.toList with
        | some ps => some (.bslice s len z.cells ps)
        | none => none
      | _, _ => none
    | _ => none
  | .load ty a => match aggN P ty, opd a with
    | some n, some a => some (.load n a)
    | _, _ => none
  | .store ty a x => match sizeT P ty, opd a, opd x with
    | some n, some a, some x => if n = 0 then none else some (.store n a x)
    | _, _, _ => none
  | .nilCheck x => (opd x).map .nilc
  | .binOp op ty x y _ => match opd x, opd y with
    | some x, some y => some (.bin op (cmpT P ty) x y)
    | _, _ => none
  | .unOp op _ x => (opd x).map (.un op)
  | .convert src dst x => match P.underlying src, P.underlying dst, opd x with
    | some (.int _), some (.int k), some x => some (.convI k x)
    | some .string, some (.slice el), some x => match P.underlying el, P.info? el with
      | some (.int .u8), some inf => if inf.size = 1 ∧ inf.bytes = 1 then some (.s2b x) else none
      | _, _ => none
    | some (.slice el), some .string, some x => match P.underlying el with
      | some (.int .u8) => some (.b2s x)
      | _ => none
    | _, _, _ => none
  | .makeFunc (.func f) first cap => match first.toList, mapM? opd cap.toList with
    | [], some cs => some (.mkfn f cs)
    | _, _ => none
  | .makeSlice ty l c => match P.underlying ty with
    | some (.slice el) => match P.info? el, zeroT P el, opd l, opd c with
      | some inf, some z, some l, some c => if inf.size = 0 ∨ inf.bytes = 0 ∨ z.cells.length ≠ inf.size ∨ z.cells.all V.isCell = false then none else some (.mkslice inf.size inf.bytes z.cells l c)
      | _, _, _, _ => none
    | _ => none
  | .slice ty x lo hi mx => match P.underlying ty, opd x, opdO lo, opdO hi, opdO mx with
    | some .string, some x, some lo, some hi, some none => some (.cutS x lo hi)
    | some (.slice el), some x, some lo, some hi, some mx => match sizeT P el with
      | some s => if mx.isSome && hi.isNone then none else some (.cut s x lo hi mx)
      | none => none
    | _, _, _, _, _ => none
  | .fieldAddr s x f => match P.underlying s, opd x with
    | some (.struct fs), some x => match fs[f]? with
      | some f => match sizeT P f.type with
        | some s => if s = 0 then none else some (.faddr f.offset x)
        | none => none
      | none => none
    | _, _ => none
  | .field ty x f => match P.underlying ty, opd x with
    | some (.struct fs), some x => match fs[f]? with
      | some f => (aggN P f.type).map fun n => .field n f.offset x
      | none => none
    | _, _ => none
  | .indexAddr ty x ix => match P.underlying ty, opd x, opd ix with
    | some (.slice el), some x, some ix => (sizeT P el).map fun s => .iaddr s x ix
    | some (.array len el), some x, some ix => (sizeT P el).map fun s => .iaddrA len s x ix
    | _, _, _ => none
  | .index ty x ix => match P.underlying ty, opd x, opd ix with
    | some .string, some x, some ix => some (.index x ix)
    | _, _, _ => none
  | .extract x i => (opd x).map fun x => .extract x i
  | .call c => match c.callee with
    | .builtin .len => match c.argTypes.toList, mapM? opd c.args.toList with
      | [ty], some [x] => match P.underlying ty with
        | some .string => some (.lenS x)
        | some (.slice _) => some (.len x)
        | _ => none
      | _, _ => none
    | .builtin .append => match c.argTypes.toList, mapM? opd c.args.toList with
      | [ty, ty'], some [s, x] => match P.underlying ty, P.underlying ty' with
        | some (.slice _), some (.int _) => none
        | some (.slice el), some _ => match P.info? el with
          | some inf => match inf.zero with
            | some z => if inf.size = 0 ∨ inf.bytes = 0 ∨ z.cells.size ≠ inf.size then none else some (.append inf.size inf.bytes s x)
            | none => none
          | none => none
        | _, _ => none
      | _, _ => none
    | .builtin .min => (mapM? opd c.args.toList).map (.minmax false)
    | .builtin .max => (mapM? opd c.args.toList).map (.minmax true)
    | .value f => if isIdx P f then (match mapM? opd c.args.toList with
        | some [x, y] => some (.idxB x y)
        | _ => none) else
      match opd f, mapM? opd c.args.toList with
      | some f, some as => some (.call f as)
      | _, _ => none
    | _ => none
  | _ => none

/-- is an operand the library's count of a byte, which is of no text? -/
def isCnt : Operand → Bool
  | .func f => match P.funcs[f]? with
    | some fn => fn.body.isNone && fn.name == "internal/bytealg.CountString" && (Extern.findNext fn).isNone
    | none => false
  | _ => false
/-- a value of an interface type against the literal nil; arrays; the count of a byte -/
def compNil (o : Oper) : Option MOp := match o.op with
  | .binOp op ty x (.const .nilIface) _ => match P.underlying ty, opd x with
    | some (.interface _), some x => some (.bin op .iface x (.c .nilm))
    | _, _ => none
  | .build ty parts => match zeroT P ty, P.underlying ty with
    | some z, some (.array _ el) => match sizeT P el with
      | some s => match mapM? (fun (p : Nat × Operand) => (opd p.2).map fun x => (p.1 * s, s, x)) parts.toList with
        | some ps => if z.cells.all V.isCell then some (.build z.cells ps) else none
        | none => none
      | none => none
    | _, _ => none
  | .index ty x ix => match P.underlying ty, opd x, opd ix with
    | some (.array len el), some x, some ix => match aggN P el, sizeT P el with
      | some g, some s => some (.idxA len g s x ix)
      | _, _ => none
    | _, _, _ => none
  | .call c => match c.callee with
    | .value f => if isCnt P f then (match mapM? opd c.args.toList with
        | some [x, y] => some (.cntB x y)
        | _ => none) else none
    | _ => none
  | .makeMap _ none => some .mkmap
  | .lookup ty x ix ok => match P.underlying ty, opd x, opd ix with
    | some (.map kt et), some x, some ix => match flatT P kt, zeroT P et with
      | some ks, some (.int zk z) => some (.look ks zk z ok x ix)
      | _, _ => none
    | _, _, _ => none
  | .mapUpdate ty m k x => match P.underlying ty, opd m, opd k, opd x with
    | some (.map kt _), some m, some k, some x => match flatT P kt with
      | some ks => some (.mput ks m k x)
      | none => none
    | _, _, _, _ => none
  | _ => none
/-- what the small machine does not know: no run comes behind it -/
def stuckOp : MOp := .call (.c .undef) []
def compX (o : Oper) : MOp := match compNil P o with
  | some m => m
  | none => match compOp P o with
    | some m => m
    | none => stuckOp
theorem compX_cases (o : Oper) : compNil P o = some (compX P o) ∨ compOp P o = some (compX P o) ∨ compX P o = stuckOp := by
  unfold compX
  split
  · rename_i m h; exact .inl h
  · split
    · rename_i m h; exact .inr (.inl h)
    · exact .inr (.inr rfl)

def compOper (ops : List Oper) (o : Oper) : Option MOper :=
  match o.guard with
  | none => some ⟨o.dst, compX P o, none⟩
  | some (j, want) => match (ops[j]?).bind (·.dst) with
    | some d => some ⟨o.dst, compX P o, some (d, want)⟩
    | none => none

def maskOf (acc : List Nat) : List Edge → Option Nat
  | [] => some 0
  | e :: es => match maskOf acc es with
    | some m => if Region.binds .any e then
        if e.on < acc.length then some ((1 <<< e.on) ||| (acc.getD e.on 0) ||| m) else none
      else some m
    | none => none
def masksOf : List Nat → List Oper → Option (List Nat)
  | acc, [] => some acc
  | acc, o :: rest => match maskOf acc o.after.toList with
    | some m => masksOf (acc ++ [m]) rest
    | none => none

def Opd.slot : Opd → List Nat
  | .t i => [i]
  | _ => []
def slotO : Option Opd → List Nat
  | some x => x.slot
  | none => []
def slots : List Opd → List Nat
  | [] => []
  | x :: xs => x.slot ++ slots xs
def slotP : List (Nat × Nat × Opd) → List Nat
  | [] => []
  | x :: xs => x.2.2.slot ++ slotP xs
/-- the slots that an operation reads -/
def MOp.slots : MOp → List Nat
  | .mv x | .box _ x | .nilc x | .un _ x | .convI _ x | .s2b x | .b2s x | .faddr _ x | .field _ _ x | .extract x _ | .len x | .lenS x | .load _ x => x.slot
  | .pick c a b => c.slot ++ a.slot ++ b.slot
  | .alloc _ | .mkmap => []
  | .look _ _ _ _ a x => a.slot ++ x.slot
  | .mput _ a b x => a.slot ++ b.slot ++ x.slot
  | .build _ ps | .bslice _ _ _ ps => slotP ps
  | .store _ a x | .bin _ _ a x | .iaddr _ a x | .iaddrA _ _ a x | .index a x | .idxB a x | .idxA _ _ _ a x | .cntB a x | .append _ _ a x | .mkslice _ _ _ a x => a.slot ++ x.slot
  | .mkfn _ cs => Mini.slots cs
  | .cut _ x a b c => x.slot ++ slotO a ++ slotO b ++ slotO c
  | .cutS x a b => x.slot ++ slotO a ++ slotO b
  | .minmax _ xs => Mini.slots xs
  | .call f as => f.slot ++ Mini.slots as
def MOper.reads (m : MOper) : List Nat := match m.guard with | some (d, _) => d :: m.op.slots | none => m.op.slots
def MOper.hits (m n : MOper) : Bool := match m.dst with
  | some d => n.reads.contains d || n.dst == some d
  | none => false
/-- may slots be written out of the text's order? -/
def slotsOk1 (n : MOper) (mask : Nat) : List MOper → Nat → Bool
  | [], _ => true
  | m :: ms, i => (!(m.hits n || n.hits m) || mask.testBit i) && slotsOk1 n mask ms (i + 1)
def slotsOk (done : List MOper) : List MOper → List Nat → Bool
  | [], [] => true
  | n :: ns, k :: ks => slotsOk1 n k done 0 && slotsOk (done ++ [n]) ns ks
  | _, _ => false

def comp : Code → Option MCode
  | .skip => some .skip
  | .ret => some .ret
  | .exit id => some (.exit id)
  | .seq a b => match comp a, comp b with
    | some a, some b => some (.seq a b)
    | _, _ => none
  | .cond c a b => match opd c, comp a, comp b with
    | some c, some a, some b => some (.cond c a b)
    | _, _, _ => none
  | .block id c => (comp c).map (.block id)
  | .loop c => (comp c).map .loop
  | .region _ ops draw => match mapM? (compOper P ops.toList) ops.toList with
    | some ms => if draw then
        match masksOf [] ops.toList with
        | some ks => if slotsOk [] ms ks then some (.draw ms ks) else none
        | none => none
      else some (.reg ms)
    | none => none
  | _ => none

def compRes : ResultVar → Option MRes
  | .tmp i => some (.tmp i)
  | .cell a ty => (aggN P ty).map (.cell a)

def compF (fn : Func) : Option MFunc :=
  if fn.name == "runtime.NumGoroutine" then none else
  match fn.body with
  | some c => match comp P c, mapM? (compRes P) fn.results.toList with
    | some m, some rs => some ⟨fn.ntmps, m, rs⟩
    | _, _ => none
  | none => none
end

/-! ### The machine -/
/-- value, heap, blocks read, blocks written -/
structure Res where
  v : V
  h : H
  r : List Nat
  w : List Nat
  deriving Inhabited

structure St where
  t : List V
  h : H
  r : List Nat
  w : List Nat
  deriving Inhabited

def ins (b : Nat) (l : List Nat) : List Nat := if l.contains b then l else b :: l
/-- what lies below n0 of a, laid to b -/
def uni (n0 : Nat) : List Nat → List Nat → List Nat
  | [], b => b
  | x :: a, b => if x < n0 then ins x (uni n0 a b) else uni n0 a b
def meets (a b : List Nat) : Bool := a.any b.contains

/-- the same number, forced -/
def forceN {α : Type} (n : Nat) (k : Nat → α) : α := match n with
  | 0 => k 0
  | m + 1 => k (m + 1)
def forceI {α : Type} (n : Int) (k : Int → α) : α := match n with
  | .ofNat m => forceN m fun m => k (.ofNat m)
  | .negSucc m => forceN m fun m => k (.negSucc m)

/-- half the numbers of a kind with a sign; all of one without -/
def halfK : IntKind → Nat
  | .i8 => 128 | .i16 => 32768 | .i32 => 2147483648 | .i64 => 9223372036854775808
  | .u8 => 256 | .u16 => 65536 | .u32 => 4294967296 | .u64 => 18446744073709551616
/-- 'wrap', quick where nothing is wrapped -/
def wrapF (k : IntKind) (n : Int) : Int := match n with
  | .ofNat m => bif Nat.blt m (halfK k) then .ofNat m else k.wrap (.ofNat m)
  | .negSucc m => bif k.signed && Nat.blt m (halfK k) then .negSucc m else k.wrap (.negSucc m)
def ltF : Int → Int → Bool
  | .ofNat m, .ofNat n => Nat.blt m n
  | .negSucc m, .negSucc n => Nat.blt n m
  | .negSucc _, .ofNat _ => true
  | .ofNat _, .negSucc _ => false
def eqF : Int → Int → Bool
  | .ofNat m, .ofNat n => Nat.beq m n
  | .negSucc m, .negSucc n => Nat.beq m n
  | _, _ => false
def kindEq : IntKind → IntKind → Bool
  | .i8, .i8 | .i16, .i16 | .i32, .i32 | .i64, .i64 | .u8, .u8 | .u16, .u16 | .u32, .u32 | .u64, .u64 => true
  | _, _ => false

def intV (op : BinOp) (k : IntKind) (a : Int) (k' : IntKind) (b : Int) : Option V :=
  match op with
  | .shl => bif ltF b 0 then none else forceI (wrapF k (a * 2 ^ (min b.toNat k.bits))) fun n => some (.int k n)
  | .shr => bif ltF b 0 then none else forceI (a.fdiv (2 ^ (min b.toNat k.bits))) fun n => some (.int k n)
  | _ => bif kindEq k k' then (match op with
    | .add => forceI (wrapF k (a + b)) fun n => some (.int k n)
    | .sub => forceI (wrapF k (a - b)) fun n => some (.int k n)
    | .mul => forceI (wrapF k (a * b)) fun n => some (.int k n)
    | .quo => bif eqF b 0 then none else forceI (wrapF k (a.tdiv b)) fun n => some (.int k n)
    | .rem => bif eqF b 0 then none else forceI (a.tmod b) fun n => some (.int k n)
    | .and => forceI (wrapF k (BitVec.ofInt k.bits a &&& BitVec.ofInt k.bits b).toNat) fun n => some (.int k n)
    | .or => forceI (wrapF k (BitVec.ofInt k.bits a ||| BitVec.ofInt k.bits b).toNat) fun n => some (.int k n)
    | .xor => forceI (wrapF k (BitVec.ofInt k.bits a ^^^ BitVec.ofInt k.bits b).toNat) fun n => some (.int k n)
    | .andNot => forceI (wrapF k (BitVec.ofInt k.bits a &&& ~~~BitVec.ofInt k.bits b).toNat) fun n => some (.int k n)
    | .eql => some (.bool (eqF a b))
    | .neq => some (.bool (!(eqF a b)))
    | .lss => some (.bool (ltF a b))
    | .leq => some (.bool !(ltF b a))
    | .gtr => some (.bool (ltF b a))
    | .geq => some (.bool !(ltF a b))
    | _ => none) else none

def eqC : FK → V → V → Option Bool
  | .i, .int k a, .int k' b => bif kindEq k k' then some (eqF a b) else none
  | .b, .bool a, .bool b => some (a == b)
  | .s, .str a, .str b => some (a == b)
  | _, _, _ => none
def eqCs : List FK → List V → List V → Option Bool
  | [], [], [] => some true
  | k :: ks, x :: xs, y :: ys => match eqC k x y with
    | some true => eqCs ks xs ys
    | r => r
  | _, _, _ => none

def strV (op : BinOp) (x y : List UInt8) : Option V :=
  match op with
  | .add => if x.length + y.length ≤ 140737488355328 then some (.str (x ++ y)) else none
  | .eql => some (.bool (x == y))
  | .neq => some (.bool !(x == y))
  | .lss => some (.bool (Op.bytesLess x y))
  | _ => none

def isNil : Cmp → V → Option Bool
  | .ptr, .nilp => some true
  | .ptr, .ptr .. => some false
  | .ptr, .rp _ => some false
  | .slice, .nils => some true
  | .slice, .os .. => some false
  | .slice, .rs .. => some false
  | .func, .nilf => some true
  | .func, .fn .. => some false
  | .iface, .nilm => some true
  | _, _ => none

def eqOp (op : BinOp) (b : Bool) : Option V :=
  match op with
  | .eql => some (.bool b)
  | .neq => some (.bool !b)
  | _ => none

def aggV (op : BinOp) (cmp : Cmp) (a b : List V) : Option V :=
  match cmp with
  | .flat ks => match eqCs ks a b with
    | some r => eqOp op r
    | none => none
  | _ => none

def boolV (op : BinOp) (cmp : Cmp) (a b : Bool) : Option V :=
  match cmp with
  | .bool => eqOp op (a == b)
  | _ => none

def nilV (op : BinOp) (cmp : Cmp) (x y : V) : Option V :=
  match isNil cmp x, isNil cmp y with
  | some a, some b => if a || b then eqOp op (a && b) else none
  | _, _ => none

def binV (op : BinOp) (cmp : Cmp) : V → V → Option V
  | .int k a, .int k' b => intV op k a k' b
  | .str a, .str b => strV op a b
  | .bool a, .bool b => boolV op cmp a b
  | .agg a, .agg b => aggV op cmp a b
  | x, y => nilV op cmp x y

def unV (op : UnOp) : V → Option V
  | .bool b => match op with | .not => some (.bool !b) | _ => none
  | .int k n => match op with
    | .neg => forceI (wrapF k (0 - n)) fun n => some (.int k n)
    | .xor => forceI (k.wrap (BitVec.ofInt k.bits (if k.signed then -1 else k.max) ^^^ BitVec.ofInt k.bits n).toNat) fun n => some (.int k n)
    | _ => none
  | _ => none

def minV (mx : Bool) : Int → List V → Option Int
  | x, [] => some x
  | x, .int .i64 y :: rest => minV mx (bif mx then (bif ltF x y then y else x) else (bif ltF y x then y else x)) rest
  | _, _ => none

def loadC (agg : Option Nat) (cells : List V) : Option V :=
  match agg with
  | some n => if n ≤ cells.length then some (.agg (cells.take n)) else none
  | none => cells.head?

def rowAt (h : H) (b v : Nat) : Option Row :=
  match h[b]? with
  | some (.row x) => if x.rd ≤ v ∧ v ≤ x.cur then some x else none
  | _ => none

/-- what stands from a pointer on, and which block is read -/
def deref (h : H) : V → Option (List V × List Nat)
  | .rp cells => some (cells, [])
  | .ptr b v i o => match rowAt h b v with
    | some x => match x.els[i]? with
      | some el => some (el.drop o, [b])
      | none => none
    | none => none
  | _ => none

def setFrom (l : List V) (o : Nat) (cs : List V) : List V := l.take o ++ cs ++ l.drop (o + cs.length)

def storeV (n : Nat) (h : H) (a x : V) : Option Res :=
  match a with
  | .ptr b v i o => match rowAt h b v with
    | some r => if v = r.cur ∧ x.cells.length = n ∧ x.lies = true then
        match r.els[i]? with
        | some el => if o + n ≤ el.length then
            some ⟨.undef, h.set b (.row { r with els := r.els.set i (setFrom el o x.cells), rd := r.cur }), [], [b]⟩ else none
        | none => none
      else none
    | none => none
  | _ => none

def newRow (h : H) (sz : Nat) (els : List (List V)) : H := h ++ [.row ⟨sz, els, 0, 0⟩]

/-- parts laid into cells -/
def fillV (cells : List V) : List (Nat × Nat × V) → Option (List V)
  | [] => some cells
  | (off, size, v) :: rest => if v.cells.length ≠ size ∨ off + size > cells.length ∨ v.lies = false then none
      else fillV (setFrom cells off v.cells) rest

def chunks (sz : Nat) : Nat → List V → List (List V)
  | 0, _ => []
  | n + 1, l => l.take sz :: chunks sz n (l.drop sz)

/-- a slice's elements, the size of one, which blocks are read -/
def elems (h : H) : V → Option (Nat × List (List V) × List Nat)
  | .rs sz els => some (sz, els, [])
  | .os b v sz i n _ => match rowAt h b v with
    | some x => if x.sz = sz ∧ i + n ≤ x.els.length then some (sz, (x.els.drop i).take n, [b]) else none
    | none => none
  | _ => none

def sources (sz : Nat) (h : H) (x : V) : Option (List (List V) × List Nat) :=
  match x with
  | .nils => some ([], [])
  | .str b => if sz = 1 then some (b.map fun c => [V.int .u8 c.toNat], []) else none
  | x => match elems h x with
    | some (sz', els, r) => if sz' = sz then some (els, r) else none
    | none => none

def appendV (sz bytes : Nat) (h : H) (s x : V) : Option Res :=
  match sources sz h x with
  | some (xs, r) =>
    match s with
    | .nils => if xs.isEmpty then some ⟨.nils, h, r, []⟩
      else if xs.length * bytes ≤ 140737488355328 then some ⟨.os h.length 0 sz 0 xs.length false, newRow h sz xs, r, []⟩ else none
    | .rs _ _ => if xs.isEmpty then some ⟨s, h, r, []⟩ else none
    | .os b v sz' i n clip => if xs.isEmpty then some ⟨s, h, r, []⟩ else
      match rowAt h b v with
      | some y => if sz' = sz ∧ y.sz = sz ∧ i + n ≤ y.els.length ∧ (n + xs.length) * bytes ≤ 140737488355328 then
          if clip then
            some ⟨.os h.length 0 sz 0 (n + xs.length) false, newRow h sz ((y.els.drop i).take n ++ xs), b :: r, []⟩
          else if v = y.cur then
            some ⟨.os b (y.cur + 1) sz i (n + xs.length) false,
              h.set b (.row ⟨sz, y.els.take (i + n) ++ xs, y.cur + 1, if i + n = y.els.length then y.rd else y.cur + 1⟩), r, [b]⟩
          else none
        else none
      | none => none
    | _ => none
  | none => none

def asNat (n : Int) : Option Nat := if 0 ≤ n then some n.toNat else none

section
variable (G : Nat → Option V)

def ev (t : List V) : Opd → Option V
  | .t i => t[i]?
  | .c v => some v
  | .g n => G n
def evs (t : List V) : List Opd → Option (List V)
  | [] => some []
  | x :: xs => match ev G t x, evs t xs with
    | some v, some vs => some (v :: vs)
    | _, _ => none
def evP (t : List V) : List (Nat × Nat × Opd) → Option (List (Nat × Nat × V))
  | [] => some []
  | (a, b, x) :: xs => match ev G t x, evP t xs with
    | some v, some vs => some ((a, b, v) :: vs)
    | _, _ => none

def boundOf (t : List V) (d : Nat) : Option Opd → Option Nat
  | none => some d
  | some x => match ev G t x with
    | some (.int _ n) => asNat n
    | _ => none

def cutV (t : List V) (sz : Nat) (x : V) (lo hi mx : Option Opd) : Option V :=
  match x with
  | .nils => match boundOf G t 0 lo, boundOf G t 0 hi, boundOf G t 0 mx with
    | some 0, some 0, some 0 => some .nils
    | _, _, _ => none
  | .rs sz' els => match boundOf G t 0 lo, boundOf G t els.length hi, mx with
    | some l, some h, none => if l ≤ h ∧ h ≤ els.length ∧ sz' = sz then some (.rs sz ((els.take h).drop l)) else none
    | _, _, _ => none
  | .os b v sz' i n clip => match boundOf G t 0 lo, boundOf G t n hi with
    | some l, some h => if l ≤ h ∧ h ≤ n ∧ sz' = sz then
        match mx with
        | none => some (.os b v sz (i + l) (h - l) (clip && h == n))
        | some m => match boundOf G t 0 (some m) with
          | some m' => if m' = h then some (.os b v sz (i + l) (h - l) true) else none
          | none => none
      else none
    | _, _ => none
  | _ => none

def one (v : Option V) (h : H) : Option Res := match v with | some v => some ⟨v, h, [], []⟩ | none => none

def op_mv (t : List V) (x : Opd) (h : H) : Option Res :=
  one (ev G t x) h
def op_pick (t : List V) (c : Opd) (a : Opd) (b : Opd) (h : H) : Option Res :=
  match ev G t c with
  | some (.bool true) => one (ev G t a) h
  | some (.bool false) => one (ev G t b) h
  | _ => none
def op_alloc (t : List V) (cells : List V) (h : H) : Option Res :=
  some ⟨.ptr h.length 0 0 0, newRow h cells.length [cells], [], []⟩
def op_box (t : List V) (n : Nat) (x : Opd) (h : H) : Option Res :=
  match ev G t x with
  | some x => if x.cells.length = n ∧ x.lies = true then some ⟨.ptr h.length 0 0 0, newRow h n [x.cells], [], []⟩ else none
  | _ => none
def op_build (t : List V) (zero : List V) (parts : List (Nat × Nat × Opd)) (h : H) : Option Res :=
  match evP G t parts with
  | some ps => match fillV zero ps with
    | some cs => some ⟨.agg cs, h, [], []⟩
    | none => none
  | none => none
def op_bslice (t : List V) (sz : Nat) (len : Nat) (zero : List V) (parts : List (Nat × Nat × Opd)) (h : H) : Option Res :=
  match evP G t parts with
  | some ps => match fillV (List.replicate len zero).flatten ps with
    | some cs => some ⟨.os h.length 0 sz 0 len true, newRow h sz (chunks sz len cs), [], []⟩
    | none => none
  | none => none
def op_load (t : List V) (agg : Option Nat) (a : Opd) (h : H) : Option Res :=
  match ev G t a with
  | some a => match deref h a with
    | some (cells, r) => match loadC agg cells with
      | some v => some ⟨v, h, r, []⟩
      | none => none
    | none => none
  | none => none
def op_store (t : List V) (n : Nat) (a : Opd) (x : Opd) (h : H) : Option Res :=
  match ev G t a, ev G t x with
  | some a, some x => storeV n h a x
  | _, _ => none
def op_nilc (t : List V) (x : Opd) (h : H) : Option Res :=
  match ev G t x with
  | some (.ptr b v i o) => some ⟨.ptr b v i o, h, [], []⟩
  | some (.rp c) => some ⟨.rp c, h, [], []⟩
  | some (.fn f c) => some ⟨.fn f c, h, [], []⟩
  | _ => none
def op_bin (t : List V) (op : BinOp) (cmp : Cmp) (x : Opd) (y : Opd) (h : H) : Option Res :=
  match ev G t x, ev G t y with
  | some x, some y => one (binV op cmp x y) h
  | _, _ => none
def op_un (t : List V) (op : UnOp) (x : Opd) (h : H) : Option Res :=
  match ev G t x with
  | some x => one (unV op x) h
  | none => none
def op_convI (t : List V) (k : IntKind) (x : Opd) (h : H) : Option Res :=
  match ev G t x with
  | some (.int _ n) => forceI (wrapF k n) fun n => some ⟨.int k n, h, [], []⟩
  | _ => none
def op_s2b (t : List V) (x : Opd) (h : H) : Option Res :=
  match ev G t x with
  | some (.str s) => if s.length ≤ 140737488355328 then some ⟨.os h.length 0 1 0 s.length false, newRow h 1 (s.map fun c => [V.int .u8 c.toNat]), [], []⟩ else none
  | _ => none
def op_b2s (t : List V) (x : Opd) (h : H) : Option Res :=
  match ev G t x with
  | some x => match (match x with | .nils => some (1, [], []) | x => elems h x) with
    | some (1, els, r) => match mapM? (fun c => match c with | [V.int .u8 n] => some (UInt8.ofNat n.toNat) | _ => none) els with
      | some bs => some ⟨.str bs, h, r, []⟩
      | none => none
    | _ => none
  | none => none
def op_mkfn (t : List V) (f : FuncId) (cap : List Opd) (h : H) : Option Res :=
  match evs G t cap with
  | some cs => some ⟨.fn f cs, h, [], []⟩
  | none => none
def op_mkslice (t : List V) (sz : Nat) (bytes : Nat) (zero : List V) (l : Opd) (c : Opd) (h : H) : Option Res :=
  match ev G t l, ev G t c with
  | some (.int .i64 l), some (.int .i64 c) => if l < 0 ∨ c < l ∨ bytes * c > 140737488355328 then none
      else some ⟨.os h.length 0 sz 0 l.toNat false, newRow h sz (List.replicate c.toNat zero), [], []⟩
  | _, _ => none
def op_cut (t : List V) (sz : Nat) (x : Opd) (lo : Option Opd) (hi : Option Opd) (mx : Option Opd) (h : H) : Option Res :=
  match ev G t x with
  | some x => one (cutV G t sz x lo hi mx) h
  | none => none
def op_cutS (t : List V) (x : Opd) (lo : Option Opd) (hi : Option Opd) (h : H) : Option Res :=
  match ev G t x with
  | some (.str s) => match boundOf G t 0 lo, boundOf G t s.length hi with
    | some l, some r => if l ≤ r ∧ r ≤ s.length then some ⟨.str ((s.take r).drop l), h, [], []⟩ else none
    | _, _ => none
  | _ => none
def op_faddr (t : List V) (off : Nat) (x : Opd) (h : H) : Option Res :=
  match ev G t x with
  | some (.ptr b v i o) => some ⟨.ptr b v i (o + off), h, [], []⟩
  | some (.rp cells) => some ⟨.rp (cells.drop off), h, [], []⟩
  | _ => none
def op_field (t : List V) (agg : Option Nat) (off : Nat) (x : Opd) (h : H) : Option Res :=
  match ev G t x with
  | some (.agg cs) => one (loadC agg (cs.drop off)) h
  | _ => none
def op_iaddr (t : List V) (s : Nat) (x : Opd) (ix : Opd) (h : H) : Option Res :=
  match ev G t x, ev G t ix with
  | some (.rs sz els), some (.int _ n) => if 0 ≤ n ∧ sz = s then
      match els[n.toNat]? with
      | some el => some ⟨.rp el, h, [], []⟩
      | none => none
    else none
  | some (.os b v sz i m _), some (.int _ n) => if 0 ≤ n ∧ n < m ∧ sz = s then some ⟨.ptr b v (i + n.toNat) 0, h, [], []⟩ else none
  | _, _ => none
def op_iaddrA (t : List V) (len : Nat) (s : Nat) (x : Opd) (ix : Opd) (h : H) : Option Res :=
  match ev G t x, ev G t ix with
  | some (.rp cells), some (.int _ n) => if 0 ≤ n ∧ n < len then some ⟨.rp (cells.drop (n.toNat * s)), h, [], []⟩ else none
  | some (.ptr b v i o), some (.int _ n) => if 0 ≤ n ∧ n < len then some ⟨.ptr b v i (o + n.toNat * s), h, [], []⟩ else none
  | _, _ => none
def op_index (t : List V) (x : Opd) (ix : Opd) (h : H) : Option Res :=
  match ev G t x, ev G t ix with
  | some (.str s), some (.int _ n) => if 0 ≤ n then match s[n.toNat]? with
      | some b => some ⟨.int .u8 b.toNat, h, [], []⟩
      | none => none
    else none
  | _, _ => none
/-- the first place of a byte from one on -/
def idxFrom (n : Nat) : List UInt8 → Nat → Int
  | [], _ => -1
  | b :: l, i => bif Nat.beq b.toNat n then (i : Int) else idxFrom n l (i + 1)
def op_idxB (t : List V) (x : Opd) (ix : Opd) (h : H) : Option Res :=
  match ev G t x, ev G t ix with
  | some (.str s), some (.int .u8 n) => some ⟨.int .i64 (idxFrom n.toNat.toUInt8.toNat s 0), h, [], []⟩
  | _, _ => none
def op_idxA (t : List V) (len : Nat) (agg : Option Nat) (s : Nat) (x : Opd) (ix : Opd) (h : H) : Option Res :=
  match ev G t x, ev G t ix with
  | some (.agg cs), some (.int _ n) => if 0 ≤ n ∧ n < len then one (loadC agg (cs.drop (n.toNat * s))) h else none
  | _, _ => none
/-- how often a byte stands there -/
def cntOf (n : Nat) : List UInt8 → Nat → Nat
  | [], k => k
  | b :: l, k => cntOf n l (bif Nat.beq b.toNat n then k + 1 else k)
def op_cntB (t : List V) (x : Opd) (ix : Opd) (h : H) : Option Res :=
  match ev G t x, ev G t ix with
  | some (.str s), some (.int .u8 n) => some ⟨.int .i64 (cntOf n.toNat.toUInt8.toNat s 0), h, [], []⟩
  | _, _ => none
def toV (p : IntKind × Int) : V := .int p.1 p.2
def keyOfV (ks : List FK) : V → Option (List (IntKind × Int))
  | .agg cs => bif Nat.beq cs.length ks.length then mapM? (fun c => match c with | V.int k n => some (k, n) | _ => none) cs else none
  | _ => none
def lookE (ks : List FK) (key : List (IntKind × Int)) : Ents → Option (Option (IntKind × Int))
  | [] => some none
  | e :: es => match eqCs ks (key.map toV) (e.1.map toV) with
    | some true => some (some e.2)
    | some false => lookE ks key es
    | none => none
def mapAt (h : H) (b : Nat) : Option Ents := match h[b]? with
  | some (.mp es) => some es
  | _ => none
def lookR (zk : IntKind) (z : Int) (ok : Bool) (r : Option (IntKind × Int)) : V := match r with
  | some p => bif ok then .tup [.int p.1 p.2, .bool true] else .int p.1 p.2
  | none => bif ok then .tup [.int zk z, .bool false] else .int zk z
def op_mkmap (t : List V) (h : H) : Option Res := some ⟨.mp h.length, h ++ [.mp []], [], []⟩
def op_look (t : List V) (ks : List FK) (zk : IntKind) (z : Int) (ok : Bool) (m k : Opd) (h : H) : Option Res :=
  match ev G t m, ev G t k with
  | some (.mp b), some kv => match keyOfV ks kv, mapAt h b with
    | some key, some es => match lookE ks key es with
      | some r => some ⟨lookR zk z ok r, h, [b], []⟩
      | none => none
    | _, _ => none
  | _, _ => none
def op_mput (t : List V) (ks : List FK) (m k x : Opd) (h : H) : Option Res :=
  match ev G t m, ev G t k, ev G t x with
  | some (.mp b), some kv, some (.int xk n) => match keyOfV ks kv, mapAt h b with
    | some key, some es => match lookE ks key es with
      | some none => some ⟨.undef, h.set b (.mp (es ++ [(key, (xk, n))])), [], [b]⟩
      | _ => none
    | _, _ => none
  | _, _, _ => none
def op_extract (t : List V) (x : Opd) (i : Nat) (h : H) : Option Res :=
  match ev G t x with
  | some (.tup vs) => one vs[i]? h
  | _ => none
def op_lenS (t : List V) (x : Opd) (h : H) : Option Res :=
  match ev G t x with
  | some (.str s) => some ⟨.int .i64 s.length, h, [], []⟩
  | _ => none
def op_len (t : List V) (x : Opd) (h : H) : Option Res :=
  match ev G t x with
  | some .nils => some ⟨.int .i64 0, h, [], []⟩
  | some (.rs _ els) => some ⟨.int .i64 els.length, h, [], []⟩
  | some (.os _ _ _ _ n _) => some ⟨.int .i64 n, h, [], []⟩
  | _ => none
def op_append (t : List V) (sz : Nat) (bytes : Nat) (s : Opd) (x : Opd) (h : H) : Option Res :=
  match ev G t s, ev G t x with
  | some s, some x => appendV sz bytes h s x
  | _, _ => none
def op_minmax (t : List V) (mx : Bool) (xs : List Opd) (h : H) : Option Res :=
  match evs G t xs with
  | some (.int .i64 x :: rest) => match minV mx x rest with
    | some n => some ⟨.int .i64 n, h, [], []⟩
    | none => none
  | _ => none
def op_call (C : FuncId → List V → H → Option Res) (t : List V) (f : Opd) (args : List Opd) (h : H) : Option Res :=
  match ev G t f, evs G t args with
  | some (.fn f cap), some as => C f (as ++ cap) h
  | _, _ => none

def opV (C : FuncId → List V → H → Option Res) (t : List V) (o : MOp) (h : H) : Option Res :=
  match o with
  | .mv x => op_mv G t x h
  | .pick c a b => op_pick G t c a b h
  | .alloc cells => op_alloc t cells h
  | .box n x => op_box G t n x h
  | .build zero parts => op_build G t zero parts h
  | .bslice sz len zero parts => op_bslice G t sz len zero parts h
  | .load agg a => op_load G t agg a h
  | .store n a x => op_store G t n a x h
  | .nilc x => op_nilc G t x h
  | .bin op cmp x y => op_bin G t op cmp x y h
  | .un op x => op_un G t op x h
  | .convI k x => op_convI G t k x h
  | .s2b x => op_s2b G t x h
  | .b2s x => op_b2s G t x h
  | .mkfn f cap => op_mkfn G t f cap h
  | .mkslice sz bytes zero l c => op_mkslice G t sz bytes zero l c h
  | .cut sz x lo hi mx => op_cut G t sz x lo hi mx h
  | .cutS x lo hi => op_cutS G t x lo hi h
  | .faddr off x => op_faddr G t off x h
  | .field agg off x => op_field G t agg off x h
  | .iaddr s x ix => op_iaddr G t s x ix h
  | .iaddrA len s x ix => op_iaddrA G t len s x ix h
  | .index x ix => op_index G t x ix h
  | .idxB x ix => op_idxB G t x ix h
  | .cntB x ix => op_cntB G t x ix h
  | .mkmap => op_mkmap t h
  | .look ks zk z ok m k => op_look G t ks zk z ok m k h
  | .mput ks m k x => op_mput G t ks m k x h
  | .idxA len agg s x ix => op_idxA G t len agg s x ix h
  | .extract x i => op_extract G t x i h
  | .len x => op_len G t x h
  | .lenS x => op_lenS G t x h
  | .append sz bytes s x => op_append G t sz bytes s x h
  | .minmax mx xs => op_minmax G t mx xs h
  | .call f args => op_call G C t f args h

/-- is an operation carried out? -/
def wantedV (t : List V) : Option (Nat × Bool) → Bool
  | none => true
  | some (d, want) => match t[d]? with
    | some (.bool b) => b == want
    | _ => false

def putV (t : List V) (d : Option Nat) (v : V) : List V := match d with | some d => t.set d v | none => t

def regPut (n0 : Nat) (s : St) (d : Option Nat) (x : Res) : St := ⟨putV s.t d x.v, x.h, uni n0 x.r s.r, uni n0 x.w s.w⟩
def regStep (k : St → Option St) (n0 : Nat) (s : St) (d : Option Nat) : Option Res → Option St
  | some x => k (regPut n0 s d x)
  | none => none
def regV (C : FuncId → List V → H → Option Res) (n0 : Nat) : List MOper → St → Option St
  | [], s => some s
  | o :: rest, s => bif wantedV s.t o.guard then regStep (regV C n0 rest) n0 s o.dst (opV G C s.t o.op s.h)
    else regV C n0 rest ⟨putV s.t o.dst .undef, s.h, s.r, s.w⟩

def clash (r w r' w' : List Nat) : Bool := meets w r' || meets w w' || meets r w'
/-- an operation with footprint r, w, that comes behind those of the mask, beside the earlier ones -/
def freeAt (mask : Nat) (r w : List Nat) : List (Nat × List Nat × List Nat) → Bool
  | [] => true
  | (i, r', w') :: rest => (!clash r w r' w' || mask.testBit i) && freeAt mask r w rest
def note (j : Nat) (r w : List Nat) (fs : List (Nat × List Nat × List Nat)) : List (Nat × List Nat × List Nat) :=
  if r.isEmpty && w.isEmpty then fs else (j, r, w) :: fs

/-- the blocks that are written, and the new ones -/
def allW (h : H) (x : Res) : List Nat := x.w ++ List.range' h.length (x.h.length - h.length)
def drawStep (k : List (Nat × List Nat × List Nat) → St → Option St) (n0 j m : Nat) (fs : List (Nat × List Nat × List Nat)) (s : St) (d : Option Nat) : Option Res → Option St
  | some x => bif freeAt m x.r (allW s.h x) fs then k (note j x.r (allW s.h x) fs) (regPut n0 s d x) else none
  | none => none
def drawV (C : FuncId → List V → H → Option Res) (n0 : Nat) : List MOper → Nat → List Nat → List (Nat × List Nat × List Nat) → St → Option St
  | [], _, _, _, s => some s
  | o :: rest, j, masks, fs, s => match masks with
    | [] => none
    | m :: masks => bif wantedV s.t o.guard then drawStep (drawV C n0 rest (j + 1) masks) n0 j m fs s o.dst (opV G C s.t o.op s.h)
      else drawV C n0 rest (j + 1) masks fs ⟨putV s.t o.dst .undef, s.h, s.r, s.w⟩

inductive Ex | normal | exit (id : Nat) | ret
  deriving DecidableEq, Inhabited

def exSeq (ex : MCode → St → Option (Ex × St)) (b : MCode) : Option (Ex × St) → Option (Ex × St)
  | some (.normal, s') => ex b s'
  | r => r
def exCond (ex : MCode → St → Option (Ex × St)) (a b : MCode) (s : St) : Option V → Option (Ex × St)
  | some (.bool true) => ex a s
  | some (.bool false) => ex b s
  | _ => none
def exBlock (id : Nat) : Option (Ex × St) → Option (Ex × St)
  | some (.exit id', s') => if id' = id then some (.normal, s') else some (.exit id', s')
  | r => r
def exReg : Option St → Option (Ex × St)
  | some s' => some (.normal, s')
  | none => none
def exStep (C : FuncId → List V → H → Option Res) (n0 : Nat) (ex : MCode → St → Option (Ex × St)) (c : MCode) (s : St) : Option (Ex × St) :=
  match c with
  | .skip => some (.normal, s)
  | .ret => some (.ret, s)
  | .exit id => some (.exit id, s)
  | .seq a b => exSeq ex b (ex a s)
  | .cond c a b => exCond ex a b s (ev G s.t c)
  | .block id c => exBlock id (ex c s)
  | .loop c => exSeq ex (.loop c) (ex c s)
  | .reg ops => exReg (regV G C n0 ops s)
  | .draw ops masks => exReg (drawV G C n0 ops 0 masks [] s)
def exec (C : FuncId → List V → H → Option Res) (n0 : Nat) : Nat → MCode → St → Option (Ex × St)
  | 0 => fun _ _ => none
  | n + 1 => exStep G C n0 (exec C n0 n)
end

/-- a value that lives on behind a call: what lies in blocks from n0 on is laid into it -/
def fz (n0 : Nat) (h : H) : Nat → Bool → V → Option V
  | 0, _, _ => none
  | k + 1, inn, v => match v with
    | .os b vv sz i n clip => if b < n0 then (if inn then none else some (.os b vv sz i n clip)) else
      match rowAt h b vv with
      | some x => if x.sz = sz ∧ i + n ≤ x.els.length then
          match mapM? (mapM? (fz n0 h k true)) ((x.els.drop i).take n) with
          | some els => some (.rs sz els)
          | none => none
        else none
      | none => none
    | .ptr b vv i o => if b < n0 then (if inn then none else some (.ptr b vv i o)) else
      match rowAt h b vv with
      | some x => match x.els[i]? with
        | some el => match mapM? (fz n0 h k true) (el.drop o) with
          | some cs => some (.rp cs)
          | none => none
        | none => none
      | none => none
    | .mp b => if b < n0 ∧ !inn then some (.mp b) else none
    | .fn f cap => match mapM? (fz n0 h k inn) cap with
      | some cs => some (.fn f cs)
      | none => none
    | .agg cs => match mapM? (fz n0 h k inn) cs with
      | some cs => some (.agg cs)
      | none => none
    | .tup vs => match mapM? (fz n0 h k inn) vs with
      | some cs => some (.tup cs)
      | none => none
    | v => some v

def fzBlk (n0 : Nat) (h : H) : List Nat → H → Option H
  | [], h' => some h'
  | b :: bs, h' => match h[b]? with
    | some (.row x) => match mapM? (mapM? (fz n0 h 100 false)) x.els with
      | some els => fzBlk n0 h bs (h'.set b (.row { x with els }))
      | none => none
    | _ => none

def resV (h : H) (t : List V) : List MRes → Option (List V × List Nat)
  | [] => some ([], [])
  | .tmp i :: rest => match t[i]?, resV h t rest with
    | some v, some (vs, r) => some (v :: vs, r)
    | _, _ => none
  | .cell a agg :: rest => match t[a]?, resV h t rest with
    | some a, some (vs, r) => match deref h a with
      | some (cells, r1) => match loadC agg cells with
        | some v => some (v :: vs, r1 ++ r)
        | none => none
      | none => none
    | _, _ => none

def tupV : List V → V
  | [v] => v
  | vs => .tup vs

/-- a value handed to a call that only reads: what it leads to is laid into it; which blocks are read -/
def lend (h : H) : Nat → V → Option (V × List Nat)
  | 0, _ => none
  | k + 1, v => match v with
    | .os b vv sz i n _ => match rowAt h b vv with
      | some x => if x.sz = sz ∧ i + n ≤ x.els.length then
          match mapM? (mapM? (lend h k)) ((x.els.drop i).take n) with
          | some els => some (.rs sz (els.map (·.map (·.1))), b :: els.flatMap (·.flatMap (·.2)))
          | none => none
        else none
      | none => none
    | .ptr b vv i o => match rowAt h b vv with
      | some x => match x.els[i]? with
        | some el => match mapM? (lend h k) (el.drop o) with
          | some cs => some (.rp (cs.map (·.1)), b :: cs.flatMap (·.2))
          | none => none
        | none => none
      | none => none
    | .mp _ => none
    | .fn f cap => match mapM? (lend h k) cap with
      | some cs => some (.fn f (cs.map (·.1)), cs.flatMap (·.2))
      | none => none
    | .agg cs => match mapM? (lend h k) cs with
      | some cs => some (.agg (cs.map (·.1)), cs.flatMap (·.2))
      | none => none
    | .tup cs => match mapM? (lend h k) cs with
      | some cs => some (.tup (cs.map (·.1)), cs.flatMap (·.2))
      | none => none
    | v => some (v, [])

/-- leads it nowhere? -/
def V.plain1 : V → Bool
  | .bool _ | .int _ _ | .str _ | .undef | .nilp | .nils | .nilm | .nilf => true
  | _ => false
def V.plain : V → Bool
  | .agg cs => cs.all V.plain1
  | .tup vs => vs.all fun v => match v with | .agg cs => cs.all V.plain1 | v => v.plain1
  | v => v.plain1

/-- how a call is told: what is made lives on as values; as its caller's to write; or the call only reads, and is told without the heap -/
inductive Mode | frozen | keep | pure
  deriving DecidableEq, Inhabited

/-- the functions of a program, translated; each one's mode; what is known of calls that only read -/
structure Env where
  fn : FuncId → Option MFunc
  mode : FuncId → Mode
  memo : FuncId → List V → Option V
  G : Nat → Option V

def callOut (n0 : Nat) (keep : Bool) (v : V) (r1 : List Nat) (s : St) : Option Res :=
  bif keep then some ⟨v, s.h, uni n0 r1 s.r, s.w⟩ else
  match fz n0 s.h 100 false v, fzBlk n0 s.h s.w (s.h.take n0) with
  | some v, some h' => some ⟨v, h', uni n0 r1 s.r, s.w⟩
  | _, _ => none
def callRes (n0 : Nat) (keep : Bool) (res : List MRes) (s : St) : Option Res :=
  match resV s.h s.t res with
  | some (vs, r1) => callOut n0 keep (tupV vs) r1 s
  | none => none
def callEnd (n0 : Nat) (keep : Bool) (res : List MRes) : Option (Ex × St) → Option Res
  | some (.normal, s) => callRes n0 keep res s
  | some (.ret, s) => callRes n0 keep res s
  | _ => none
def callBody (E : Env) (C : FuncId → List V → H → Option Res) (n : Nat) (keep : Bool) (args : List V) (h : H) : Option MFunc → Option Res
  | some fn => callEnd h.length keep fn.res (exec E.G C h.length n fn.body ⟨args ++ List.replicate (fn.ntmps - args.length) .undef, h, [], []⟩)
  | none => none
/-- the answer of a call that only reads -/
def pureBody (E : Env) (C : FuncId → List V → H → Option Res) (n : Nat) (f : FuncId) (args : List V) : Option V :=
  match E.memo f args with
  | some v => some v
  | none => match callBody E C n false args [] (E.fn f) with
    | some x => some x.v
    | none => none
def callPure (p : List V → Option V) (h : H) : Option (List (V × List Nat)) → Option Res
  | some as => match p (as.map (·.1)) with
    | some v => bif (as.flatMap (·.2)).isEmpty || v.plain then some ⟨v, h, as.flatMap (·.2), []⟩ else none
    | none => none
  | none => none
def callStep (E : Env) (C : FuncId → List V → H → Option Res) (n : Nat) (f : FuncId) (args : List V) (h : H) : Mode → Option Res
  | .frozen => callBody E C n false args h (E.fn f)
  | .keep => callBody E C n true args h (E.fn f)
  | .pure => callPure (pureBody E C n f) h (mapM? (lend h 100) args)
def call (E : Env) : Nat → FuncId → List V → H → Option Res
  | 0 => fun _ _ _ => none
  | n + 1 => fun f args h => callStep E (call E n) n f args h (E.mode f)
end Go.Mini

namespace Go.Mini
set_option linter.unusedVariables false

/-- Where a version of a row lies: its block, where element lo begins, how many elements are known, how many cells each has. -/
structure Loc where
  cb : Nat
  coff : Nat
  lo : Nat
  len : Nat
  sz : Nat
abbrev Phi := Nat → Nat → Option Loc
def noPhi : Phi := fun _ _ => none
def Loc.at (l : Loc) (i o : Nat) : Addr := ⟨l.cb, l.coff + (i - l.lo) * l.sz + o, none⟩

/-- A value of the small machine and the model's. forb: blocks into which immutable values may not lead. -/
inductive VR (forb : Nat → Prop) (w : World) : Phi → V → Value → Prop
  | bool {φ b} : VR forb w φ (.bool b) (.bool b)
  | int {φ k n} : VR forb w φ (.int k n) (.int k n)
  | str {φ s} : VR forb w φ (.str s) (.string ⟨s.toArray⟩)
  | undef {φ} : VR forb w φ .undef (.tuple #[])
  | nilp {φ} : VR forb w φ .nilp (.pointer none)
  | nils {φ} : VR forb w φ .nils (.slice none 0 0)
  | nilm {φ} : VR forb w φ .nilm .nilIface
  | nilf {φ} : VR forb w φ .nilf .nilFunc
  | nilmap {φ} : VR forb w φ .nilmap (.map none)
  | mp {φ b l} (hφ : φ b 0 = some l) : VR forb w φ (.mp b) (.map (some l.cb))
  | ptr {φ b v i o l} (hφ : φ b v = some l) (h0 : l.lo ≤ i) (h1 : i < l.len) : VR forb w φ (.ptr b v i o) (.pointer (some (l.at i o)))
  | os {φ b v sz i n clip l a cap} (hφ : φ b v = some l) (hsz : l.sz = sz) (h0 : l.lo ≤ i) (h1 : i + n ≤ l.len) (hn : n ≤ cap) (hm : cap ≤ 9223372036854775807) (hc : clip = true → cap = n)
      (ha : cap ≠ 0 → a = l.at i 0 ∧ ∃ cells t fr, w.heap[l.cb]? = some (.cells cells t fr) ∧ l.coff + (i - l.lo + cap) * sz ≤ cells.size) :
      VR forb w φ (.os b v sz i n clip) (.slice (some a) n cap)
  | rs {φ : Phi} {sz : Nat} {els : List (List V)} {a : Addr} {cap : Nat} (hl : ∀ el ∈ els, el.length = sz) (hc : els.length ≤ cap) (hm : cap ≤ 9223372036854775807)
      (hs : ∀ (i : Nat) el (o : Nat) x, els[i]? = some el → el[o]? = some x → ¬ forb a.block ∧ x.isCell = true ∧ ∃ c, w.cell? (a.add (i * sz + o)) = some c)
      (hv : ∀ (i : Nat) el (o : Nat) x c, els[i]? = some el → el[o]? = some x → w.cell? (a.add (i * sz + o)) = some c → VR forb w noPhi x c) :
      VR forb w φ (.rs sz els) (.slice (some a) els.length cap)
  | rp {φ : Phi} {cells : List V} {a : Addr}
      (hs : ∀ (o : Nat) x, cells[o]? = some x → ¬ forb a.block ∧ x.isCell = true ∧ ∃ c, w.cell? (a.add o) = some c)
      (hv : ∀ (o : Nat) x c, cells[o]? = some x → w.cell? (a.add o) = some c → VR forb w noPhi x c) : VR forb w φ (.rp cells) (.pointer (some a))
  | fn {φ : Phi} {f : FuncId} {cap : List V} {caps : List Value} (hl : caps.length = cap.length) (hv : ∀ (i : Nat) x c, cap[i]? = some x → caps[i]? = some c → VR forb w φ x c) : VR forb w φ (.fn f cap) (.func (.func f) #[] ⟨caps⟩)
  | agg {φ : Phi} {cs : List V} {vs : List Value} (hl : vs.length = cs.length) (hc : ∀ x ∈ cs, x.isCell = true) (hv : ∀ (i : Nat) x c, cs[i]? = some x → vs[i]? = some c → VR forb w φ x c) : VR forb w φ (.agg cs) (.agg ⟨vs⟩)
  | tup {φ : Phi} {cs : List V} {vs : List Value} (hl : vs.length = cs.length) (hv : ∀ (i : Nat) x c, cs[i]? = some x → vs[i]? = some c → VR forb w φ x c) : VR forb w φ (.tup cs) (.tuple ⟨vs⟩)

theorem VR.os_inv {forb : Nat → Prop} {w : World} {φ : Phi} {b v sz i n : Nat} {clip : Bool} {c : Value} (h : VR forb w φ (.os b v sz i n clip) c) :
    ∃ l a cap, c = .slice (some a) n cap ∧ φ b v = some l ∧ l.sz = sz ∧ l.lo ≤ i ∧ i + n ≤ l.len ∧ n ≤ cap ∧ cap ≤ 9223372036854775807 ∧ (clip = true → cap = n) ∧
      (cap ≠ 0 → a = l.at i 0 ∧ ∃ cells t fr, w.heap[l.cb]? = some (.cells cells t fr) ∧ l.coff + (i - l.lo + cap) * sz ≤ cells.size) := by
  cases h with
  | os hφ hsz h0 h1 hn hm hc ha => exact ⟨_, _, _, rfl, hφ, hsz, h0, h1, hn, hm, hc, ha⟩
theorem VR.rs_inv {forb : Nat → Prop} {w : World} {φ : Phi} {sz : Nat} {els : List (List V)} {c : Value} (h : VR forb w φ (.rs sz els) c) :
    ∃ a cap, c = .slice (some a) els.length cap ∧ (∀ el ∈ els, el.length = sz) ∧ els.length ≤ cap ∧ cap ≤ 9223372036854775807 ∧
      (∀ (i : Nat) el (o : Nat) x, els[i]? = some el → el[o]? = some x → ¬ forb a.block ∧ x.isCell = true ∧ ∃ c, w.cell? (a.add (i * sz + o)) = some c) ∧
      (∀ (i : Nat) el (o : Nat) x c, els[i]? = some el → el[o]? = some x → w.cell? (a.add (i * sz + o)) = some c → VR forb w noPhi x c) := by
  cases h with
  | rs hl hc hm hs hv => exact ⟨_, _, rfl, hl, hc, hm, hs, hv⟩
theorem VR.rp_inv {forb : Nat → Prop} {w : World} {φ : Phi} {cells : List V} {c : Value} (h : VR forb w φ (.rp cells) c) :
    ∃ a, c = .pointer (some a) ∧ (∀ (o : Nat) x, cells[o]? = some x → ¬ forb a.block ∧ x.isCell = true ∧ ∃ c, w.cell? (a.add o) = some c) ∧
      (∀ (o : Nat) x c, cells[o]? = some x → w.cell? (a.add o) = some c → VR forb w noPhi x c) := by
  cases h with
  | rp hs hv => exact ⟨_, rfl, hs, hv⟩
theorem VR.ptr_inv {forb : Nat → Prop} {w : World} {φ : Phi} {b v i o : Nat} {c : Value} (h : VR forb w φ (.ptr b v i o) c) :
    ∃ l, c = .pointer (some (l.at i o)) ∧ φ b v = some l ∧ l.lo ≤ i ∧ i < l.len := by
  cases h with
  | ptr hφ h0 h1 => exact ⟨_, rfl, hφ, h0, h1⟩
theorem VR.mp_inv {forb : Nat → Prop} {w : World} {φ : Phi} {b : Nat} {c : Value} (h : VR forb w φ (.mp b) c) : ∃ l, c = .map (some l.cb) ∧ φ b 0 = some l := by
  cases h with
  | mp hφ => exact ⟨_, rfl, hφ⟩
theorem VR.agg_inv {forb : Nat → Prop} {w : World} {φ : Phi} {cs : List V} {c : Value} (h : VR forb w φ (.agg cs) c) :
    ∃ vs : List Value, c = .agg ⟨vs⟩ ∧ vs.length = cs.length ∧ (∀ x ∈ cs, x.isCell = true) ∧ ∀ (i : Nat) x c, cs[i]? = some x → vs[i]? = some c → VR forb w φ x c := by
  cases h with
  | agg hl hc hv => exact ⟨_, rfl, hl, hc, hv⟩
theorem VR.fn_inv {forb : Nat → Prop} {w : World} {φ : Phi} {f : FuncId} {cap : List V} {c : Value} (h : VR forb w φ (.fn f cap) c) :
    ∃ caps : List Value, c = .func (.func f) #[] ⟨caps⟩ ∧ caps.length = cap.length ∧ ∀ (i : Nat) x c, cap[i]? = some x → caps[i]? = some c → VR forb w φ x c := by
  cases h with
  | fn hl hv => exact ⟨_, rfl, hl, hv⟩

/-- What a step leaves of the world. -/
structure Ext (forb forb' : Nat → Prop) (w w' : World) : Prop where
  fb : ∀ cb, forb' cb → forb cb ∨ w.heap.size ≤ cb
  keep : ∀ cb, cb < w.heap.size → ¬ forb cb → w'.heap[cb]? = w.heap[cb]?
  shape : ∀ (cb : Nat) (cells : Array Value) (t : TypeId) (fr : Nat × Nat), w.heap[cb]? = some (.cells cells t fr) → ∃ cells' : Array Value, w'.heap[cb]? = some (.cells cells' t fr) ∧ cells'.size = cells.size
  size : w.heap.size ≤ w'.heap.size
  os : w'.os = w.os
  tape : w'.tape = w.tape
  output : w'.output = w.output

theorem Ext.refl (forb : Nat → Prop) (w : World) : Ext forb forb w w :=
  ⟨fun _ h => .inl h, fun _ _ _ => rfl, fun _ cells _ _ h => ⟨cells, h, rfl⟩, Nat.le_refl _, rfl, rfl, rfl⟩

theorem Ext.trans {f f' f'' : Nat → Prop} {w w' w'' : World} (h : Ext f f' w w') (k : Ext f' f'' w' w'') : Ext f f'' w w'' := by
  refine ⟨fun cb hc => ?_, fun cb hlt hf => ?_, fun cb cells t fr hc => ?_, Nat.le_trans h.size k.size, k.os.trans h.os, k.tape.trans h.tape, k.output.trans h.output⟩
  · rcases k.fb cb hc with h1 | h1
    · exact h.fb cb h1
    · exact .inr (Nat.le_trans h.size h1)
  · have h1 := h.keep cb hlt hf
    rw [k.keep cb (Nat.lt_of_lt_of_le hlt h.size) ?_, h1]
    intro hf'
    rcases h.fb cb hf' with h2 | h2
    · exact hf h2
    · omega
  · obtain ⟨c1, h1, h2⟩ := h.shape cb cells t fr hc
    obtain ⟨c2, h3, h4⟩ := k.shape cb c1 t fr h1
    exact ⟨c2, h3, h4.trans h2⟩

theorem cell_lt {w : World} {a : Addr} {c : Value} (h : w.cell? a = some c) : a.block < w.heap.size := by
  unfold World.cell? at h
  rcases Nat.lt_or_ge a.block w.heap.size with h1 | h1
  · exact h1
  · simp [Array.getElem?_eq_none h1] at h
theorem cell_congr {w w' : World} {a : Addr} (h : w'.heap[a.block]? = w.heap[a.block]?) : w'.cell? a = w.cell? a := by
  simp only [World.cell?, h]
theorem add_block (a : Addr) (n : Nat) : (a.add n).block = a.block := by unfold Addr.add; split <;> rfl

theorem Ext.cell {f f' : Nat → Prop} {w w' : World} (h : Ext f f' w w') {a : Addr} {c : Value} (hc : w.cell? a = some c) (hf : ¬ f a.block) : w'.cell? a = some c := by
  rw [cell_congr (h.keep a.block (cell_lt hc) hf)]; exact hc

theorem VR.ext {f f' : Nat → Prop} {w w' : World} (h : Ext f f' w w') {φ : Phi} {v : V} {c : Value} (hv : VR f w φ v c) :
    ∀ ψ : Phi, (∀ b v l, φ b v = some l → ψ b v = some l) → VR f' w' ψ v c := by
  induction hv with
  | bool => intro ψ _; exact .bool
  | int => intro ψ _; exact .int
  | str => intro ψ _; exact .str
  | undef => intro ψ _; exact .undef
  | nilp => intro ψ _; exact .nilp
  | nils => intro ψ _; exact .nils
  | nilm => intro ψ _; exact .nilm
  | nilf => intro ψ _; exact .nilf
  | nilmap => intro ψ _; exact .nilmap
  | mp hφ => intro ψ hψ; exact .mp (hψ _ _ _ hφ)
  | ptr hφ h0 h1 => intro ψ hψ; exact .ptr (hψ _ _ _ hφ) h0 h1
  | os hφ hsz h0 h1 hn hm hc ha =>
    intro ψ hψ
    refine .os (hψ _ _ _ hφ) hsz h0 h1 hn hm hc fun hcap => ?_
    obtain ⟨ha, cells, t, fr, h2, h3⟩ := ha hcap
    obtain ⟨cells', h4, h5⟩ := h.shape _ _ _ _ h2
    exact ⟨ha, cells', t, fr, h4, by rw [h5]; exact h3⟩
  | rs hl hc hm hs hv ih =>
    intro ψ _
    refine .rs hl hc hm (fun i el o x hi ho => ?_) (fun i el o x c hi ho hcell => ?_)
    · obtain ⟨h1, h2, c, h3⟩ := hs i el o x hi ho
      refine ⟨fun hf => ?_, h2, c, h.cell h3 (by rw [add_block]; exact h1)⟩
      rcases h.fb _ hf with h4 | h4
      · exact h1 h4
      · have := cell_lt h3; rw [add_block] at this; omega
    · obtain ⟨h1, h2, c', h3⟩ := hs i el o x hi ho
      have h4 := h.cell h3 (by rw [add_block]; exact h1)
      rw [h4] at hcell
      obtain rfl : c' = c := Option.some.inj hcell
      exact ih i el o x c' hi ho h3 noPhi (fun _ _ _ h => h)
  | rp hs hv ih =>
    intro ψ _
    refine .rp (fun o x ho => ?_) (fun o x c ho hcell => ?_)
    · obtain ⟨h1, h2, c, h3⟩ := hs o x ho
      refine ⟨fun hf => ?_, h2, c, h.cell h3 (by rw [add_block]; exact h1)⟩
      rcases h.fb _ hf with h4 | h4
      · exact h1 h4
      · have := cell_lt h3; rw [add_block] at this; omega
    · obtain ⟨h1, h2, c', h3⟩ := hs o x ho
      have h4 := h.cell h3 (by rw [add_block]; exact h1)
      rw [h4] at hcell
      obtain rfl : c' = c := Option.some.inj hcell
      exact ih o x c' ho h3 noPhi (fun _ _ _ h => h)
  | fn hl hv ih => intro ψ hψ; exact .fn hl fun i x c hx hc => ih i x c hx hc ψ hψ
  | agg hl hc hv ih => intro ψ hψ; exact .agg hl hc fun i x c hx hc => ih i x c hx hc ψ hψ
  | tup hl hv ih => intro ψ hψ; exact .tup hl fun i x c hx hc => ih i x c hx hc ψ hψ

/-- The other way: fewer blocks are forbidden, the world the same. -/
theorem VR.less {f f' : Nat → Prop} {w : World} (h : ∀ cb, f' cb → f cb) {φ ψ : Phi} {v : V} {c : Value} (hv : VR f w φ v c) (hψ : ∀ b v l, φ b v = some l → ψ b v = some l) : VR f' w ψ v c :=
  VR.ext (f := f) (f' := f') (w := w) (w' := w) ⟨fun cb hc => .inl (h cb hc), fun _ _ _ => rfl, fun _ cells _ _ hc => ⟨cells, hc, rfl⟩, Nat.le_refl _, rfl, rfl, rfl⟩ hv ψ hψ

/-- What is said of a row's version. -/
structure RowOk (forb : Nat → Prop) (φ : Phi) (w : World) (x : Row) (v : Nat) (l : Loc) : Prop where
  sz : l.sz = x.sz
  len : l.len ≤ x.els.length
  cur : v = x.cur → l.len = x.els.length
  els : ∀ el ∈ x.els, el.length = x.sz
  cells : ∃ cells t fr, w.heap[l.cb]? = some (.cells cells t fr) ∧ (∀ o, o < cells.size → ¬ (fr.1 ≤ o ∧ o < fr.2)) ∧
    ∀ i el o y, l.lo ≤ i → i < l.len → x.els[i]? = some el → el[o]? = some y → y.isCell = true ∧ ∃ c, cells[l.coff + (i - l.lo) * l.sz + o]? = some c ∧ VR forb w φ y c

def toVal (p : IntKind × Int) : Value := .int p.1 p.2
/-- a map's entries in the world -/
def MapAt (w : World) (cb : Nat) (es : Ents) : Prop := ∃ (es' : Array MapEntry) (clock : Nat), w.heap[cb]? = some (.map es' clock) ∧ es'.toList.map (fun e => (e.key, e.val)) = es.map fun p => (Value.agg ⟨p.1.map toVal⟩, toVal p.2)
theorem MapAt.congr {w w' : World} {cb : Nat} {es : Ents} (h : w'.heap[cb]? = w.heap[cb]?) (k : MapAt w cb es) : MapAt w' cb es := by
  obtain ⟨es', clock, h1, h2⟩ := k
  exact ⟨es', clock, h.trans h1, h2⟩
/-- The heap and the world: of the blocks in D what they hold is told. -/
structure Rel (forb : Nat → Prop) (φ : Phi) (D : Nat → Prop) (base : Nat) (h : H) (w : World) : Prop where
  row : ∀ b x v l, D b → h[b]? = some (.row x) → x.rd ≤ v → v ≤ x.cur → φ b v = some l → RowOk forb φ w x v l
  low : ∀ b v l, φ b v = some l → base ≤ l.cb ∧ l.cb < w.heap.size ∧ forb l.cb
  apart : ∀ b v l b' v' l', φ b v = some l → φ b' v' = some l' → l.cb = l'.cb → b = b' ∧ l.coff = l'.coff ∧ l.sz = l'.sz ∧ l.lo = l'.lo
  top : base ≤ w.heap.size
  new : ∀ b x v l, D b → h[b]? = some (.row x) → φ b v = some l → v ≤ x.cur
  mp : ∀ b es l, D b → h[b]? = some (.mp es) → φ b 0 = some l → MapAt w l.cb es

theorem Rel.part {forb : Nat → Prop} {φ : Phi} {D D' : Nat → Prop} {base : Nat} {h : H} {w : World} (k : Rel forb φ D base h w) (hd : ∀ b, D' b → D b) : Rel forb φ D' base h w :=
  ⟨fun b x v l hb => k.row b x v l (hd b hb), k.low, k.apart, k.top, fun b x v l hb => k.new b x v l (hd b hb), fun b es l hb => k.mp b es l (hd b hb)⟩
end Go.Mini

namespace Go.Mini
set_option linter.unusedVariables false

/-- What an operation of the small machine says of the model's. -/
structure Post0 (forb : Nat → Prop) (φ : Phi) (D : Nat → Prop) (base : Nat) (h : H) (w : World) (x : Res) (c : Value) (w' : World) (forb' : Nat → Prop) (φ' : Phi) : Prop where
  v : VR forb' w' φ' x.v c
  rel : Rel forb' φ' (fun b => D b ∨ (h.length ≤ b ∧ b < x.h.length)) base x.h w'
  ext : Ext forb forb' w w'
  mono : ∀ b v l, φ b v = some l → φ' b v = some l
  far : ∀ b v, x.h.length ≤ b → φ' b v = φ b v
  loc : ∀ b v l, φ b v = some l → b ∉ x.w → w'.heap[l.cb]? = w.heap[l.cb]?
  old : ∀ b v, b < h.length → b ∉ x.w → φ' b v = φ b v
  grow : h.length ≤ x.h.length
def Post (forb : Nat → Prop) (φ : Phi) (D : Nat → Prop) (base : Nat) (h : H) (w : World) (x : Res) (c : Value) (w' : World) : Prop := ∃ forb' φ', Post0 forb φ D base h w x c w' forb' φ'

theorem Rel.more {forb : Nat → Prop} {φ : Phi} {D : Nat → Prop} {base : Nat} {h : H} {w : World} (k : Rel forb φ D base h w) : Rel forb φ (fun b => D b ∨ (h.length ≤ b ∧ b < h.length)) base h w :=
  k.part fun b hb => by rcases hb with hb | ⟨h1, h2⟩; exact hb; omega

theorem post_same {forb : Nat → Prop} {φ : Phi} {D : Nat → Prop} {base : Nat} {h : H} {w : World} {v : V} {r : List Nat} {c : Value} (k : Rel forb φ D base h w) (hv : VR forb w φ v c) : Post forb φ D base h w ⟨v, h, r, []⟩ c w :=
  ⟨forb, φ, hv, k.more, Ext.refl _ _, fun _ _ _ h => h, fun _ _ _ => rfl, fun _ _ _ _ _ => rfl, fun _ _ _ _ => rfl, Nat.le_refl _⟩

/-- a draw turns nothing -/
theorem Ext.drew (forb : Nat → Prop) (w : World) (n : Nat) : Ext forb forb w { w with drawn := n } :=
  ⟨fun _ h => .inl h, fun _ _ _ => rfl, fun _ cells _ _ h => ⟨cells, h, rfl⟩, Nat.le_refl _, rfl, rfl, rfl⟩

theorem RowOk.ext {f f' : Nat → Prop} {w w' : World} (h : Ext f f' w w') {φ ψ : Phi} {x : Row} {v : Nat} {l : Loc} (k : RowOk f φ w x v l) (hψ : ∀ b v l, φ b v = some l → ψ b v = some l) (hb : w'.heap[l.cb]? = w.heap[l.cb]?) : RowOk f' ψ w' x v l := by
  obtain ⟨h1, h2, h3, h4, cells, t, fr, h5, h6, h7⟩ := k
  refine ⟨h1, h2, h3, h4, cells, t, fr, by rw [hb]; exact h5, h6, fun i el o y ha hi he ho => ?_⟩
  obtain ⟨h8, c, h9, h10⟩ := h7 i el o y ha hi he ho
  exact ⟨h8, c, h9, h10.ext h ψ hψ⟩

theorem Rel.drew {forb : Nat → Prop} {φ : Phi} {D : Nat → Prop} {base : Nat} {h : H} {w : World} (k : Rel forb φ D base h w) (n : Nat) : Rel forb φ D base h { w with drawn := n } :=
  ⟨fun b x v l hb hx h1 h2 hl => (k.row b x v l hb hx h1 h2 hl).ext (Ext.drew forb w n) (fun _ _ _ h => h) rfl, k.low, k.apart, k.top, k.new, fun b es l hb hx hl => k.mp b es l hb hx hl⟩

def upd (φ : Phi) (b v : Nat) (l : Loc) : Phi := fun b' v' => if b' = b ∧ v' = v then some l else φ b' v'

theorem upd_same (φ : Phi) (b v : Nat) (l : Loc) : upd φ b v l b v = some l := by simp [upd]
theorem upd_mono {φ : Phi} {b v : Nat} {l : Loc} (hb : ∀ v', φ b v = some v' → False) : ∀ b' v' l', φ b' v' = some l' → upd φ b v l b' v' = some l' := by
  intro b' v' l' h
  unfold upd
  split
  · rename_i e; obtain ⟨rfl, rfl⟩ := e; exact (hb _ h).elim
  · exact h

/-- The world with one more block. -/
abbrev grow (w : World) (o : Obj) : World := { w with heap := w.heap.push o }

theorem heap_grow {w : World} {o : Obj} {k : Nat} (h : k < w.heap.size) : (grow w o).heap[k]? = w.heap[k]? := by
  show (w.heap.push o)[k]? = _
  rw [Array.getElem?_push, if_neg (by omega)]
theorem heap_grow_new (w : World) (o : Obj) : (grow w o).heap[w.heap.size]? = some o := by
  show (w.heap.push o)[w.heap.size]? = _
  simp

theorem ext_grow (forb : Nat → Prop) (w : World) (o : Obj) : Ext forb (fun cb => forb cb ∨ cb = w.heap.size) w (grow w o) := by
  refine ⟨fun cb h => ?_, fun cb hlt _ => heap_grow hlt, fun cb cells t fr hc => ⟨cells, ?_, rfl⟩, by simp [grow], rfl, rfl, rfl⟩
  · rcases h with h | h
    · exact .inl h
    · exact .inr (by omega)
  · rw [heap_grow]
    · exact hc
    · rcases Nat.lt_or_ge cb w.heap.size with h1 | h1
      · exact h1
      · simp [Array.getElem?_eq_none h1] at hc

/-- A new row: its cells lie one behind the other in a new block (which may have more of them). -/
theorem post_new {forb : Nat → Prop} {φ : Phi} {D : Nat → Prop} {base : Nat} {h : H} {w : World} {v : V} {r : List Nat} {c : Value}
    (k : Rel forb φ D base h w) (sz : Nat) (els : List (List V)) (cells : Array Value) (t : TypeId) (fr : Nat × Nat)
    (hfr : ∀ o, o < cells.size → ¬ (fr.1 ≤ o ∧ o < fr.2)) (hsz : ∀ el ∈ els, el.length = sz)
    (hfree : ∀ v, φ h.length v = none)
    (hcells : ∀ (i : Nat) el (o : Nat) y, els[i]? = some el → el[o]? = some y → y.isCell = true ∧ ∃ c, cells[i * sz + o]? = some c ∧ VR forb w φ y c)
    (hv : ∀ forb' φ' w', φ' h.length 0 = some ⟨w.heap.size, 0, 0, els.length, sz⟩ → (∃ fr, w'.heap[w.heap.size]? = some (.cells cells t fr)) → VR forb' w' φ' v c) :
    Post forb φ D base h w ⟨v, newRow h sz els, r, []⟩ c (grow w (.cells cells t fr)) := by
  have hE := ext_grow forb w (.cells cells t fr)
  have hm : ∀ b' v' l', φ b' v' = some l' → upd φ h.length 0 ⟨w.heap.size, 0, 0, els.length, sz⟩ b' v' = some l' := upd_mono fun v' hv' => by rw [hfree] at hv'; cases hv'
  refine ⟨fun cb => forb cb ∨ cb = w.heap.size, upd φ h.length 0 ⟨w.heap.size, 0, 0, els.length, sz⟩, hv _ _ _ (upd_same ..) ⟨fr, heap_grow_new w _⟩, ?_, hE, hm, ?_, ?_, ?_, by simp [newRow]⟩
  · refine ⟨fun b x v l hb hx h1 h2 hl => ?_, fun b v l hl => ?_, fun b v l b' v' l' hl hl' e => ?_, Nat.le_trans k.top hE.size, fun b x v l hb hx hl => ?_, fun b es l hb hx hl => ?_⟩
    · unfold upd at hl
      split at hl
      · rename_i e; obtain ⟨rfl, rfl⟩ := e
        obtain rfl : _ = l := Option.some.inj hl
        have hx' : x = ⟨sz, els, 0, 0⟩ := by
          have : (newRow h sz els)[h.length]? = some (.row ⟨sz, els, 0, 0⟩) := by simp [newRow]
          rw [this] at hx; cases hx; rfl
        subst hx'
        refine ⟨rfl, Nat.le_refl _, fun _ => rfl, hsz, cells, t, fr, heap_grow_new w _, hfr, fun i el o y _ _ he ho => ?_⟩
        obtain ⟨h3, c', h4, h5⟩ := hcells i el o y he ho
        exact ⟨h3, c', by simpa using h4, h5.ext hE _ hm⟩
      · rename_i e
        have hlt : b < h.length := by
          rcases Nat.lt_or_ge b h.length with h3 | h3
          · exact h3
          · have hb2 : b < (newRow h sz els).length := by
              rcases List.getElem?_eq_some_iff.1 hx with ⟨h4, _⟩; exact h4
            simp [newRow] at hb2
            obtain rfl : b = h.length := by omega
            rw [hfree] at hl; cases hl
        have hx0 : h[b]? = some (.row x) := by
          simp only [newRow] at hx; rwa [List.getElem?_append_left hlt] at hx
        have hD : D b := by
          rcases hb with hb | ⟨hb, _⟩
          · exact hb
          · omega
        exact (k.row b x v l hD hx0 h1 h2 hl).ext hE hm (heap_grow (k.low _ _ _ hl).2.1)
    · unfold upd at hl
      split at hl
      · obtain rfl : _ = l := Option.some.inj hl
        exact ⟨k.top, by simp [grow], .inr rfl⟩
      · have := k.low b v l hl
        exact ⟨this.1, by simp [grow]; omega, .inl this.2.2⟩
    · unfold upd at hl hl'
      split at hl <;> split at hl'
      · rename_i e1 e2
        obtain rfl : _ = l := Option.some.inj hl
        obtain rfl : _ = l' := Option.some.inj hl'
        exact ⟨by rw [e1.1, e2.1], rfl, rfl, rfl⟩
      · obtain rfl : _ = l := Option.some.inj hl
        have := (k.low _ _ _ hl').2.1
        simp at e; omega
      · obtain rfl : _ = l' := Option.some.inj hl'
        have := (k.low _ _ _ hl).2.1
        simp at e; omega
      · exact k.apart _ _ _ _ _ _ hl hl' e
    · unfold upd at hl
      split at hl
      · rename_i e; omega
      · have hlt : b < h.length := by
          rcases Nat.lt_or_ge b h.length with h3 | h3
          · exact h3
          · have hb2 : b < (newRow h sz els).length := by
              rcases List.getElem?_eq_some_iff.1 hx with ⟨h4, _⟩; exact h4
            simp [newRow] at hb2
            obtain rfl : b = h.length := by omega
            rw [hfree] at hl; cases hl
        have hx0 : h[b]? = some (.row x) := by
          simp only [newRow] at hx; rwa [List.getElem?_append_left hlt] at hx
        have hD : D b := by
          rcases hb with hb | ⟨hb, _⟩
          · exact hb
          · omega
        exact k.new b x v l hD hx0 hl
    · have hne : b ≠ h.length := fun e => by
        subst e
        have : (newRow h sz els)[h.length]? = some (.row ⟨sz, els, 0, 0⟩) := by simp [newRow]
        rw [this] at hx; cases hx
      have hlt : b < h.length := by
        have h4 := (List.getElem?_eq_some_iff.1 hx).1
        simp [newRow] at h4; omega
      have hl0 : φ b 0 = some l := by
        unfold upd at hl
        rw [if_neg (by rintro ⟨e, _⟩; exact hne e)] at hl; exact hl
      have hx0 : h[b]? = some (.mp es) := by
        simp only [newRow] at hx; rwa [List.getElem?_append_left hlt] at hx
      exact (k.mp b es l (hb.resolve_right (by omega)) hx0 hl0).congr (heap_grow (k.low _ _ _ hl0).2.1)
  · intro b v hb
    simp [newRow] at hb
    unfold upd; rw [if_neg]; rintro ⟨rfl, _⟩; omega
  · intro b v l hl _
    exact heap_grow (k.low _ _ _ hl).2.1
  · intro b v hb _
    unfold upd; rw [if_neg]; rintro ⟨rfl, _⟩; omega
/-- A new map. -/
theorem post_newmap {forb : Nat → Prop} {φ : Phi} {D : Nat → Prop} {base : Nat} {h : H} {w : World} (k : Rel forb φ D base h w) (hfree : ∀ v, φ h.length v = none) :
    Post forb φ D base h w ⟨.mp h.length, h ++ [.mp []], [], []⟩ (.map (some w.heap.size)) (grow w (.map #[] 0)) := by
  have hE := ext_grow forb w (.map #[] 0)
  have hm : ∀ b' v' l', φ b' v' = some l' → upd φ h.length 0 ⟨w.heap.size, 0, 0, 0, 0⟩ b' v' = some l' := upd_mono fun v' hv' => by rw [hfree] at hv'; cases hv'
  have hnew : (h ++ [Ob.mp []])[h.length]? = some (.mp []) := by simp
  have hold : ∀ {b : Nat} {o : Ob}, (h ++ [Ob.mp []])[b]? = some o → b ≠ h.length → b < h.length ∧ h[b]? = some o := fun {b o} hx hne => by
    have h4 := (List.getElem?_eq_some_iff.1 hx).1
    have hlt : b < h.length := by simp at h4; omega
    exact ⟨hlt, by rwa [List.getElem?_append_left hlt] at hx⟩
  have hphi : ∀ {b v : Nat} {l : Loc}, upd φ h.length 0 ⟨w.heap.size, 0, 0, 0, 0⟩ b v = some l → b ≠ h.length → φ b v = some l := fun {b v l} hl hne => by
    unfold upd at hl
    rw [if_neg (by rintro ⟨e, _⟩; exact hne e)] at hl; exact hl
  refine ⟨fun cb => forb cb ∨ cb = w.heap.size, upd φ h.length 0 ⟨w.heap.size, 0, 0, 0, 0⟩, .mp (l := ⟨w.heap.size, 0, 0, 0, 0⟩) (upd_same ..), ?_, hE, hm, ?_, ?_, ?_, by simp⟩
  · refine ⟨fun b x v l hb hx h1 h2 hl => ?_, fun b v l hl => ?_, fun b v l b' v' l' hl hl' e => ?_, Nat.le_trans k.top hE.size, fun b x v l hb hx hl => ?_, fun b es l hb hx hl => ?_⟩
    · have hne : b ≠ h.length := fun e => by subst e; rw [hnew] at hx; cases hx
      obtain ⟨hlt, hx0⟩ := hold hx hne
      have hl0 := hphi hl hne
      exact (k.row b x v l (hb.resolve_right (by omega)) hx0 h1 h2 hl0).ext hE hm (heap_grow (k.low _ _ _ hl0).2.1)
    · unfold upd at hl
      split at hl
      · obtain rfl : _ = l := Option.some.inj hl
        exact ⟨k.top, by simp [grow], .inr rfl⟩
      · have := k.low b v l hl
        exact ⟨this.1, by simp [grow]; omega, .inl this.2.2⟩
    · unfold upd at hl hl'
      split at hl <;> split at hl'
      · rename_i e1 e2
        obtain rfl : _ = l := Option.some.inj hl
        obtain rfl : _ = l' := Option.some.inj hl'
        exact ⟨by rw [e1.1, e2.1], rfl, rfl, rfl⟩
      · obtain rfl : _ = l := Option.some.inj hl
        have := (k.low _ _ _ hl').2.1
        simp at e; omega
      · obtain rfl : _ = l' := Option.some.inj hl'
        have := (k.low _ _ _ hl).2.1
        simp at e; omega
      · exact k.apart _ _ _ _ _ _ hl hl' e
    · have hne : b ≠ h.length := fun e => by subst e; rw [hnew] at hx; cases hx
      obtain ⟨hlt, hx0⟩ := hold hx hne
      exact k.new b x v l (hb.resolve_right (by omega)) hx0 (hphi hl hne)
    · by_cases hne : b = h.length
      · subst hne
        rw [upd_same] at hl
        obtain rfl : _ = l := Option.some.inj hl
        rw [hnew] at hx; cases hx
        exact ⟨#[], 0, heap_grow_new w _, rfl⟩
      · obtain ⟨hlt, hx0⟩ := hold hx hne
        have hl0 := hphi hl hne
        exact (k.mp b es l (hb.resolve_right (by omega)) hx0 hl0).congr (heap_grow (k.low _ _ _ hl0).2.1)
  · intro b v hb
    simp at hb
    unfold upd; rw [if_neg]; rintro ⟨rfl, _⟩; omega
  · intro b v l hl _
    exact heap_grow (k.low _ _ _ hl).2.1
  · intro b v hb _
    unfold upd; rw [if_neg]; rintro ⟨rfl, _⟩; omega
/-- A map's entries written. -/
theorem post_putmap {forb : Nat → Prop} {φ : Phi} {D : Nat → Prop} {base : Nat} {h : H} {w w' : World} {b : Nat} {es es2 : Ents} {l : Loc} {r : List Nat} (hR : Rel forb φ D base h w) (hx : h[b]? = some (.mp es)) (hb : D b) (hφ : φ b 0 = some l)
    (hmap : MapAt w l.cb es) (h2 : MapAt w' l.cb es2) (hrest : ∀ j, j ≠ l.cb → w'.heap[j]? = w.heap[j]?) (hsize : w'.heap.size = w.heap.size) (hos : w'.os = w.os) (htape : w'.tape = w.tape) (hout : w'.output = w.output) :
    Post forb φ D base h w ⟨.undef, h.set b (.mp es2), r, [b]⟩ (.tuple #[]) w' := by
  have hlow := hR.low b 0 l hφ
  have hbl : b < h.length := (List.getElem?_eq_some_iff.1 hx).1
  obtain ⟨es', clock, hc1, hc2⟩ := hmap
  have hE : Ext forb forb w w' := ⟨fun cb h => .inl h, fun cb hlt hn => hrest cb (by rintro rfl; exact hn hlow.2.2), fun cb c t fr hc => ⟨c, by
    rw [hrest cb (by rintro rfl; rw [hc1] at hc; cases hc)]; exact hc, rfl⟩, by omega, hos, htape, hout⟩
  have hD : ∀ {b' : Nat}, (D b' ∨ (h.length ≤ b' ∧ b' < (h.set b (Ob.mp es2)).length)) → D b' := fun {b'} h1 => h1.resolve_right (by simp)
  refine ⟨forb, φ, .undef, ⟨fun b' y v l' hb' hy h1 h2 hl' => ?_, fun b' v l' hl' => ?_, hR.apart, by rw [hsize]; exact hR.top, fun b' y v l' hb' hy hl' => ?_, fun b' es0 l' hb' hy hl' => ?_⟩, hE, fun _ _ _ h => h, fun _ _ _ => rfl, fun b' v' l' hl' hne => ?_, fun _ _ _ _ => rfl, by simp⟩
  · by_cases e : b' = b
    · subst e; rw [List.getElem?_set_self hbl] at hy; cases hy
    · rw [List.getElem?_set_ne (Ne.symm e)] at hy
      exact (hR.row b' y v l' (hD hb') hy h1 h2 hl').ext hE (fun _ _ _ h => h) (hrest _ fun e2 => e (hR.apart _ _ _ _ _ _ hl' hφ e2).1)
  · have := hR.low _ _ _ hl'; rw [hsize]; exact this
  · by_cases e : b' = b
    · subst e; rw [List.getElem?_set_self hbl] at hy; cases hy
    · rw [List.getElem?_set_ne (Ne.symm e)] at hy
      exact hR.new _ _ _ _ (hD hb') hy hl'
  · by_cases e : b' = b
    · subst e
      rw [List.getElem?_set_self hbl] at hy; cases hy
      rw [hφ] at hl'; cases hl'
      exact h2
    · rw [List.getElem?_set_ne (Ne.symm e)] at hy
      exact (hR.mp b' es0 l' (hD hb') hy hl').congr (hrest _ fun e2 => e (hR.apart _ _ _ _ _ _ hl' hφ e2).1)
  · simp at hne
    exact hrest _ fun e2 => hne (hR.apart _ _ _ _ _ _ hl' hφ e2).1
end Go.Mini

namespace Go.Mini
set_option linter.unusedVariables false
set_option linter.unusedSimpArgs false

/-- The slots, value by value; the variables of the packages that are known. -/
structure Tm (G : Nat → Option V) (forb : Nat → Prop) (φ : Phi) (w : World) (t : List V) (a : Act) : Prop where
  len : a.tmps.size = t.length
  val : ∀ (i : Nat) v, t[i]? = some v → ∃ c, a.tmps[i]? = some c ∧ VR forb w φ v c
  glob : ∀ n v, G n = some v → VR forb w noPhi v (.pointer (some ⟨n, 0, none⟩))

theorem ofVal1_ok {forb : Nat → Prop} {φ : Phi} {w : World} {x : Value} {v : V} (h : ofVal1 x = some v) : VR forb w φ v x := by
  unfold ofVal1 at h
  split at h
  · cases h; exact .bool
  · cases h; exact .int
  · cases h; rename_i s; have : s = ⟨s.data.toList.toArray⟩ := by simp
    rw [this]; simpa using VR.str (s := s.data.toList)
  · split at h
    · rename_i vs hs; cases h
      obtain rfl : vs = #[] := by apply Array.eq_empty_of_size_eq_zero hs
      exact .undef
    · cases h
  · cases h; exact .nilp
  · cases h; exact .nils
  · cases h; exact .nilm
  · cases h; exact .nilf
  · cases h; exact .nilmap
  · cases h

theorem ofVals_ok {forb : Nat → Prop} {φ : Phi} {w : World} : ∀ {xs : List Value} {vs : List V}, ofVals xs = some vs → xs.length = vs.length ∧ (∀ v ∈ vs, v.isCell = true) ∧ ∀ (i : Nat) v c, vs[i]? = some v → xs[i]? = some c → VR forb w φ v c
  | [], vs, h => by cases h; simp
  | x :: xs, vs, h => by
    unfold ofVals at h
    split at h
    · rename_i y ys h1 h2
      split at h
      · rename_i hc
        cases h
        obtain ⟨h3, h4, h5⟩ := ofVals_ok (forb := forb) (φ := φ) (w := w) h2
        refine ⟨by simp [h3], fun v hv => ?_, fun i v c hv hx => ?_⟩
        · rcases List.mem_cons.1 hv with rfl | hv
          · exact hc
          · exact h4 v hv
        · cases i with
          | zero => simp at hv hx; subst hv hx; exact ofVal1_ok h1
          | succ i => exact h5 i v c (by simpa using hv) (by simpa using hx)
      · cases h
    · cases h

theorem ofVal_ok {forb : Nat → Prop} {φ : Phi} {w : World} {x : Value} {v : V} (h : ofVal x = some v) : VR forb w φ v x := by
  unfold ofVal at h
  split at h
  · rename_i cs
    rcases hc : ofVals cs.toList with _ | vs
    · simp [hc] at h
    · simp [hc] at h
      subst h
      obtain ⟨h1, h2, h3⟩ := ofVals_ok (forb := forb) (φ := φ) (w := w) hc
      have : cs = ⟨cs.toList⟩ := rfl
      rw [this]
      exact .agg h1 h2 h3
  · exact ofVal1_ok h

variable {P : Program} {G : Nat → Option V} {forb : Nat → Prop} {φ : Phi} {w : World} {t : List V} {a : Act}

theorem ev_ok (ht : Tm G forb φ w t a) {x : Operand} {d : Opd} {v : V} (hx : opd x = some d) (hv : ev G t d = some v) : VR forb w φ v (a.eval x) := by
  unfold opd at hx
  split at hx
  · cases hx
    obtain ⟨c, h1, h2⟩ := ht.val _ _ hv
    simpa [Act.eval, Array.getD, Array.getElem?_eq_some_iff.1 h1 |>.1, (Array.getElem?_eq_some_iff.1 h1).2] using h2
  · rename_i c
    rcases h1 : ofVal c with _ | u
    · simp [h1] at hx
    · simp [h1] at hx; subst hx; cases hv; exact ofVal_ok h1
  · cases hx
    exact (ht.glob _ _ hv).less (fun _ h => h) (fun _ _ _ h => by cases h)
  · cases hx; cases hv
    exact .fn (by simp) (by simp)

theorem evs_ok (ht : Tm G forb φ w t a) : ∀ {xs : List Operand} {ds : List Opd} {vs : List V}, mapM? opd xs = some ds → evs G t ds = some vs → vs.length = xs.length ∧ ∀ (i : Nat) v x, vs[i]? = some v → xs[i]? = some x → VR forb w φ v (a.eval x)
  | [], ds, vs, h, hv => by cases h; cases hv; simp
  | x :: xs, ds, vs, h, hv => by
    unfold mapM? at h
    split at h
    · rename_i d ds' h1 h2
      cases h
      unfold evs at hv
      split at hv
      · rename_i v vs' h3 h4
        cases hv
        obtain ⟨h5, h6⟩ := evs_ok ht h2 h4
        refine ⟨by simp [h5], fun i u y hu hy => ?_⟩
        cases i with
        | zero => simp at hu hy; subst hu hy; exact ev_ok ht h1 h3
        | succ i => exact h6 i u y (by simpa using hu) (by simpa using hy)
      · cases hv
    · cases h

/-- What an operation comes to. -/
def Goes (P : Program) (o : Oper) (a : Act) (w : World) (Q : Value → World → Prop) : Prop :=
  (∃ c w', (execOp a.eval o).run P w = .ok (.value c) w' ∧ Q c w') ∨ (∃ w', (execOp a.eval o).run P w = .ok .skip w' ∧ Q Go.undef w') ∨
  (∃ f args, (execOp a.eval o).run P w = .ok (.enter f args) w ∧ Calls P f args w (fun e w' => ∃ c, e = .returned c ∧ Q c w'))

theorem Goes.wp {o : Oper} {Q : Value → World → Prop} (h : Goes P o a w Q) {K : Act → World → Prop} {X : Exit → Act → World → Prop} (hk : ∀ c w', Q c w' → K (a.put o.dst c) w') : o.wp P a w K X := by
  rcases h with ⟨c, w', h1, h2⟩ | ⟨w', h1, h2⟩ | ⟨f, args, h1, h2⟩
  · unfold Oper.wp; rw [h1]; exact hk _ _ h2
  · unfold Oper.wp; rw [h1]; exact hk _ _ h2
  · unfold Oper.wp; rw [h1]
    refine h2.mono fun e w' he => ?_
    obtain ⟨c, rfl, hq⟩ := he
    exact hk _ _ hq

theorem goes_value {o : Oper} {Q : Value → World → Prop} {c : Value} {w' : World} (h : (execOp a.eval o).run P w = .ok (.value c) w') (hq : Q c w') : Goes P o a w Q := .inl ⟨c, w', h, hq⟩

/-- A value that is no struct is one cell. -/
theorem VR.cells_ok {v : V} {c : Value} (h : VR forb w φ v c) (hl : v.lies = true) : c.cells.size = v.cells.length ∧ (∀ y ∈ v.cells, y.isCell = true) ∧ ∀ (i : Nat) y, v.cells[i]? = some y → ∃ u, c.cells[i]? = some u ∧ VR forb w φ y u := by
  have h' := h
  cases h with
  | agg h1 h2 h3 =>
    rename_i cs vs
    refine ⟨by simpa [Value.cells, V.cells] using h1, by simpa [V.cells] using h2, fun i y hy => ?_⟩
    simp only [V.cells] at hy
    have hi : i < vs.length := by rw [h1]; exact (List.getElem?_eq_some_iff.1 hy).1
    exact ⟨vs[i], by simp [Value.cells, hi], h3 i y _ hy (by simp [hi])⟩
  | undef => cases hl
  | tup => cases hl
  | _ =>
    refine ⟨by simp [Value.cells, V.cells], by simp [V.cells, V.isCell], fun i y hy => ?_⟩
    cases i with
    | zero => simp [V.cells] at hy; subst hy; exact ⟨_, rfl, h'⟩
    | succ i => simp [V.cells] at hy

theorem VR.oneCell {v : V} {c : Value} (h : VR forb w φ v c) (hl : v.isCell = true) : c.oneCell' = true := by
  cases h <;> first | rfl | cases hl

theorem mapM?_length {α β : Type} {f : α → Option β} : ∀ {l : List α} {r : List β}, mapM? f l = some r → r.length = l.length
  | [], r, h => by cases h; rfl
  | x :: xs, r, h => by
    unfold mapM? at h
    split at h
    · rename_i h1 h2; cases h; simp [mapM?_length h2]
    · cases h
theorem mapM?_get {α β : Type} {f : α → Option β} : ∀ {l : List α} {r : List β}, mapM? f l = some r → ∀ (i : Nat) y, r[i]? = some y → ∃ x, l[i]? = some x ∧ f x = some y
  | [], r, h, i, y, hy => by cases h; simp at hy
  | x :: xs, r, h, i, y, hy => by
    unfold mapM? at h
    split at h
    · rename_i h1 h2; cases h
      cases i with
      | zero => simp at hy; subst hy; exact ⟨x, rfl, h1⟩
      | succ i => simpa using mapM?_get h2 i y (by simpa using hy)
    · cases h
end Go.Mini

namespace Go.Mini
set_option linter.unusedVariables false
set_option linter.unusedSimpArgs false

theorem forceN_eq {α : Type} (n : Nat) (k : Nat → α) : forceN n k = k n := by cases n <;> rfl
theorem forceI_eq {α : Type} (n : Int) (k : Int → α) : forceI n k = k n := by cases n <;> simp [forceI, forceN_eq]
theorem wrapF_eq (k : IntKind) (n : Int) : wrapF k n = k.wrap n := by
  unfold wrapF
  cases n with
  | ofNat m =>
    simp only [cond_eq_ite, Nat.blt_eq]
    split
    · rename_i h
      cases k <;> simp [halfK] at h <;> simp [IntKind.wrap, IntKind.bits, IntKind.signed] <;> omega
    · rfl
  | negSucc m =>
    simp only [cond_eq_ite, Bool.and_eq_true, Nat.blt_eq]
    split
    · rename_i h
      obtain ⟨h1, h2⟩ := h
      have e : Int.negSucc m = -(m : Int) - 1 := by omega
      rw [e]
      cases k with
      | i8 => simp only [halfK] at h2; simp only [IntKind.wrap, IntKind.bits, IntKind.signed]; simp; omega
      | i16 => simp only [halfK] at h2; simp only [IntKind.wrap, IntKind.bits, IntKind.signed]; simp; omega
      | i32 => simp only [halfK] at h2; rw [IntKind.wrap_i32]; omega
      | i64 => simp only [halfK] at h2; rw [IntKind.wrap_i64]; omega
      | _ => simp [IntKind.signed] at h1
    · rfl
theorem ltF_eq (a b : Int) : ltF a b = decide (a < b) := by
  cases a <;> cases b <;> simp [ltF, Nat.blt] <;> first | omega | (rw [Bool.eq_iff_iff]; simp; omega)
theorem eqF_eq (a b : Int) : eqF a b = (a == b) := by
  cases a <;> cases b <;> simp [eqF, Nat.beq_eq] <;> first | (rw [Bool.eq_iff_iff]; simp; done) | (rw [Bool.eq_iff_iff]; simp; omega)
theorem kindEq_eq (k k' : IntKind) : kindEq k k' = decide (k = k') := by cases k <;> cases k' <;> rfl

/-- A number or a bool of the model. -/
def toV1 : V → Value
  | .int k n => .int k n
  | .bool b => .bool b
  | .str s => .string ⟨s.toArray⟩
  | _ => undef

theorem intV_ok {op : BinOp} {k k' : IntKind} {x y : Int} {r : V} (P : Program) (w : World) (ty : TypeId) (h : intV op k x k' y = some r) :
    (Go.binOp op ty (.int k x) (.int k' y)).run P w = .ok (toV1 r) w ∧ ((∃ n, r = .int k n) ∨ ∃ b, r = .bool b) := by
  unfold intV at h
  cases op <;> simp only [forceI_eq, wrapF_eq, ltF_eq, eqF_eq, kindEq_eq, cond_eq_ite, decide_eq_true_eq] at h <;> (repeat' split at h) <;> (try cases h)
  all_goals (try subst_vars)
  all_goals first
    | refine ⟨?_, .inl ⟨_, rfl⟩⟩
    | refine ⟨?_, .inr ⟨_, rfl⟩⟩
  all_goals first
    | (simp_all [Go.binOp, Op.intArith, Op.intDiv, Op.intBits, Op.intCmp, Sem.run, toV1, pure, bne]; done)
    | (have hy : ¬ y < 0 := by omega
       simp only [Go.binOp, Op.shift, hy, if_false, Sem.run, toV1, pure]; done)
    | (simp only [Go.binOp, Op.intCmp, Sem.run, toV1, pure, ne_eq, not_true_eq_false, if_false]
       congr 2; rw [Bool.eq_iff_iff]; simp; done)
end Go.Mini

namespace Go.Mini
set_option linter.unusedVariables false
set_option linter.unusedSimpArgs false
variable {P : Program} {G : Nat → Option V} {forb : Nat → Prop} {φ : Phi} {w : World} {t : List V} {a : Act} {D : Nat → Prop} {base : Nat} {h : H} {o : Oper}

theorem goes_same (hR : Rel forb φ D base h w) {v : V} {r : List Nat} {c : Value} (hrun : (execOp a.eval o).run P w = .ok (.value c) w) (hv : VR forb w φ v c) : Goes P o a w (Post forb φ D base h w ⟨v, h, r, []⟩) :=
  goes_value hrun (post_same hR hv)

theorem one_some {v : Option V} {h : H} {x : Res} (hx : one v h = some x) : ∃ u, v = some u ∧ x = ⟨u, h, [], []⟩ := by
  unfold one at hx; split at hx <;> cases hx; exact ⟨_, rfl, rfl⟩

theorem op_mv_ok (ht : Tm G forb φ w t a) (hR : Rel forb φ D base h w) {x : Operand} {d : Opd} (ho : o.op = .move x ∨ o.op = .assign x) (hd : opd x = some d) {r : Res} (hr : op_mv G t d h = some r) : Goes P o a w (Post forb φ D base h w r) := by
  obtain ⟨u, hu, rfl⟩ := one_some hr
  refine goes_same hR (c := a.eval x) ?_ (ev_ok ht hd hu)
  rcases ho with ho | ho <;> (unfold execOp; rw [ho]; rfl)

theorem op_pick_ok (ht : Tm G forb φ w t a) (hR : Rel forb φ D base h w) {c x y : Operand} {dc dx dy : Opd} (ho : o.op = .pick c x y) (hc : opd c = some dc) (hx : opd x = some dx) (hy : opd y = some dy) {r : Res} (hr : op_pick G t dc dx dy h = some r) : Goes P o a w (Post forb φ D base h w r) := by
  unfold op_pick at hr
  split at hr
  · rename_i hb
    have h1 := ev_ok ht hc hb
    obtain ⟨u, hu, rfl⟩ := one_some hr
    refine goes_same hR (c := a.eval x) ?_ (ev_ok ht hx hu)
    unfold execOp; rw [ho]
    generalize he : a.eval c = e at h1
    cases h1
    simp [he, asBool]
  · rename_i hb
    have h1 := ev_ok ht hc hb
    obtain ⟨u, hu, rfl⟩ := one_some hr
    refine goes_same hR (c := a.eval y) ?_ (ev_ok ht hy hu)
    unfold execOp; rw [ho]
    generalize he : a.eval c = e at h1
    cases h1
    simp [he, asBool]
  · cases hr

theorem op_nilc_ok (ht : Tm G forb φ w t a) (hR : Rel forb φ D base h w) {x : Operand} {dx : Opd} (ho : o.op = .nilCheck x) (hx : opd x = some dx) {r : Res} (hr : op_nilc G t dx h = some r) : Goes P o a w (Post forb φ D base h w r) := by
  unfold op_nilc at hr
  split at hr <;> cases hr
  all_goals
    rename_i hb
    have h1 := ev_ok ht hx hb
    refine goes_same hR (c := a.eval x) ?_ h1
    unfold execOp; rw [ho]
    generalize he : a.eval x = e at h1 ⊢
    cases h1
    simp only [he]
    rfl

theorem op_un_ok (ht : Tm G forb φ w t a) (hR : Rel forb φ D base h w) {op : UnOp} {ty : TypeId} {x : Operand} {dx : Opd} (ho : o.op = .unOp op ty x) (hx : opd x = some dx) {r : Res} (hr : op_un G t op dx h = some r) : Goes P o a w (Post forb φ D base h w r) := by
  unfold op_un at hr
  split at hr
  · rename_i v hb
    have h1 := ev_ok ht hx hb
    obtain ⟨u, hu, rfl⟩ := one_some hr
    have key : ∃ c, (Op.unary op (a.eval x)).run P w = .ok c w ∧ VR forb w φ u c := by
      generalize a.eval x = e at h1
      unfold unV at hu
      cases h1 <;> simp only [] at hu <;> (try cases hu)
      · cases op <;> simp only [] at hu <;> cases hu
        exact ⟨_, by simp [Op.unary], .bool⟩
      · cases op <;> simp only [forceI_eq, wrapF_eq] at hu <;> cases hu
        · exact ⟨_, by simp [Op.unary, Op.intArith], .int⟩
        · exact ⟨_, by simp [Op.unary, Op.intBits], .int⟩
    obtain ⟨c, h2, h3⟩ := key
    refine goes_same hR (c := c) ?_ h3
    unfold execOp; rw [ho]
    simp [h2]
  · cases hr

theorem op_convI_ok (ht : Tm G forb φ w t a) (hR : Rel forb φ D base h w) {src dst : TypeId} {k k0 : IntKind} {x : Operand} {dx : Opd} (ho : o.op = .convert src dst x) (h1 : P.underlying src = some (.int k0)) (h2 : P.underlying dst = some (.int k)) (hx : opd x = some dx) {r : Res} (hr : op_convI G t k dx h = some r) : Goes P o a w (Post forb φ D base h w r) := by
  unfold op_convI at hr
  split at hr
  · rename_i k' n hb
    have h3 := ev_ok ht hx hb
    rw [forceI_eq, wrapF_eq] at hr
    cases hr
    refine goes_same hR (c := .int k (k.wrap n)) ?_ .int
    unfold execOp; rw [ho]
    generalize he : a.eval x = e at h3
    cases h3
    simp [he, convert, run_underlying h1, run_underlying h2, Conv.intToInt]
  · cases hr

theorem op_index_ok (ht : Tm G forb φ w t a) (hR : Rel forb φ D base h w) {ty : TypeId} {x i : Operand} {dx di : Opd} (ho : o.op = .index ty x i) (h1 : P.underlying ty = some .string) (hx : opd x = some dx) (hi : opd i = some di) {r : Res} (hr : op_index G t dx di h = some r) : Goes P o a w (Post forb φ D base h w r) := by
  unfold op_index at hr
  split at hr
  · rename_i s k n hb1 hb2
    have h3 := ev_ok ht hx hb1
    have h4 := ev_ok ht hi hb2
    split at hr
    · rename_i h0
      split at hr
      · rename_i b hs
        cases hr
        refine goes_same hR (c := .int .u8 b.toNat) ?_ .int
        unfold execOp; rw [ho]
        generalize he : a.eval x = e at h3
        generalize he' : a.eval i = e' at h4
        cases h3; cases h4
        have hb : ((⟨s.toArray⟩ : ByteArray)[n.toNat]? : Option UInt8) = some b := by
          have hlt := (List.getElem?_eq_some_iff.1 hs).1
          have hl : n.toNat < (⟨s.toArray⟩ : ByteArray).size := by show n.toNat < s.toArray.size; simpa using hlt
          rw [getElem?_pos (⟨s.toArray⟩ : ByteArray) n.toNat hl]
          have := (List.getElem?_eq_some_iff.1 hs).2
          show some ((s.toArray)[n.toNat]'(by simpa using hlt)) = some b
          simp [this]
        simp [he, he', Instr.index, asIntOf, run_underlying h1, h0, hb]
      · cases hr
    · cases hr
  · cases hr

theorem idxFrom_eq (n : Nat) (c : UInt8) (hc : c.toNat = n) : ∀ (l : List UInt8) (i : Nat), idxFrom n l i = if Lib.indexByte l c == -1 then -1 else Lib.indexByte l c + i
  | [], i => by simp [idxFrom, Lib.indexByte]
  | b :: l, i => by
    simp only [idxFrom, Lib.indexByte]
    have hb : (Nat.beq b.toNat n) = (b == c) := by
      rw [Bool.eq_iff_iff, Nat.beq_eq, beq_iff_eq, ← hc, UInt8.toNat_inj]
    rw [hb]
    have hge := Lib.indexByte_ge l c
    by_cases hbe : b = c
    · subst hbe; simp
    · have hbc : (b == c) = false := by simpa using hbe
      simp only [hbc, cond_false, Bool.false_eq_true, if_false]
      rw [idxFrom_eq n c hc l (i + 1)]
      by_cases hq : Lib.indexByte l c = -1
      · simp [hq]
      · have h1 : (Lib.indexByte l c == -1) = false := by simpa using hq
        have h2 : (Lib.indexByte l c + 1 == -1) = false := by
          rw [beq_eq_false_iff_ne]; omega
        simp only [h1, h2, Bool.false_eq_true, if_false]
        omega
theorem find_idx {fn : Func} (h : fn.name = "internal/bytealg.IndexByteString") : Extern.find fn = some Extern.BytealgIndexByte.indexByte := by
  unfold Extern.find
  rw [h]
  rfl
theorem op_idxB_ok (ht : Tm G forb φ w t a) (hR : Rel forb φ D base h w) {c : Call} {fo : Operand} {dx di : Opd} (ho : o.op = .call c) (hc : c.callee = .value fo) (hi : isIdx P fo = true) (has : mapM? opd c.args.toList = some [dx, di]) {r : Res} (hr : op_idxB G t dx di h = some r) : Goes P o a w (Post forb φ D base h w r) := by
  unfold isIdx at hi
  split at hi
  case h_2 => cases hi
  rename_i f
  split at hi
  case h_2 => cases hi
  rename_i fn hf
  simp only [Bool.and_eq_true, beq_iff_eq] at hi
  obtain ⟨⟨hb, hn⟩, hx⟩ := hi
  unfold op_idxB at hr
  split at hr
  · rename_i s n hb1 hb2
    cases hr
    obtain ⟨x0, p0, q0⟩ := mapM?_get has 0 dx rfl
    obtain ⟨x1, p1, q1⟩ := mapM?_get has 1 di rfl
    have hlen := mapM?_length has
    have hargs : c.args.toList = [x0, x1] := by
      rcases hq : c.args.toList with _ | ⟨y0, _ | ⟨y1, _ | ⟨y2, ys⟩⟩⟩ <;> rw [hq] at hlen p0 p1 <;> simp at hlen p0 p1
      subst p0 p1; rfl
    have hargs' : c.args = #[x0, x1] := by apply Array.ext'; rw [hargs]
    have h3 := ev_ok ht q0 hb1
    have h4 := ev_ok ht q1 hb2
    refine goes_same hR (c := .int .i64 (idxFrom n.toNat.toUInt8.toNat s 0)) ?_ .int
    unfold execOp; rw [ho]
    generalize he : a.eval x0 = e at h3
    generalize he' : a.eval x1 = e' at h4
    cases h3; cases h4
    have hidx : idxFrom n.toNat.toUInt8.toNat s 0 = Lib.indexByte s n.toNat.toUInt8 := by
      rw [idxFrom_eq _ _ rfl]
      have hge := Lib.indexByte_ge s n.toNat.toUInt8
      by_cases hq : Lib.indexByte s n.toNat.toUInt8 = -1
      · simp [hq]
      · have h1 : (Lib.indexByte s n.toNat.toUInt8 == -1) = false := by simpa using hq
        simp [h1]
    have hname : (fn.name == "runtime.NumGoroutine") = false := by rw [hn]; decide
    have hrun := run_callFunc_extern (P := P) hf hname hb (Option.isNone_iff_eq_none.1 hx) (find_idx hn) #[.string ⟨s.toArray⟩, .int .u8 n] w
    rw [Lib.run_indexByteString] at hrun
    have e1 : Act.eval a (.func f) = .func (.func f) #[] #[] := rfl
    simp only [resolve, hc, hargs', List.map_toArray, List.map_cons, List.map_nil, he, he', e1, Deferred.ofValue, pure_bind, invoke]
    rw [hidx]
    simpa [Sem.run_bind] using hrun
  · cases hr

theorem op_extract_ok (ht : Tm G forb φ w t a) (hR : Rel forb φ D base h w) {x : Operand} {i : Nat} {dx : Opd} (ho : o.op = .extract x i) (hx : opd x = some dx) {r : Res} (hr : op_extract G t dx i h = some r) : Goes P o a w (Post forb φ D base h w r) := by
  unfold op_extract at hr
  split at hr
  · rename_i vs hb
    have h3 := ev_ok ht hx hb
    obtain ⟨u, hu, rfl⟩ := one_some hr
    generalize he : a.eval x = e at h3
    cases h3
    case tup cs hl hv =>
      have hu' : (vs[i]? : Option V) = some u := hu
      have hi : i < cs.length := by rw [hl]; exact (List.getElem?_eq_some_iff.1 hu').1
      refine goes_same hR (c := cs[i]) ?_ (hv i u _ hu (by simp [hi]))
      unfold execOp; rw [ho]
      simp [he, Instr.extract, hi]
  · cases hr

theorem run_len {c : Call} {ty : TypeId} {x : Operand} (ho : o.op = .call c) (hc : c.callee = .builtin .len) (hts : c.argTypes.toList = [ty]) (has : c.args.toList = [x]) :
    (execOp a.eval o).run P w = ((Builtin.len_ #[ty] o.type #[a.eval x]).run P w).andThen fun v w' => .ok (.value v) w' := by
  have hts' : c.argTypes = #[ty] := by rw [← Array.toArray_toList (xs := c.argTypes), hts]
  have has' : c.args = #[x] := by rw [← Array.toArray_toList (xs := c.args), has]
  unfold execOp; rw [ho]
  simp [resolve, hc, has', hts', invoke, builtin]

theorem op_lenS_ok (ht : Tm G forb φ w t a) (hR : Rel forb φ D base h w) {ty : TypeId} {c : Call} {x : Operand} {dx : Opd} (ho : o.op = .call c) (hc : c.callee = .builtin .len) (hts : c.argTypes.toList = [ty]) (has : c.args.toList = [x])
    (hu : P.underlying ty = some .string) (hx : opd x = some dx) {r : Res} (hr : op_lenS G t dx h = some r) : Goes P o a w (Post forb φ D base h w r) := by
  have hrun := run_len (P := P) (w := w) (a := a) ho hc hts has
  unfold op_lenS at hr
  split at hr <;> cases hr
  rename_i hb
  have h3 := ev_ok ht hx hb
  generalize he : a.eval x = e at h3 hrun
  cases h3
  refine goes_same hR (c := .int .i64 _) ?_ .int
  rw [hrun]
  simp [Builtin.len_, run_underlying hu, goInt]
  rfl

theorem op_len_ok (ht : Tm G forb φ w t a) (hR : Rel forb φ D base h w) {ty el : TypeId} {c : Call} {x : Operand} {dx : Opd} (ho : o.op = .call c) (hc : c.callee = .builtin .len) (hts : c.argTypes.toList = [ty]) (has : c.args.toList = [x])
    (hu : P.underlying ty = some (.slice el)) (hx : opd x = some dx) {r : Res} (hr : op_len G t dx h = some r) : Goes P o a w (Post forb φ D base h w r) := by
  have hrun := run_len (P := P) (w := w) (a := a) ho hc hts has
  unfold op_len at hr
  split at hr <;> cases hr
  all_goals
    rename_i hb
    have h3 := ev_ok ht hx hb
    generalize he : a.eval x = e at h3 hrun
    cases h3
    refine goes_same hR (c := .int .i64 _) ?_ .int
    rw [hrun]
    simp [Builtin.len_, run_underlying hu, goInt]

theorem cntOf_eq (n : Nat) (c : UInt8) (hc : c.toNat = n) : ∀ (l : List UInt8) (k : Nat), cntOf n l k = k + Lib.countByte l c
  | [], k => by simp [cntOf, Lib.countByte]
  | b :: l, k => by
    simp only [cntOf]
    have hb : (Nat.beq b.toNat n) = (b == c) := by
      rw [Bool.eq_iff_iff, Nat.beq_eq, beq_iff_eq, ← hc, UInt8.toNat_inj]
    rw [hb, cntOf_eq n c hc l]
    unfold Lib.countByte
    rw [List.count_cons]
    cases b == c <;> simp <;> omega
theorem find_cnt {fn : Func} (h : fn.name = "internal/bytealg.CountString") : Extern.find fn = some Extern.BytealgCount.count := by
  unfold Extern.find
  rw [h]
  rfl
theorem op_cntB_ok (ht : Tm G forb φ w t a) (hR : Rel forb φ D base h w) {c : Call} {fo : Operand} {dx di : Opd} (ho : o.op = .call c) (hc : c.callee = .value fo) (hi : isCnt P fo = true) (has : mapM? opd c.args.toList = some [dx, di]) {r : Res} (hr : op_cntB G t dx di h = some r) : Goes P o a w (Post forb φ D base h w r) := by
  unfold isCnt at hi
  split at hi
  case h_2 => cases hi
  rename_i f
  split at hi
  case h_2 => cases hi
  rename_i fn hf
  simp only [Bool.and_eq_true, beq_iff_eq] at hi
  obtain ⟨⟨hb, hn⟩, hx⟩ := hi
  unfold op_cntB at hr
  split at hr
  · rename_i s n hb1 hb2
    cases hr
    obtain ⟨x0, p0, q0⟩ := mapM?_get has 0 dx rfl
    obtain ⟨x1, p1, q1⟩ := mapM?_get has 1 di rfl
    have hlen := mapM?_length has
    have hargs : c.args.toList = [x0, x1] := by
      rcases hq : c.args.toList with _ | ⟨y0, _ | ⟨y1, _ | ⟨y2, ys⟩⟩⟩ <;> rw [hq] at hlen p0 p1 <;> simp at hlen p0 p1
      subst p0 p1; rfl
    have hargs' : c.args = #[x0, x1] := by apply Array.ext'; rw [hargs]
    have h3 := ev_ok ht q0 hb1
    have h4 := ev_ok ht q1 hb2
    refine goes_same hR (c := .int .i64 (cntOf n.toNat.toUInt8.toNat s 0)) ?_ .int
    unfold execOp; rw [ho]
    generalize he : a.eval x0 = e at h3
    generalize he' : a.eval x1 = e' at h4
    cases h3; cases h4
    have hname : (fn.name == "runtime.NumGoroutine") = false := by rw [hn]; decide
    have hrun := run_callFunc_extern (P := P) hf hname hb (Option.isNone_iff_eq_none.1 hx) (find_cnt hn) #[.string ⟨s.toArray⟩, .int .u8 n] w
    have hcount : (Extern.BytealgCount.count #[.string ⟨s.toArray⟩, .int .u8 n]).run P w = .ok (.int .i64 (cntOf n.toNat.toUInt8.toNat s 0)) w := by
      rw [Lib.run_countString, cntOf_eq _ _ rfl, Nat.zero_add]
    rw [hcount] at hrun
    have e1 : Act.eval a (.func f) = .func (.func f) #[] #[] := rfl
    simp only [resolve, hc, hargs', List.map_toArray, List.map_cons, List.map_nil, he, he', e1, Deferred.ofValue, pure_bind, invoke]
    simpa [Sem.run_bind] using hrun
  · cases hr
end Go.Mini

namespace Go.Mini
set_option linter.unusedVariables false
set_option linter.unusedSimpArgs false
variable {P : Program} {G : Nat → Option V} {forb : Nat → Prop} {φ : Phi} {w : World} {t : List V} {a : Act} {D : Nat → Prop} {base : Nat} {h : H} {o : Oper}

def FK.fits (P : Program) (ty : TypeId) : FK → Prop
  | .b => P.underlying ty = some .bool
  | .i => ∃ k, P.underlying ty = some (.int k)
  | .s => P.underlying ty = some .string

/-- the fields of a flat struct -/
inductive Flat (P : Program) : List Field → Nat → List FK → Prop
  | nil {n} : Flat P [] n []
  | cons {f fs n k ks} (h1 : f.name ≠ "_") (h2 : f.offset = n) (h3 : k.fits P f.type) (h4 : Flat P fs (n + 1) ks) : Flat P (f :: fs) n (k :: ks)

theorem flatF_ok : ∀ {fs : List Field} {n : Nat} {ks : List FK}, flatF P fs n = some ks → Flat P fs n ks
  | [], n, m, h => by cases h; exact .nil
  | f :: fs, n, m, h => by
    unfold flatF at h
    split at h
    · rename_i h1
      split at h
      · rename_i h2
        rcases h3 : flatF P fs (n + 1) with _ | ks
        · simp [h3] at h
        · simp [h3] at h; subst h; exact .cons h1.1 h1.2 h2 (flatF_ok h3)
      · rename_i k h2
        rcases h3 : flatF P fs (n + 1) with _ | ks
        · simp [h3] at h
        · simp [h3] at h; subst h; exact .cons h1.1 h1.2 ⟨k, h2⟩ (flatF_ok h3)
      · rename_i h2
        rcases h3 : flatF P fs (n + 1) with _ | ks
        · simp [h3] at h
        · simp [h3] at h; subst h; exact .cons h1.1 h1.2 h2 (flatF_ok h3)
      · cases h
    · cases h

theorem run_part_basic {ty : TypeId} {k : FK} {cs : Array Value} {off : Nat} {c : Value} (h : k.fits P ty) (hc : cs[off]? = some c) :
    (part ty cs off).run P w = .ok c w := by
  cases k <;> simp only [FK.fits] at h
  · simp [part, isAgg, run_underlying h, hc]
  · obtain ⟨k, h⟩ := h; simp [part, isAgg, run_underlying h, hc]
  · simp [part, isAgg, run_underlying h, hc]

theorem str_beq (x y : List UInt8) : ((⟨x.toArray⟩ : ByteArray).toList == (⟨y.toArray⟩ : ByteArray).toList) = (x == y) := by simp

theorem eqC_ok {k : FK} {x y : V} {b : Bool} {c d : Value} (h : eqC k x y = some b) (hx : VR forb w φ x c) (hy : VR forb w φ y d) (n : Nat) (ty : TypeId)
    (ht : k.fits P ty) : (Op.equalIn (n + 1) ty c d).run P w = .ok b w := by
  unfold eqC at h
  split at h
  · simp only [kindEq_eq, cond_eq_ite, decide_eq_true_eq] at h
    split at h <;> cases h
    subst_vars
    obtain ⟨k', ht⟩ := ht
    cases hx; cases hy
    rw [run_equalIn_int w n ty _ k' _ _ ht, eqF_eq]
  · cases h; cases hx; cases hy
    exact run_equalIn_bool' w n ty _ _ ht
  · cases h; cases hx; cases hy
    rw [run_equalIn_string w n ty _ _ ht, str_beq]
  · cases h

theorem eqCs_ok (d : Nat) (cs ds : Array Value) : ∀ {fs : List Field} {n : Nat} {ks : List FK} {xs ys : List V} {b : Bool}, Flat P fs n ks → eqCs ks xs ys = some b →
    (∀ (i : Nat) x, xs[i]? = some x → ∃ c, cs[n + i]? = some c ∧ VR forb w φ x c) → (∀ (i : Nat) y, ys[i]? = some y → ∃ c, ds[n + i]? = some c ∧ VR forb w φ y c) →
    (Op.eqFields (d + 1) cs ds fs).run P w = .ok b w
  | [], n, ks, xs, ys, b, hf, h, hx, hy => by
    cases hf
    cases xs <;> cases ys <;> simp [eqCs] at h
    subst h; simp [Op.eqFields]
  | f :: fs, n, ks, xs, ys, b, hf, h, hx, hy => by
    obtain ⟨k, ks', rfl, h1, h2, h3, h4⟩ : ∃ k ks', ks = k :: ks' ∧ f.name ≠ "_" ∧ f.offset = n ∧ k.fits P f.type ∧ Flat P fs (n + 1) ks' := by
      cases hf; exact ⟨_, _, rfl, by assumption, by assumption, by assumption, by assumption⟩
    cases xs with
    | nil => simp [eqCs] at h
    | cons x xs =>
    cases ys with
    | nil => simp [eqCs] at h
    | cons y ys =>
      simp only [eqCs] at h
      obtain ⟨c, hc, hvc⟩ := hx 0 x rfl
      obtain ⟨e, he, hve⟩ := hy 0 y rfl
      simp only [Nat.add_zero] at hc he
      simp only [Op.eqFields, h1, h2, ne_eq, not_false_eq_true, if_true, Sem.run_bind, run_part_basic h3 hc, run_part_basic h3 he, Result.andThen_ok]
      rcases hr : eqC k x y with _ | bb
      · rw [hr] at h; cases h
      · rw [eqC_ok hr hvc hve d f.type h3]
        rw [hr] at h
        cases bb
        · cases h; simp
        · simp only [] at h
          simp only [Result.andThen_ok, Bool.not_true, Bool.false_eq_true, if_false]
          refine eqCs_ok d cs ds h4 h (fun i z hz => ?_) (fun i z hz => ?_)
          · have := hx (i + 1) z (by simpa using hz); rwa [show n + (i + 1) = n + 1 + i by omega] at this
          · have := hy (i + 1) z (by simpa using hz); rwa [show n + (i + 1) = n + 1 + i by omega] at this

theorem run_bin {op : BinOp} {ty ty' : TypeId} {x y : Operand} (ho : o.op = .binOp op ty x y ty') : (execOp a.eval o).run P w = ((eqGuard op ty x y (a.eval x) (a.eval y)).run P w).andThen fun _ w' => ((Go.binOp op ty (a.eval x) (a.eval y)).run P w').andThen fun v w'' => .ok (.value v) w'' := by
  unfold execOp; rw [ho]
  simp only [Sem.run_bind]
  generalize (eqGuard op ty x y (a.eval x) (a.eval y)).run P w = r
  cases r <;> simp [Sem.run_pure]

theorem eqOp_ok {op : BinOp} {b : Bool} {z : V} (h : eqOp op b = some z) : (op = .eql ∧ z = .bool b) ∨ (op = .neq ∧ z = .bool !b) := by
  cases op <;> simp [eqOp] at h <;> subst h
  · exact .inl ⟨rfl, rfl⟩
  · exact .inr ⟨rfl, rfl⟩

theorem flatT_ok {ty : TypeId} {ks : List FK} (h : flatT P ty = some ks) : P.underlying ty = some (.struct (P.fieldsOf ty)) ∧ P.stoodInHeld ty = false ∧ P.eqGuardType P.depth ty = false ∧ Flat P (P.fieldsOf ty).toList 0 ks := by
  unfold flatT at h
  split at h
  · rename_i fs hu
    split at h
    · cases h
    · rename_i h1
      simp only [Bool.or_eq_true, not_or, Bool.not_eq_true] at h1
      have : P.fieldsOf ty = fs := by simp [Program.fieldsOf, hu]
      rw [this]
      exact ⟨hu, h1.1, h1.2, flatF_ok h⟩
  · cases h

theorem bin_str {op : BinOp} {x y : List UInt8} {z : V} (h : strV op x y = some z) (ty : TypeId) : ∃ e, (Go.binOp op ty (.string ⟨x.toArray⟩) (.string ⟨y.toArray⟩)).run P w = .ok e w ∧ VR forb w φ z e := by
  cases op <;> simp [strV] at h
  · obtain ⟨h1, rfl⟩ := h
    refine ⟨_, ?_, .str⟩
    have h2 : ¬ (((⟨x.toArray⟩ : ByteArray).size + (⟨y.toArray⟩ : ByteArray).size : Nat) : Int) > IntKind.i64.max := by
      show ¬ ((x.toArray.size + y.toArray.size : Nat) : Int) > IntKind.i64.max
      simp [IntKind.max, IntKind.signed, IntKind.bits]; omega
    simp only [Go.binOp, Op.stringOp, h2, if_false]
    have h3 : (⟨x.toArray⟩ : ByteArray) ++ ⟨y.toArray⟩ = ⟨(x ++ y).toArray⟩ := by
      apply ByteArray.ext; simp [ByteArray.data_append]
    rw [h3]; rfl
  · subst h; exact ⟨_, by simp [Go.binOp, Op.stringOp], .bool⟩
  · subst h; exact ⟨_, by simp [Go.binOp, Op.stringOp, bne], .bool⟩
  · subst h; exact ⟨_, by simp [Go.binOp, Op.stringOp], .bool⟩

theorem cmp_ptr {ty : TypeId} (h : cmpT P ty = .ptr) : ∃ e, P.underlying ty = some (.pointer e) := by
  unfold cmpT at h
  split at h <;> first | (split at h <;> cases h; done) | exact ⟨_, by assumption⟩ | cases h
theorem cmp_slice {ty : TypeId} (h : cmpT P ty = .slice) : ∃ e, P.underlying ty = some (.slice e) := by
  unfold cmpT at h
  split at h <;> first | (split at h <;> cases h; done) | exact ⟨_, by assumption⟩ | cases h
theorem cmp_func {ty : TypeId} (h : cmpT P ty = .func) : ∃ a b c, P.underlying ty = some (.func a b c) := by
  unfold cmpT at h
  split at h <;> first | (split at h <;> cases h; done) | exact ⟨_, _, _, by assumption⟩ | cases h

theorem eq_ptr {ty e : TypeId} (hu : P.underlying ty = some (.pointer e)) (p q : Option Addr) (h : p = none ∨ q = none) : (Op.equal ty (.pointer p) (.pointer q)).run P w = .ok (p.isNone && q.isNone) w := by
  unfold Op.equal Op.maxDepth Op.equalIn
  simp only [Sem.run_bind, run_underlying hu, Result.andThen_ok]
  rcases h with rfl | rfl
  · cases q <;> rfl
  · cases p <;> rfl
theorem eq_slice {ty e : TypeId} (hu : P.underlying ty = some (.slice e)) (p q : Option Addr) (m n m' n' : Nat) (h : p = none ∨ q = none) : (Op.equal ty (.slice p m n) (.slice q m' n')).run P w = .ok (p.isNone && q.isNone) w := by
  unfold Op.equal Op.maxDepth Op.equalIn
  simp only [Sem.run_bind, run_underlying hu, Result.andThen_ok]
  rcases h with rfl | rfl
  · cases q <;> rfl
  · cases p <;> rfl
theorem eq_func {ty : TypeId} {a b c} (hu : P.underlying ty = some (.func a b c)) : (Op.equal ty .nilFunc .nilFunc).run P w = .ok true w ∧ (∀ f x y, (Op.equal ty .nilFunc (.func f x y)).run P w = .ok false w) ∧ (∀ f x y, (Op.equal ty (.func f x y) .nilFunc).run P w = .ok false w) := by
  unfold Op.equal Op.maxDepth Op.equalIn
  simp only [Sem.run_bind, run_underlying hu, Result.andThen_ok]
  exact ⟨rfl, fun _ _ _ => rfl, fun _ _ _ => rfl⟩

set_option maxHeartbeats 2000000 in
theorem nil_run {op : BinOp} {cmp : Cmp} {ty : TypeId} {u v : V} {c d : Value} {p q : Bool} (hk : cmpT P ty = cmp) (h1 : VR forb w φ u c) (h2 : VR forb w φ v d) (ha : isNil cmp u = some p) (hb : isNil cmp v = some q) (hab : (p || q) = true) (x y : Operand) :
    (eqGuard op ty x y c d).run P w = .ok () w ∧ (Op.equal ty c d).run P w = .ok (p && q) w ∧ (op = .eql → (Go.binOp op ty c d) = (do pure (.bool (← Op.equal ty c d)))) ∧ (op = .neq → (Go.binOp op ty c d) = (do pure (.bool (!(← Op.equal ty c d))))) := by
  cases cmp
  case no => cases u <;> simp [isNil] at ha
  case bool => cases u <;> simp [isNil] at ha
  case flat => cases u <;> simp [isNil] at ha
  case iface =>
    exfalso
    unfold cmpT at hk
    split at hk <;> first | (split at hk <;> cases hk; done) | cases hk
  case ptr =>
    obtain ⟨e, hu⟩ := cmp_ptr hk
    cases u <;> simp [isNil] at ha <;> subst ha <;> cases v <;> simp [isNil] at hb <;> subst hb <;> simp at hab <;> cases h1 <;> cases h2 <;>
      exact ⟨by cases op <;> rfl, by first | (rw [eq_ptr hu _ _ (by simp)]; rfl) | (rw [eq_slice hu _ _ _ _ _ _ (by simp)]; rfl) | exact (eq_func hu).1 | exact (eq_func hu).2.1 _ _ _ | exact (eq_func hu).2.2 _ _ _, by rintro rfl; rfl, by rintro rfl; rfl⟩
  case slice =>
    obtain ⟨e, hu⟩ := cmp_slice hk
    cases u <;> simp [isNil] at ha <;> subst ha <;> cases v <;> simp [isNil] at hb <;> subst hb <;> simp at hab <;> cases h1 <;> cases h2 <;>
      exact ⟨by cases op <;> rfl, by first | (rw [eq_ptr hu _ _ (by simp)]; rfl) | (rw [eq_slice hu _ _ _ _ _ _ (by simp)]; rfl) | exact (eq_func hu).1 | exact (eq_func hu).2.1 _ _ _ | exact (eq_func hu).2.2 _ _ _, by rintro rfl; rfl, by rintro rfl; rfl⟩
  case func =>
    obtain ⟨e, e', e'', hu⟩ := cmp_func hk
    cases u <;> simp [isNil] at ha <;> subst ha <;> cases v <;> simp [isNil] at hb <;> subst hb <;> simp at hab <;> cases h1 <;> cases h2 <;>
      exact ⟨by cases op <;> rfl, by first | (rw [eq_ptr hu _ _ (by simp)]; rfl) | (rw [eq_slice hu _ _ _ _ _ _ (by simp)]; rfl) | exact (eq_func hu).1 | exact (eq_func hu).2.1 _ _ _ | exact (eq_func hu).2.2 _ _ _, by rintro rfl; rfl, by rintro rfl; rfl⟩

theorem nil_ok {op : BinOp} {ty : TypeId} {u v z : V} {c d : Value} (hz : nilV op (cmpT P ty) u v = some z) (h1 : VR forb w φ u c) (h2 : VR forb w φ v d) (x y : Operand) :
    ∃ e, ((eqGuard op ty x y c d).run P w = .ok () w) ∧ (Go.binOp op ty c d).run P w = .ok e w ∧ VR forb w φ z e := by
  unfold nilV at hz
  split at hz
  · rename_i a b ha hb
    split at hz
    · rename_i hab
      obtain ⟨k1, k2, k3, k4⟩ := nil_run (P := P) (op := op) rfl h1 h2 ha hb hab x y
      rcases eqOp_ok hz with ⟨rfl, rfl⟩ | ⟨rfl, rfl⟩
      · exact ⟨_, k1, by rw [k3 rfl]; simp [k2], .bool⟩
      · exact ⟨_, k1, by rw [k4 rfl]; simp [k2], .bool⟩
    · cases hz
  · cases hz

theorem op_bin_ok (ht : Tm G forb φ w t a) (hR : Rel forb φ D base h w) {op : BinOp} {ty ty' : TypeId} {x y : Operand} {dx dy : Opd} (ho : o.op = .binOp op ty x y ty') (hx : opd x = some dx) (hy : opd y = some dy) {r : Res} (hr : op_bin G t op (cmpT P ty) dx dy h = some r) : Goes P o a w (Post forb φ D base h w r) := by
  unfold op_bin at hr
  split at hr
  · rename_i u v hu hv
    have h1 := ev_ok ht hx hu
    have h2 := ev_ok ht hy hv
    obtain ⟨z, hz, rfl⟩ := one_some hr
    have hrun := run_bin (P := P) (w := w) (a := a) ho
    generalize he1 : a.eval x = c at h1 hrun
    generalize he2 : a.eval y = d at h2 hrun
    have key : ∃ e, ((eqGuard op ty x y c d).run P w = .ok () w) ∧ (Go.binOp op ty c d).run P w = .ok e w ∧ VR forb w φ z e := by
      unfold binV at hz
      split at hz
      · cases h1; cases h2
        obtain ⟨h3, h4⟩ := intV_ok P w ty hz
        refine ⟨_, by cases op <;> simp [eqGuard], h3, ?_⟩
        rcases h4 with ⟨n, rfl⟩ | ⟨b, rfl⟩
        · exact .int
        · exact .bool
      · cases h1; cases h2
        obtain ⟨e, h3, h4⟩ := bin_str (P := P) (w := w) (forb := forb) (φ := φ) hz ty
        exact ⟨e, by cases op <;> simp [eqGuard], h3, h4⟩
      · cases h1; cases h2
        unfold boolV at hz
        split at hz
        · rename_i hk
          have hu : P.underlying ty = some .bool := by
            unfold cmpT at hk
            split at hk <;> first | (split at hk <;> cases hk; done) | assumption | cases hk
          have he := fun a b => run_equalIn_bool' (P := P) w 9999 ty a b hu
          rcases eqOp_ok hz with ⟨rfl, rfl⟩ | ⟨rfl, rfl⟩
          · exact ⟨_, by simp [eqGuard], by simp [Go.binOp, Op.equal, Op.maxDepth, he], .bool⟩
          · exact ⟨_, by simp [eqGuard], by simp [Go.binOp, Op.equal, Op.maxDepth, he], .bool⟩
        · cases hz
      · rename_i xs ys
        unfold aggV at hz
        split at hz
        · rename_i ks hk
          split at hz
          · rename_i b hb
            have hf : flatT P ty = some ks := by
              unfold cmpT at hk
              split at hk
              · split at hk
                · cases hk; assumption
                · cases hk
              all_goals cases hk
            obtain ⟨f1, f2, f3, f4⟩ := flatT_ok hf
            cases h1
            case agg cs hl hc hv1 =>
            cases h2
            case agg ds hl' hc' hv2 =>
              have he := eqCs_ok (P := P) (forb := forb) (φ := φ) (w := w) 9998 ⟨cs⟩ ⟨ds⟩ f4 hb (fun i z hz => by
                  have hi : i < cs.length := by rw [hl]; exact (List.getElem?_eq_some_iff.1 hz).1
                  exact ⟨cs[i], by simp [hi], hv1 i z _ hz (by simp [hi])⟩) (fun i z hz => by
                  have hi : i < ds.length := by rw [hl']; exact (List.getElem?_eq_some_iff.1 hz).1
                  exact ⟨ds[i], by simp [hi], hv2 i z _ hz (by simp [hi])⟩)
              have he' := (run_equalIn_struct w 9999 ty ⟨cs⟩ ⟨ds⟩ f1 f2).trans he
              rcases eqOp_ok hz with ⟨rfl, rfl⟩ | ⟨rfl, rfl⟩
              · exact ⟨_, run_eqGuard_agg w _ ty x y _ _ f3, by rw [run_eql_struct, he']; rfl, .bool⟩
              · exact ⟨_, run_eqGuard_agg w _ ty x y _ _ f3, by rw [run_neq_struct, he']; rfl, .bool⟩
          · cases hz
        · cases hz
      · exact nil_ok hz h1 h2 x y
    obtain ⟨e, h3, h4, h5⟩ := key
    exact goes_same hR (by rw [hrun, h3]; simp [h4]) h5
  · cases hr
/-- against the literal nil of an interface type -/
theorem op_binI_ok (ht : Tm G forb φ w t a) (hR : Rel forb φ D base h w) {op : BinOp} {ty ty' : TypeId} {x : Operand} {dx : Opd} {ms : Array (String × TypeId)} (ho : o.op = .binOp op ty x (.const .nilIface) ty') (hu : P.underlying ty = some (.interface ms)) (hx : opd x = some dx) {r : Res} (hr : op_bin G t op .iface dx (.c .nilm) h = some r) : Goes P o a w (Post forb φ D base h w r) := by
  unfold op_bin at hr
  simp only [ev] at hr
  split at hr
  · rename_i u v hu1 hv1
    cases hv1
    have h1 := ev_ok ht hx hu1
    obtain ⟨z, hz, rfl⟩ := one_some hr
    have hrun := run_bin (P := P) (w := w) (a := a) ho
    generalize he1 : a.eval x = c at h1 hrun
    have he2 : a.eval (.const .nilIface) = .nilIface := rfl
    rw [he2] at hrun
    have hz2 : nilV op .iface u .nilm = some z := by
      cases u <;> first | exact hz | (simp only [binV] at hz; exact hz)
    unfold nilV at hz2
    have hun : u = .nilm := by
      cases u <;> simp [isNil] at hz2 ⊢
    subst hun
    simp only [isNil, Bool.or_self, if_true, Bool.and_self] at hz2
    cases h1
    have heq : (Op.equal ty .nilIface .nilIface).run P w = .ok true w := by
      unfold Op.equal Op.maxDepth Op.equalIn
      simp only [Sem.run_bind, run_underlying hu, Result.andThen_ok]
      rfl
    have hg : ∀ (k : op = .eql ∨ op = .neq), (eqGuard op ty x (.const .nilIface) .nilIface .nilIface).run P w = .ok () w := by
      intro k
      rcases k with rfl | rfl <;> cases x <;> rfl
    rcases eqOp_ok hz2 with ⟨rfl, rfl⟩ | ⟨rfl, rfl⟩
    · refine goes_same hR (c := .bool true) ?_ .bool
      rw [hrun, hg (.inl rfl)]
      have : (Go.binOp .eql ty .nilIface .nilIface) = (do pure (.bool (← Op.equal ty .nilIface .nilIface))) := rfl
      simp [this, heq]
    · refine goes_same hR (c := .bool (!true)) ?_ .bool
      rw [hrun, hg (.inr rfl)]
      have : (Go.binOp .neq ty .nilIface .nilIface) = (do pure (.bool (!(← Op.equal ty .nilIface .nilIface)))) := rfl
      simp [this, heq]
  · cases hr
end Go.Mini

namespace Go.Mini
set_option linter.unusedVariables false
set_option linter.unusedSimpArgs false
variable {P : Program} {G : Nat → Option V} {forb : Nat → Prop} {φ : Phi} {w : World} {t : List V} {a : Act} {D : Nat → Prop} {base : Nat} {h : H} {o : Oper}

theorem add_add (a : Addr) (m n : Nat) : (a.add m).add n = a.add (m + n) := by
  unfold Addr.add
  by_cases h1 : m = 0 <;> by_cases h2 : n = 0 <;> simp [h1, h2, Nat.add_assoc]
theorem at_add (l : Loc) (i o n : Nat) : (l.at i o).add n = l.at i (o + n) := by
  unfold Addr.add Loc.at
  by_cases h : n = 0 <;> simp [h, Nat.add_assoc]

theorem bound_ok (ht : Tm G forb φ w t a) {x : Option Operand} {d : Option Opd} {df n : Nat} (hx : opdO x = some d) (hn : boundOf G t df d = some n) :
    (x.map a.eval = none ∧ d = none ∧ n = df) ∨ ∃ k i, x.map a.eval = some (.int k i) ∧ 0 ≤ i ∧ n = i.toNat := by
  unfold opdO at hx
  split at hx
  · cases hx; simp [boundOf] at hn; exact .inl ⟨rfl, rfl, hn.symm⟩
  · rename_i y
    rcases hy : opd y with _ | e
    · simp [hy] at hx
    · simp [hy] at hx; subst hx
      simp only [boundOf] at hn
      split at hn
      · rename_i k i hv
        have h1 := ev_ok ht hy hv
        unfold asNat at hn
        split at hn
        · cases hn
          generalize he : a.eval y = c at h1
          cases h1
          exact .inr ⟨k, i, by simp [he], by assumption, rfl⟩
        · cases hn
      · cases hn

theorem run_bound {k : IntKind} {i : Int} {y : Nat} {code : BoundsCode} (h0 : 0 ≤ i) (h1 : i.toNat ≤ y) : (Instr.sliceBound (.int k i) y code).run P w = .ok i.toNat w := by
  have : 0 ≤ i ∧ i ≤ (y : Int) := ⟨h0, by omega⟩
  simp [Instr.sliceBound, asIntOf, this]

theorem op_cutS_ok (ht : Tm G forb φ w t a) (hR : Rel forb φ D base h w) {ty : TypeId} {x : Operand} {lo hi : Option Operand} {dx : Opd} {dl dh : Option Opd} (ho : o.op = .slice ty x lo hi none) (hu : P.underlying ty = some .string) (hx : opd x = some dx) (hl : opdO lo = some dl) (hh : opdO hi = some dh) {r : Res} (hr : op_cutS G t dx dl dh h = some r) : Goes P o a w (Post forb φ D base h w r) := by
  unfold op_cutS at hr
  split at hr
  · rename_i s hs
    have h1 := ev_ok ht hx hs
    split at hr
    · rename_i l u hl1 hh1
      split at hr
      · rename_i hle
        cases hr
        have b1 := bound_ok ht hl hl1
        have b2 := bound_ok ht hh hh1
        generalize he : a.eval x = c at h1
        cases h1
        refine goes_same hR (c := .string ⟨((s.take u).drop l).toArray⟩) ?_ .str
        have hsz : (⟨s.toArray⟩ : ByteArray).size = s.length := by show s.toArray.size = _; simp
        have hex : (⟨s.toArray⟩ : ByteArray).extract l u = ⟨((s.take u).drop l).toArray⟩ := by
          rw [ByteArray.extract_mk, List.take_drop, Nat.add_sub_cancel' hle.1]
        unfold execOp; rw [ho]
        have hb : (Instr.sliceBounds false (⟨s.toArray⟩ : ByteArray).size (⟨s.toArray⟩ : ByteArray).size (lo.map a.eval) (hi.map a.eval) none).run P w = .ok (l, u, s.length) w := by
          rw [hsz]
          unfold Instr.sliceBounds
          rcases b1 with ⟨b1, _, rfl⟩ | ⟨k, i, b1, b1', rfl⟩ <;> rcases b2 with ⟨b2, _, rfl⟩ | ⟨k', i', b2, b2', rfl⟩
          · simp [b1, b2]
          · simp [b1, b2, run_bound b2' hle.2]
          · simp [b1, b2, run_bound b1' hle.1]
          · simp [b1, b2, run_bound b2' hle.2, run_bound b1' hle.1]
        simp only [Option.map_none, Instr.sliceAt, Instr.slice, Sem.run_bind, run_underlying hu, Result.andThen_ok, he, Option.isSome_none, Bool.false_eq_true, if_false, hb, hex, Sem.run_pure]
      · cases hr
    · cases hr
  · cases hr

theorem run_sizeOf {e : TypeId} {s : Nat} (h : sizeT P e = some s) : (sizeOf e).run P w = .ok s w := by
  unfold sizeT at h
  rcases hi : P.info? e with _ | i
  · simp [hi] at h
  · simp [hi] at h
    subst h
    simp [sizeOf, typeInfo, hi, run_program]

/-- a bound, or what stands for it -/
def Bd (x : Option Value) (df n : Nat) : Prop := (x = none ∧ n = df) ∨ ∃ k i, x = some (.int k i) ∧ 0 ≤ i ∧ n = i.toNat
theorem bd_ok (ht : Tm G forb φ w t a) {x : Option Operand} {d : Option Opd} {df n : Nat} (hx : opdO x = some d) (hn : boundOf G t df d = some n) : Bd (x.map a.eval) df n := by
  rcases bound_ok ht hx hn with ⟨h1, _, h2⟩ | ⟨k, i, h⟩
  · exact .inl ⟨h1, h2⟩
  · exact .inr ⟨k, i, h⟩

theorem run_bounds {s : Bool} {len cap l u m : Nat} {lo hi mx : Option Value} (b1 : Bd lo 0 l) (b2 : Bd hi len u) (b3 : Bd mx cap m) (h1 : l ≤ u) (h2 : u ≤ m) (h3 : m ≤ cap) (hm : mx.isSome = true → hi.isSome = true) :
    (Instr.sliceBounds s len cap lo hi mx).run P w = .ok (l, u, m) w := by
  unfold Instr.sliceBounds
  rcases b1 with ⟨rfl, rfl⟩ | ⟨k1, i1, rfl, p1, rfl⟩ <;> rcases b2 with ⟨rfl, rfl⟩ | ⟨k2, i2, rfl, p2, rfl⟩ <;> rcases b3 with ⟨rfl, rfl⟩ | ⟨k3, i3, rfl, p3, rfl⟩ <;>
    first
      | (simp at hm; done)
      | simp [run_bound, *]

set_option maxHeartbeats 1000000 in
theorem op_cut_ok (ht : Tm G forb φ w t a) (hR : Rel forb φ D base h w) {ty el : TypeId} {sz : Nat} {x : Operand} {lo hi mx : Option Operand} {dx : Opd} {dl dh dm : Option Opd} (ho : o.op = .slice ty x lo hi mx) (hu : P.underlying ty = some (.slice el)) (hsz : sizeT P el = some sz) (hx : opd x = some dx) (hl : opdO lo = some dl) (hh : opdO hi = some dh) (hm : opdO mx = some dm) (hmh : (dm.isSome && dh.isNone) = false) {r : Res} (hr : op_cut G t sz dx dl dh dm h = some r) : Goes P o a w (Post forb φ D base h w r) := by
  have hmh' : (mx.map a.eval).isSome = true → (hi.map a.eval).isSome = true := by
    intro h1
    cases mx with
    | none => simp at h1
    | some m => cases hi with
      | some _ => rfl
      | none =>
        simp only [opdO] at hh hm
        cases hh
        rcases hq : opd m with _ | q
        · simp [hq] at hm
        · simp [hq] at hm; subst hm; simp at hmh
  unfold op_cut at hr
  split at hr
  · rename_i v hv
    have h1 := ev_ok ht hx hv
    obtain ⟨u, hu1, rfl⟩ := one_some hr
    have hrun : ∀ A n cap, a.eval x = .slice A n cap → ∀ l u m, Bd (lo.map a.eval) 0 l → Bd (hi.map a.eval) n u → Bd (mx.map a.eval) cap m → l ≤ u → u ≤ m → m ≤ cap →
        (execOp a.eval o).run P w = .ok (.value (.slice (if m = l then A else A.map (·.add (l * sz))) (u - l) (m - l))) w := by
      intro A n cap hA l u m c1 c2 c3 c4 c5 c6
      unfold execOp; rw [ho]
      simp only [Instr.sliceAt, Instr.slice, Sem.run_bind, run_underlying hu, Result.andThen_ok, hA, run_bounds c1 c2 c3 c4 c5 c6 hmh', run_sizeOf hsz, Sem.run_pure]
    unfold cutV at hu1
    split at hu1
    · split at hu1
      · rename_i e1 e2 e3
        cases hu1
        generalize he : a.eval x = c at h1
        cases h1
        refine goes_same hR (c := .slice none 0 0) ?_ .nils
        rw [hrun none 0 0 he 0 0 0 (bd_ok ht hl e1) (bd_ok ht hh e2) (bd_ok ht hm e3) (by omega) (by omega) (by omega)]
        simp
      · cases hu1
    · rename_i sz' els
      split at hu1
      · rename_i l u' e1 e2
        split at hu1
        · rename_i hle
          obtain ⟨hle1, hle2, rfl⟩ := hle
          cases hu1
          obtain ⟨A, cap, he, hq1, hq2, hq3, hq4, hq5⟩ := h1.rs_inv
          have hmx : mx.map a.eval = none := by
            cases mx with
            | none => rfl
            | some m => simp only [opdO] at hm; rcases hq : opd m with _ | q <;> simp [hq] at hm
          have hr2 := hrun (some A) els.length cap he l u' cap (bd_ok ht hl e1) (bd_ok ht hh e2) (.inl ⟨hmx, rfl⟩) hle1 (by omega) (by omega)
          refine goes_same hR hr2 ?_
          have hlen : ((els.take u').drop l).length = u' - l := by simp; omega
          have hget : ∀ (i : Nat) el, ((els.take u').drop l)[i]? = some el → els[l + i]? = some el := by
            intro i el hi'
            rw [List.getElem?_drop, List.getElem?_take] at hi'
            split at hi'
            · exact hi'
            · cases hi'
          by_cases hc : cap = l
          · have hel : (els.take u').drop l = [] := by apply List.eq_nil_of_length_eq_zero; omega
            rw [if_pos hc, hel]
            have : u' - l = ([] : List (List V)).length := by simp; omega
            rw [this]
            exact .rs (by simp) (by simp) (by omega) (by simp) (by simp)
          · rw [if_neg hc]
            rw [← hlen]
            refine .rs (fun el hel => hq1 el (List.mem_of_mem_take (List.mem_of_mem_drop hel))) (by omega) (by omega) (fun i el' oo x' hi' ho' => ?_) (fun i el' oo x' c' hi' ho' hc' => ?_)
            · have := hq4 (l + i) el' oo x' (hget i el' hi') ho'
              simp only [Option.map, add_block, add_add]
              rwa [show (l + i) * sz' + oo = l * sz' + (i * sz' + oo) by rw [Nat.add_mul]; omega] at this
            · refine hq5 (l + i) el' oo x' c' (hget i el' hi') ho' ?_
              rw [add_add] at hc'
              rwa [show (l + i) * sz' + oo = l * sz' + (i * sz' + oo) by rw [Nat.add_mul]; omega]
        · cases hu1
      · cases hu1
    · rename_i b vv sz' i n clip
      split at hu1
      · rename_i l u' e1 e2
        split at hu1
        · rename_i hle
          obtain ⟨hle1, hle2, rfl⟩ := hle
          obtain ⟨L, A, cap, he, hφ, hq1, hq2, hq3, hq4, hq5, hq6, hq7⟩ := h1.os_inv
          have hos : ∀ m, l ≤ u' → u' ≤ m → m ≤ cap → ∀ cl : Bool, (cl = true → m = u') → VR forb w φ (.os b vv sz' (i + l) (u' - l) cl) (.slice (if m = l then some A else (some A).map (·.add (l * sz'))) (u' - l) (m - l)) := by
            intro m m1 m2 m3 cl hcl
            by_cases hc : m = l
            · rw [if_pos hc]
              refine .os hφ hq1 (by omega) (by omega) (by omega) (by omega) (fun hh => by have := hcl hh; omega) (fun hh => by omega)
            · rw [if_neg hc]
              obtain ⟨ha, cells, t', fr, h5, h6⟩ := hq7 (by omega)
              refine .os hφ hq1 (by omega) (by omega) (by omega) (by omega) (fun hh => by have := hcl hh; omega) (fun hh => ⟨?_, cells, t', fr, h5, ?_⟩)
              · rw [ha]
                simp only [Loc.at, Addr.add, hq1]
                have : i + l - L.lo = (i - L.lo) + l := by omega
                rw [this, Nat.add_mul]
                split
                · rename_i hz; simp [hz]
                · simp; omega
              · refine Nat.le_trans ?_ h6
                have : i + l - L.lo + (m - l) ≤ i - L.lo + cap := by omega
                exact Nat.add_le_add_left (Nat.mul_le_mul_right _ this) _
          split at hu1
          · cases hu1
            have hmx : mx.map a.eval = none := by
              cases mx with
              | none => rfl
              | some m => simp only [opdO] at hm; rcases hq : opd m with _ | q <;> simp [hq] at hm
            have hr2 := hrun (some A) n cap he l u' cap (bd_ok ht hl e1) (bd_ok ht hh e2) (.inl ⟨hmx, rfl⟩) hle1 (by omega) (by omega)
            refine goes_same hR hr2 (hos cap hle1 (by omega) (by omega) _ fun hh => ?_)
            simp at hh
            have := hq6 hh.1
            omega
          · split at hu1
            · rename_i m' e3
              split at hu1
              · rename_i hmu
                cases hu1
                have hbm : Bd (mx.map a.eval) cap m' := by
                  cases mx with
                  | none => simp [opdO] at hm
                  | some m =>
                    rcases bd_ok ht hm e3 with ⟨h1, h2⟩ | h1
                    · simp at h1
                    · exact .inr h1
                have hr2 := hrun (some A) n cap he l u' m' (bd_ok ht hl e1) (bd_ok ht hh e2) hbm hle1 (by omega) (by omega)
                exact goes_same hR hr2 (hos m' hle1 (by omega) (by omega) _ fun _ => by omega)
              · cases hu1
            · cases hu1
        · cases hu1
      · cases hu1
    · cases hu1
  · cases hr
end Go.Mini

namespace Go.Mini
set_option linter.unusedVariables false
set_option linter.unusedSimpArgs false
variable {P : Program} {G : Nat → Option V} {forb : Nat → Prop} {φ : Phi} {w : World} {t : List V} {a : Act} {D : Nat → Prop} {base : Nat} {h : H} {o : Oper}

theorem aggN_some {ty : TypeId} {n : Nat} (h : aggN P ty = some (some n)) : (∀ w, (isAgg ty).run P w = .ok true w) ∧ (∀ w, (sizeOf ty).run P w = .ok n w) := by
  unfold aggN at h
  split at h
  · rename_i n' h1 h2
    cases h
    refine ⟨fun w => ?_, fun w => run_sizeOf h2⟩
    unfold isAggT at h1
    split at h1
    · rename_i hu; simp [isAgg, run_underlying hu]
    · rename_i hu; simp [isAgg, run_underlying hu]
    · cases h1
    · cases h1
  · cases h
  · cases h
theorem aggN_none {ty : TypeId} (h : aggN P ty = some none) : (∀ w, (isAgg ty).run P w = .ok false w) ∧ ∃ n, sizeT P ty = some n := by
  unfold aggN at h
  split at h
  · cases h
  · rename_i h1 h2
    refine ⟨fun w => ?_, _, h2⟩
    unfold isAggT at h1
    split at h1
    · cases h1
    · cases h1
    · rename_i d hs ha hu
      cases d <;> first | exact (hs _ rfl).elim | exact (ha _ _ rfl).elim | simp [isAgg, run_underlying hu]
    · cases h1
  · cases h

/-- cells of the small machine and the model's -/
def CR (forb : Nat → Prop) (w : World) (φ : Phi) (vs : List V) (cs : Array Value) : Prop :=
  cs.size = vs.length ∧ ∀ (i : Nat) y, vs[i]? = some y → y.isCell = true ∧ ∃ c, cs[i]? = some c ∧ VR forb w φ y c

theorem loadC_ok {agg : Option Nat} {cells : List V} {v : V} (h : loadC agg cells = some v) : (∃ n, agg = some n ∧ n ≤ cells.length ∧ v = .agg (cells.take n)) ∨ (agg = none ∧ cells[0]? = some v) := by
  unfold loadC at h
  split at h
  · split at h
    · cases h; exact .inl ⟨_, rfl, by assumption, rfl⟩
    · cases h
  · exact .inr ⟨rfl, by rw [← List.head?_eq_getElem?]; exact h⟩

theorem part_ok {ty : TypeId} {agg : Option Nat} (ha : aggN P ty = some agg) {vs : List V} {cs : Array Value} {off : Nat} {v : V} (hc : CR forb w φ vs cs) (h : loadC agg (vs.drop off) = some v) :
    ∃ c, (part ty cs off).run P w = .ok c w ∧ VR forb w φ v c := by
  rcases loadC_ok h with ⟨n, rfl, hn, rfl⟩ | ⟨rfl, hv⟩
  · obtain ⟨h1, h2⟩ := aggN_some ha
    refine ⟨.agg (cs.extract off (off + n)), by simp [part, h1, h2], ?_⟩
    have hlen : (vs.drop off).length = vs.length - off := by simp
    have : cs.extract off (off + n) = ⟨(cs.toList.drop off).take n⟩ := by
      apply Array.ext'; simp [Array.toList_extract]
    rw [this]
    refine .agg (by simp [hc.1]) (fun x hx => ?_) (fun i x c hx hcx => ?_)
    · obtain ⟨i, hi⟩ := List.getElem?_of_mem hx
      rw [List.getElem?_take] at hi
      split at hi
      · rw [List.getElem?_drop] at hi; exact (hc.2 _ _ hi).1
      · cases hi
    · rw [List.getElem?_take] at hx hcx
      split at hx
      · rename_i hlt
        rw [if_pos hlt] at hcx
        rw [List.getElem?_drop] at hx hcx
        obtain ⟨_, c', h3, h4⟩ := hc.2 _ _ hx
        rw [← Array.getElem?_toList] at h3
        rw [h3] at hcx; cases hcx; exact h4
      · cases hx
  · obtain ⟨h1, _⟩ := aggN_none ha
    rw [List.getElem?_drop] at hv
    obtain ⟨_, c, h3, h4⟩ := hc.2 _ _ hv
    refine ⟨c, ?_, h4⟩
    simp only [Nat.add_zero] at h3
    simp [part, h1, h3]

theorem agg_cr {cs : List V} {c : Value} (h : VR forb w φ (.agg cs) c) : ∃ vs, c = .agg vs ∧ CR forb w φ cs vs := by
  obtain ⟨vs, rfl, h1, h2, h3⟩ := h.agg_inv
  refine ⟨_, rfl, by simpa using h1, fun i y hy => ⟨h2 y (List.mem_of_getElem? hy), ?_⟩⟩
  have hi : i < vs.length := by rw [h1]; exact (List.getElem?_eq_some_iff.1 hy).1
  exact ⟨vs[i], by simp [hi], h3 i y _ hy (by simp [hi])⟩

theorem cr_agg {cs : List V} {vs : Array Value} (h : CR forb w φ cs vs) : VR forb w φ (.agg cs) (.agg vs) := by
  have : vs = ⟨vs.toList⟩ := rfl
  rw [this]
  refine .agg (by simpa using h.1) (fun x hx => ?_) (fun i x c hx hc => ?_)
  · obtain ⟨i, hi⟩ := List.getElem?_of_mem hx
    exact (h.2 i x hi).1
  · obtain ⟨_, c', h3, h4⟩ := h.2 i x hx
    rw [← Array.getElem?_toList] at h3
    rw [h3] at hc; cases hc; exact h4

theorem op_field_ok (ht : Tm G forb φ w t a) (hR : Rel forb φ D base h w) {ty : TypeId} {x : Operand} {f : Nat} {fs : Array Field} {fd : Field} {agg : Option Nat} {dx : Opd} (ho : o.op = .field ty x f) (hu : P.underlying ty = some (.struct fs)) (hf : fs[f]? = some fd) (ha : aggN P fd.type = some agg) (hx : opd x = some dx) {r : Res} (hr : op_field G t agg fd.offset dx h = some r) : Goes P o a w (Post forb φ D base h w r) := by
  unfold op_field at hr
  split at hr
  · rename_i cs hb
    have h1 := ev_ok ht hx hb
    obtain ⟨u, hu1, rfl⟩ := one_some hr
    obtain ⟨vs, he, hc⟩ := agg_cr h1
    obtain ⟨c, h2, h3⟩ := part_ok ha hc hu1
    refine goes_same hR (c := c) ?_ h3
    unfold execOp; rw [ho]
    simp [Instr.field, run_underlying hu, hf, he, asAgg, h2]
  · cases hr

theorem op_faddr_ok (ht : Tm G forb φ w t a) (hR : Rel forb φ D base h w) {ty : TypeId} {x : Operand} {f : Nat} {fs : Array Field} {fd : Field} {dx : Opd} (ho : o.op = .fieldAddr ty x f) (hu : P.underlying ty = some (.struct fs)) (hf : fs[f]? = some fd) {sz : Nat} (hsz : sizeT P fd.type = some sz) (hs0 : sz ≠ 0) (hx : opd x = some dx) {r : Res} (hr : op_faddr G t fd.offset dx h = some r) : Goes P o a w (Post forb φ D base h w r) := by
  unfold op_faddr at hr
  split at hr <;> cases hr
  · rename_i b v i oo hb
    have h1 := ev_ok ht hx hb
    obtain ⟨l, he, hφ, h2, h3⟩ := h1.ptr_inv
    refine goes_same hR (c := .pointer (some (l.at i (oo + fd.offset)))) ?_ (.ptr hφ h2 h3)
    unfold execOp; rw [ho]
    simp [Instr.fieldAt, run_underlying hu, hf, he, Instr.sureAddr, fieldPlace, run_sizeOf hsz, hs0, at_add]
  · rename_i cs hb
    have h1 := ev_ok ht hx hb
    obtain ⟨A, he, h2, h3⟩ := h1.rp_inv
    refine goes_same hR (c := .pointer (some (A.add fd.offset))) ?_ (.rp (fun o x hx => ?_) (fun o x c hx hc => ?_))
    · unfold execOp; rw [ho]
      simp [Instr.fieldAt, run_underlying hu, hf, he, Instr.sureAddr, fieldPlace, run_sizeOf hsz, hs0]
    · rw [List.getElem?_drop] at hx
      rw [add_block, add_add]
      exact h2 _ _ hx
    · rw [List.getElem?_drop] at hx
      rw [add_add] at hc
      exact h3 _ _ _ hx hc

theorem op_iaddr_ok (ht : Tm G forb φ w t a) (hR : Rel forb φ D base h w) {ty el : TypeId} {s : Nat} {x ix : Operand} {dx di : Opd} (ho : o.op = .indexAddr ty x ix) (hu : P.underlying ty = some (.slice el)) (hs : sizeT P el = some s) (hx : opd x = some dx) (hi : opd ix = some di) {r : Res} (hr : op_iaddr G t s dx di h = some r) : Goes P o a w (Post forb φ D base h w r) := by
  have hrun : ∀ A n cap k i, a.eval x = .slice (some A) n cap → a.eval ix = .int k i → 0 ≤ i → i < n → (execOp a.eval o).run P w = .ok (.value (.pointer (some (A.add (i.toNat * s))))) w := by
    intro A n cap k i h1 h2 h3 h4
    have h5 : 0 ≤ i ∧ i < (n : Int) := ⟨h3, h4⟩
    unfold execOp; rw [ho]
    simp [Instr.indexAt, h1, h2, asIntOf, run_underlying hu, run_sizeOf hs, h5]
  unfold op_iaddr at hr
  split at hr
  · rename_i sz els k n hb hc
    have h1 := ev_ok ht hx hb
    have h2 := ev_ok ht hi hc
    split at hr
    · rename_i hn
      obtain ⟨hn, rfl⟩ := hn
      split at hr
      · rename_i e hel
        cases hr
        obtain ⟨A, cap, he, q1, q2, q3, q4, q5⟩ := h1.rs_inv
        have hlt := (List.getElem?_eq_some_iff.1 hel).1
        have hi' : a.eval ix = .int k n := by generalize a.eval ix = c at h2; cases h2; rfl
        refine goes_same hR (hrun A _ cap k n he hi' hn (by omega)) (.rp (fun o x hx => ?_) (fun o x c hx hc => ?_))
        · rw [add_block, add_add]; exact q4 _ _ _ _ hel hx
        · rw [add_add] at hc; exact q5 _ _ _ _ _ hel hx hc
      · cases hr
    · cases hr
  · rename_i b v sz i m clip k n hb hc
    have h1 := ev_ok ht hx hb
    have h2 := ev_ok ht hi hc
    split at hr
    · rename_i hn
      obtain ⟨hn, hm, rfl⟩ := hn
      cases hr
      obtain ⟨L, A, cap, he, hφ, q1, q2, q3, q4, q5, q6, q7⟩ := h1.os_inv
      have hi' : a.eval ix = .int k n := by generalize a.eval ix = c at h2; cases h2; rfl
      obtain ⟨hA, _⟩ := q7 (by omega)
      have e : A.add (n.toNat * sz) = L.at (i + n.toNat) 0 := by
        rw [hA, at_add]
        simp only [Loc.at, q1, Nat.add_zero, Nat.zero_add]
        have : i + n.toNat - L.lo = (i - L.lo) + n.toNat := by omega
        rw [this, Nat.add_mul, Nat.add_assoc]
      refine goes_same hR (hrun A _ cap k n he hi' hn hm) ?_
      rw [e]
      exact .ptr hφ (by omega) (by omega)
    · cases hr
  · cases hr

theorem op_iaddrA_ok (ht : Tm G forb φ w t a) (hR : Rel forb φ D base h w) {ty el : TypeId} {len s : Nat} {x ix : Operand} {dx di : Opd} (ho : o.op = .indexAddr ty x ix) (hu : P.underlying ty = some (.array len el)) (hs : sizeT P el = some s) (hx : opd x = some dx) (hi : opd ix = some di) {r : Res} (hr : op_iaddrA G t len s dx di h = some r) : Goes P o a w (Post forb φ D base h w r) := by
  have hrun : ∀ A k i, a.eval x = .pointer (some A) → a.eval ix = .int k i → 0 ≤ i → i < len → (execOp a.eval o).run P w = .ok (.value (.pointer (some (A.add (i.toNat * s))))) w := by
    intro A k i h1 h2 h3 h4
    have h5 : 0 ≤ i ∧ i < (len : Int) := ⟨h3, h4⟩
    unfold execOp; rw [ho]
    simp [Instr.indexAt, Instr.sureAddr, h1, h2, asIntOf, run_underlying hu, run_sizeOf hs, h5]
  unfold op_iaddrA at hr
  split at hr
  · rename_i cells k n hb hc
    have h1 := ev_ok ht hx hb
    have h2 := ev_ok ht hi hc
    split at hr
    · rename_i hn
      cases hr
      obtain ⟨A, he, q4, q5⟩ := h1.rp_inv
      have hi' : a.eval ix = .int k n := by generalize a.eval ix = c at h2; cases h2; rfl
      refine goes_same hR (hrun A k n he hi' hn.1 hn.2) (.rp (fun o x hx => ?_) (fun o x c hx hc => ?_))
      · rw [List.getElem?_drop] at hx; rw [add_block, add_add]; exact q4 _ _ hx
      · rw [List.getElem?_drop] at hx; rw [add_add] at hc; exact q5 _ _ _ hx hc
    · cases hr
  · rename_i b v i oo k n hb hc
    have h1 := ev_ok ht hx hb
    have h2 := ev_ok ht hi hc
    split at hr
    · rename_i hn
      cases hr
      obtain ⟨L, he, hφ, q1, q2⟩ := h1.ptr_inv
      have hi' : a.eval ix = .int k n := by generalize a.eval ix = c at h2; cases h2; rfl
      refine goes_same hR (hrun _ k n he hi' hn.1 hn.2) ?_
      rw [at_add]
      exact .ptr hφ q1 q2
    · cases hr
  · cases hr

theorem op_mkfn_ok (ht : Tm G forb φ w t a) (hR : Rel forb φ D base h w) {f : FuncId} {first cap : Array Operand} {dc : List Opd} (ho : o.op = .makeFunc (.func f) first cap) (hf : first.toList = []) (hc : mapM? opd cap.toList = some dc) {r : Res} (hr : op_mkfn G t f dc h = some r) : Goes P o a w (Post forb φ D base h w r) := by
  unfold op_mkfn at hr
  split at hr
  · rename_i cs hb
    cases hr
    obtain ⟨h1, h2⟩ := evs_ok ht hc hb
    have hf' : first = #[] := by rw [← Array.toArray_toList (xs := first), hf]
    refine goes_same hR (c := .func (.func f) #[] ⟨cap.toList.map a.eval⟩) ?_ (.fn (by simp; exact h1.symm) fun i x c hx hcc => ?_)
    · unfold execOp; rw [ho, hf']
      simp [Instr.makeFunc]
      apply Array.ext'; simp
    · rw [List.getElem?_map] at hcc
      rcases hq : cap.toList[i]? with _ | y
      · rw [hq] at hcc; cases hcc
      · rw [hq] at hcc; cases hcc; exact h2 i x y hx hq
  · cases hr

theorem min_run {mx : Bool} : ∀ {rest : List V} {x n : Int} {cs : List Value}, minV mx x rest = some n → cs.length = rest.length → (∀ (i : Nat) v c, rest[i]? = some v → cs[i]? = some c → VR forb w φ v c) →
    (cs.foldlM (if mx then Builtin.max2 else Builtin.min2) (.int .i64 x)).run P w = .ok (.int .i64 n) w := by
  intro rest
  induction rest with
  | nil => intro x n cs h hl _; simp [minV] at h; subst h; cases cs <;> simp at hl ⊢
  | cons v rest ih =>
    intro x n cs h hl hv
    cases cs with
    | nil => simp at hl
    | cons c cs =>
      obtain ⟨y, rfl⟩ : ∃ y, v = .int .i64 y := by
        cases v <;> first | (rename_i k y; cases k <;> first | exact ⟨_, rfl⟩ | (simp [minV] at h; done)) | (simp [minV] at h; done)
      simp only [minV] at h
      have h1 := hv 0 _ c rfl rfl
      cases h1
      simp only [List.foldlM_cons, Sem.run_bind]
      have h2 : ((if mx then Builtin.max2 else Builtin.min2) (.int .i64 x) (.int .i64 y)).run P w = .ok (.int .i64 (if mx then (if x < y then y else x) else (if y < x then y else x))) w := by
        cases mx <;> simp [Builtin.min2, Builtin.max2]
      rw [h2]
      simp only [Result.andThen_ok]
      refine ih ?_ (by simpa using hl) (fun i v' c' hv' hc' => hv (i + 1) v' c' (by simpa using hv') (by simpa using hc'))
      rw [← h]
      cases mx <;> simp [ltF_eq, cond_eq_ite]

theorem call_builtin {c : Call} {b : Builtin} {xs : List Operand} (ho : o.op = .call c) (hc : c.callee = .builtin b) (has : c.args.toList = xs) :
    execOp a.eval o = invoke (.builtin b c.argTypes o.type (c.args.map fun | .const _ => true | _ => false)) ⟨xs.map a.eval⟩ := by
  have has' : c.args.map a.eval = ⟨xs.map a.eval⟩ := by apply Array.ext'; simp [has]
  unfold execOp; rw [ho]
  simp only [resolve, hc, has']
  rfl

theorem op_minmax_ok (ht : Tm G forb φ w t a) (hR : Rel forb φ D base h w) {c : Call} {mx : Bool} {dc : List Opd} (ho : o.op = .call c) (hc : c.callee = .builtin (if mx then .max else .min)) (has : mapM? opd c.args.toList = some dc) {r : Res} (hr : op_minmax G t mx dc h = some r) : Goes P o a w (Post forb φ D base h w r) := by
  unfold op_minmax at hr
  split at hr
  · rename_i x rest hb
    split at hr
    · rename_i n hn
      cases hr
      obtain ⟨h1, h2⟩ := evs_ok ht has hb
      refine goes_same hR (c := .int .i64 n) ?_ .int
      rw [call_builtin ho hc rfl]
      rcases he : c.args.toList with _ | ⟨y, ys⟩
      · rw [he] at h1; simp at h1
      · rw [he] at h1 h2
        have h3 := h2 0 _ y rfl rfl
        have hy : a.eval y = .int .i64 x := by generalize a.eval y = e at h3; cases h3; rfl
        have h4 := min_run (P := P) (w := w) (forb := forb) (φ := φ) (cs := ys.map a.eval) hn (by simpa using h1.symm) (fun i v c hv hcc => by
          rw [List.getElem?_map] at hcc
          rcases hq : ys[i]? with _ | z
          · rw [hq] at hcc; cases hcc
          · rw [hq] at hcc; cases hcc; exact h2 (i + 1) v z (by simpa using hv) (by simpa using hq))
        cases mx
        · simp only [invoke, builtin, Bool.false_eq_true, if_false, Builtin.min_, List.map_cons, hy] at h4 ⊢
          simp [h4]
        · simp only [invoke, builtin, if_true, Builtin.max_, List.map_cons, hy] at h4 ⊢
          simp [h4]
    · cases hr
  · cases hr
end Go.Mini

namespace Go.Mini
set_option linter.unusedVariables false
set_option linter.unusedSimpArgs false
variable {P : Program} {G : Nat → Option V} {forb : Nat → Prop} {φ : Phi} {w : World} {t : List V} {a : Act} {D : Nat → Prop} {base : Nat} {h : H} {o : Oper}

theorem mul_sep {i i' s o o' : Nat} (h : i < i') (ho : o < s) : i * s + o < i' * s + o' := by
  have : (i + 1) * s ≤ i' * s := Nat.mul_le_mul_right _ h
  rw [Nat.add_mul] at this
  omega

theorem setCell_heap (w : World) (b k : Nat) (v : Value) (cells : Array Value) (ty : TypeId) (fr : Nat × Nat) (hb : w.heap[b]? = some (.cells cells ty fr)) :
    (w.setCell ⟨b, k, none⟩ v).heap[b]? = some (.cells (cells.setIfInBounds k v) ty fr) := by
  simp [World.setCell, Array.getElem?_modify, hb]
theorem setCell_other (w : World) (b k j : Nat) (v : Value) (hj : j ≠ b) : (w.setCell ⟨b, k, none⟩ v).heap[j]? = w.heap[j]? := by
  simp [World.setCell, Array.getElem?_modify, Ne.symm hj]

theorem setCells_heap (b : Nat) (ty : TypeId) (fr : Nat × Nat) : ∀ (vs : List Value) (o : Nat) (w : World) (cells : Array Value), w.heap[b]? = some (.cells cells ty fr) → o + vs.length ≤ cells.size →
    ∃ cells', (w.setCells b o vs).heap[b]? = some (.cells cells' ty fr) ∧ cells'.size = cells.size ∧ ∀ k, cells'[k]? = if o ≤ k ∧ k < o + vs.length then vs[k - o]? else cells[k]?
  | [], o, w, cells, h, hl => ⟨cells, h, rfl, fun k => by simp; omega⟩
  | v :: vs, o, w, cells, h, hl => by
    simp at hl
    obtain ⟨c', h1, h2, h3⟩ := setCells_heap b ty fr vs (o + 1) (w.setCell ⟨b, o, none⟩ v) (cells.setIfInBounds o v) (setCell_heap w b o v cells ty fr h) (by simp; omega)
    refine ⟨c', h1, by simpa using h2, fun k => ?_⟩
    rw [h3, Array.getElem?_setIfInBounds]
    by_cases e : k = o
    · subst e
      rw [if_neg (by omega), if_pos rfl, if_pos (by omega), if_pos (by simp)]
      simp
    · by_cases e2 : o + 1 ≤ k ∧ k < o + 1 + vs.length
      · rw [if_pos e2, if_pos (by simp; omega)]
        obtain ⟨j, rfl⟩ : ∃ j, k = o + 1 + j := ⟨k - (o + 1), by omega⟩
        have e3 : o + 1 + j - o = j + 1 := by omega
        simp [e3]
      · rw [if_neg e2, if_neg (by omega), if_neg (by simp; omega)]

theorem setCells_rest (b : Nat) : ∀ (vs : List Value) (o : Nat) (w : World), (w.setCells b o vs).heap.size = w.heap.size ∧ (w.setCells b o vs).os = w.os ∧ (w.setCells b o vs).tape = w.tape ∧ (w.setCells b o vs).output = w.output ∧ ∀ j, j ≠ b → (w.setCells b o vs).heap[j]? = w.heap[j]?
  | [], o, w => ⟨rfl, rfl, rfl, rfl, fun _ _ => rfl⟩
  | v :: vs, o, w => by
    obtain ⟨h1, h2, h3, h4, h5⟩ := setCells_rest b vs (o + 1) (w.setCell ⟨b, o, none⟩ v)
    refine ⟨by rw [World.setCells, h1]; simp, by rw [World.setCells, h2]; rfl, by rw [World.setCells, h3]; rfl, by rw [World.setCells, h4]; rfl, fun j hj => by rw [World.setCells, h5 j hj, setCell_other _ _ _ _ _ hj]⟩

theorem ext_setCells {b : Nat} (hf : forb b) (vs : List Value) (k : Nat) {cells : Array Value} {ty : TypeId} {fr : Nat × Nat} (hb : w.heap[b]? = some (.cells cells ty fr)) (hl : k + vs.length ≤ cells.size) : Ext forb forb w (w.setCells b k vs) := by
  obtain ⟨h1, h2, h3, h4, h5⟩ := setCells_rest b vs k w
  refine ⟨fun cb h => .inl h, fun cb hlt hn => h5 cb (by rintro rfl; exact hn hf), fun cb c t' fr' hc => ?_, by omega, h2, h3, h4⟩
  by_cases e : cb = b
  · subst e
    obtain ⟨c', h6, h7, _⟩ := setCells_heap cb ty fr vs k w cells hb hl
    rw [hb] at hc; cases hc
    exact ⟨c', h6, h7⟩
  · exact ⟨c, by rw [h5 cb e]; exact hc, rfl⟩

theorem rowAt_some {b v : Nat} {x : Row} (hx : rowAt h b v = some x) : h[b]? = some (.row x) ∧ x.rd ≤ v ∧ v ≤ x.cur := by
  unfold rowAt at hx
  split at hx
  · split at hx
    · cases hx; exact ⟨by assumption, by assumption⟩
    · cases hx
  · cases hx

theorem setFrom_get {l cs : List V} {o : Nat} (hl : o + cs.length ≤ l.length) (k : Nat) : (setFrom l o cs)[k]? = if o ≤ k ∧ k < o + cs.length then cs[k - o]? else l[k]? := by
  unfold setFrom
  have h1 : (l.take o).length = o := by simp; omega
  by_cases e : k < o
  · rw [if_neg (by omega), List.append_assoc, List.getElem?_append_left (by omega), List.getElem?_take, if_pos e]
  · by_cases e2 : k < o + cs.length
    · rw [if_pos (by omega), List.append_assoc, List.getElem?_append_right (by omega), h1, List.getElem?_append_left (by omega)]
    · rw [if_neg (by omega), List.append_assoc, List.getElem?_append_right (by omega), h1, List.getElem?_append_right (by omega), List.getElem?_drop]
      congr 1; omega
theorem setFrom_length {l cs : List V} {o : Nat} (hl : o + cs.length ≤ l.length) : (setFrom l o cs).length = l.length := by
  unfold setFrom; simp; omega

/-- A row's cells written in place: what lies at the newest version. -/
theorem post_write (hR : Rel forb φ D base h w) {b : Nat} {x x' : Row} {l l' : Loc} {v : V} {c : Value} {r : List Nat} {vs : List Value} {k : Nat} {φ' : Phi} {cells : Array Value} {ty : TypeId} {fr : Nat × Nat}
    (hx : h[b]? = some (.row x)) (hb : D b) (hφ : φ b x.cur = some l)
    (hcell : w.heap[l.cb]? = some (.cells cells ty fr)) (hlen : k + vs.length ≤ cells.size)
    (hmono : ∀ b v l, φ b v = some l → φ' b v = some l) (hother : ∀ b' v, b' ≠ b → φ' b' v = φ b' v)
    (hnew : ∀ v l', φ' b v = some l' → (φ b v = some l') ∨ (l'.cb = l.cb ∧ l'.coff = l.coff ∧ l'.sz = l.sz ∧ l'.lo = l.lo ∧ v = x'.cur))
    (hcur : x.cur ≤ x'.cur)
    (hrow : ∀ v l', x'.rd ≤ v → v ≤ x'.cur → φ' b v = some l' → RowOk forb φ' (w.setCells l.cb k vs) x' v l')
    (hv : VR forb (w.setCells l.cb k vs) φ' v c) :
    Post forb φ D base h w ⟨v, h.set b (.row x'), r, [b]⟩ c (w.setCells l.cb k vs) := by
  obtain ⟨s1, s2, s3, s4, s5⟩ := setCells_rest l.cb vs k w
  have hlow := hR.low b x.cur l hφ
  have hE := ext_setCells (forb := forb) hlow.2.2 vs k hcell hlen
  have hbl : b < h.length := (List.getElem?_eq_some_iff.1 hx).1
  refine ⟨forb, φ', hv, ⟨fun b' y v' l' hb' hy h1 h2 hl' => ?_, fun b' v' l' hl' => ?_, fun b1 v1 l1 b2 v2 l2 hl1 hl2 e => ?_, by rw [s1]; exact hR.top, fun b' y v' l' hb' hy hl' => ?_, fun b' es l' hb' hy hl' => ?_⟩, hE, hmono, fun b' v' hb' => ?_, fun b' v' l' hl' hne => ?_, fun b' v' hlt hne => ?_, by simp⟩
  · by_cases e : b' = b
    · subst e
      rw [List.getElem?_set_self hbl] at hy
      cases hy
      exact hrow v' l' h1 h2 hl'
    · rw [List.getElem?_set_ne (Ne.symm e)] at hy
      rw [hother b' v' e] at hl'
      have hD : D b' := by
        rcases hb' with hb' | ⟨h3, h4⟩
        · exact hb'
        · simp at h4; omega
      refine (hR.row b' y v' l' hD hy h1 h2 hl').ext hE hmono (s5 _ fun e2 => ?_)
      exact e (hR.apart _ _ _ _ _ _ hl' hφ e2).1
  · by_cases e : b' = b
    · subst e
      rcases hnew v' l' hl' with h1 | ⟨h1, _⟩
      · have := hR.low _ _ _ h1; rw [s1]; exact this
      · rw [h1, s1]; exact hlow
    · rw [hother b' v' e] at hl'
      have := hR.low _ _ _ hl'; rw [s1]; exact this
  · have norm : ∀ b' v' l', φ' b' v' = some l' → ∃ v'' l'', φ b' v'' = some l'' ∧ l''.cb = l'.cb ∧ l''.coff = l'.coff ∧ l''.sz = l'.sz ∧ l''.lo = l'.lo := by
      intro b' v' l' hl'
      by_cases e : b' = b
      · subst e
        rcases hnew v' l' hl' with h1 | ⟨h1, h2, h3, h4, _⟩
        · exact ⟨_, _, h1, rfl, rfl, rfl, rfl⟩
        · exact ⟨_, _, hφ, h1.symm, h2.symm, h3.symm, h4.symm⟩
      · rw [hother b' v' e] at hl'; exact ⟨_, _, hl', rfl, rfl, rfl, rfl⟩
    obtain ⟨v1', l1', q1, q2, q3, q4, q5⟩ := norm _ _ _ hl1
    obtain ⟨v2', l2', p1, p2, p3, p4, p5⟩ := norm _ _ _ hl2
    obtain ⟨z1, z2, z3, z4⟩ := hR.apart _ _ _ _ _ _ q1 p1 (by omega)
    exact ⟨z1, by omega, by omega, by omega⟩
  · by_cases e : b' = b
    · subst e
      rw [List.getElem?_set_self hbl] at hy
      cases hy
      rcases hnew v' l' hl' with h1 | ⟨_, _, _, _, h1⟩
      · exact Nat.le_trans (hR.new _ _ _ _ hb hx h1) hcur
      · omega
    · rw [List.getElem?_set_ne (Ne.symm e)] at hy
      rw [hother b' v' e] at hl'
      have hD : D b' := by
        rcases hb' with hb' | ⟨h3, h4⟩
        · exact hb'
        · simp at h4; omega
      exact hR.new _ _ _ _ hD hy hl'
  · by_cases e : b' = b
    · subst e
      rw [List.getElem?_set_self hbl] at hy
      cases hy
    · rw [List.getElem?_set_ne (Ne.symm e)] at hy
      rw [hother b' 0 e] at hl'
      have hD : D b' := by
        rcases hb' with hb' | ⟨h3, h4⟩
        · exact hb'
        · simp at h4; omega
      exact (hR.mp b' es l' hD hy hl').congr (s5 _ fun e2 => e (hR.apart _ _ _ _ _ _ hl' hφ e2).1)
  · simp at hb'
    exact hother b' v' (by omega)
  · simp at hne
    refine s5 _ fun e2 => ?_
    exact hne (hR.apart _ _ _ _ _ _ hl' hφ e2).1
  · simp at hne
    exact hother b' v' hne
end Go.Mini

namespace Go.Mini
set_option linter.unusedVariables false
set_option linter.unusedSimpArgs false
variable {P : Program} {G : Nat → Option V} {forb : Nat → Prop} {φ : Phi} {w : World} {t : List V} {a : Act} {D : Nat → Prop} {base : Nat} {h : H} {o : Oper}

theorem at_off (l : Loc) (i o n : Nat) : (l.at i o).add n = ⟨l.cb, l.coff + (i - l.lo) * l.sz + (o + n), none⟩ := by rw [at_add]; rfl

theorem deref_ok (hR : Rel forb φ D base h w) {v : V} {cells : List V} {r : List Nat} {c : Value} (hd : deref h v = some (cells, r)) (hv : VR forb w φ v c) (hr : ∀ b ∈ r, D b) :
    ∃ A, c = .pointer (some A) ∧ ∀ (k : Nat) y, cells[k]? = some y → y.isCell = true ∧ ∃ u, w.cell? (A.add k) = some u ∧ VR forb w φ y u := by
  unfold deref at hd
  split at hd
  · cases hd
    obtain ⟨A, rfl, h2, h3⟩ := hv.rp_inv
    refine ⟨A, rfl, fun k y hy => ?_⟩
    obtain ⟨_, h4, u, h5⟩ := h2 k y hy
    exact ⟨h4, u, h5, (h3 k y u hy h5).less (fun _ h => h) (fun _ _ _ h => by cases h)⟩
  · rename_i b vv i oo
    split at hd
    · rename_i x hx
      split at hd
      · rename_i el hel
        cases hd
        obtain ⟨l, rfl, hφ, h1, h2⟩ := hv.ptr_inv
        obtain ⟨hx1, hx2, hx3⟩ := rowAt_some hx
        obtain ⟨k1, k2, k3, k4, cs, ty, fr, k5, k6, k7⟩ := hR.row b x vv l (hr b (by simp)) hx1 hx2 hx3 hφ
        refine ⟨_, rfl, fun k y hy => ?_⟩
        rw [List.getElem?_drop] at hy
        obtain ⟨h3, u, h4, h5⟩ := k7 i el (oo + k) y h1 h2 hel hy
        refine ⟨h3, u, ?_, h5⟩
        rw [at_off]
        simp only [World.cell?, k5]
        simpa [Nat.add_assoc] using h4
      · cases hd
    · cases hd
  · cases hd

theorem loadVar_ok {ty : TypeId} {agg : Option Nat} (ha : aggN P ty = some agg) {cells : List V} {A : Addr} {v : V} (hc : ∀ (k : Nat) y, cells[k]? = some y → y.isCell = true ∧ ∃ u, w.cell? (A.add k) = some u ∧ VR forb w φ y u) (h : loadC agg cells = some v) :
    ∃ c, (loadVar ty A).run P w = .ok c w ∧ VR forb w φ v c := by
  rcases loadC_ok h with ⟨n, rfl, hn, rfl⟩ | ⟨rfl, hv⟩
  · obtain ⟨h1, h2⟩ := aggN_some ha
    have hex : ∃ us : List Value, us.length = n ∧ ∀ (k : Nat) u, us[k]? = some u → w.cell? (A.add k) = some u := by
      refine ⟨(List.range n).map fun k => (w.cell? (A.add k)).getD undef, by simp, fun k u hu => ?_⟩
      rw [List.getElem?_map] at hu
      rcases hk : (List.range n)[k]? with _ | j
      · rw [hk] at hu; cases hu
      · rw [hk] at hu
        obtain ⟨hlt, rfl⟩ := List.getElem?_eq_some_iff.1 hk
        simp at hlt
        obtain ⟨_, u', h3, _⟩ := hc k cells[k] (by simp [show k < cells.length by omega])
        simp at hu
        rw [h3] at hu ⊢
        simpa using hu
    obtain ⟨us, hl, hu⟩ := hex
    have hrun := run_loadCells_list (P := P) w A us hu
    refine ⟨.agg us.toArray, by simp [loadVar, h1, h2, ← hl, hrun], ?_⟩
    refine .agg (by simp [hl, hn]) (fun x hx => ?_) (fun i x c hx hcx => ?_)
    · obtain ⟨i, hi⟩ := List.getElem?_of_mem hx
      rw [List.getElem?_take] at hi
      split at hi
      · exact (hc _ _ hi).1
      · cases hi
    · rw [List.getElem?_take] at hx
      split at hx
      · obtain ⟨_, u', h3, h4⟩ := hc _ _ hx
        have h5 := hu i c hcx
        rw [h3] at h5; cases h5; exact h4
      · cases hx
  · obtain ⟨h1, _⟩ := aggN_none ha
    obtain ⟨_, u, h3, h4⟩ := hc 0 v hv
    have : A.add 0 = A := rfl
    rw [this] at h3
    refine ⟨u, ?_, h4⟩
    simp only [loadVar, Sem.run_bind, h1, Result.andThen_ok, Bool.false_eq_true, if_false]
    simp [load, Sem.run, h3]

theorem op_load_ok (ht : Tm G forb φ w t a) (hR : Rel forb φ D base h w) {ty : TypeId} {agg : Option Nat} {x : Operand} {dx : Opd} (ho : o.op = .load ty x) (ha : aggN P ty = some agg) (hx : opd x = some dx) {r : Res} (hr : op_load G t agg dx h = some r) (hD : ∀ b ∈ r.r, D b) : Goes P o a w (Post forb φ D base h w r) := by
  unfold op_load at hr
  split at hr
  · rename_i v hv
    have h1 := ev_ok ht hx hv
    split at hr
    · rename_i cells rr hd
      split at hr
      · rename_i u hu
        cases hr
        obtain ⟨A, he, h2⟩ := deref_ok hR hd h1 hD
        obtain ⟨c, h3, h4⟩ := loadVar_ok ha h2 hu
        refine goes_same hR (c := c) ?_ h4
        unfold execOp; rw [ho]
        simp [Instr.loadAt, he, Instr.sureAddr, h3]
      · cases hr
    · cases hr
  · cases hr

theorem op_store_ok (ht : Tm G forb φ w t a) (hR : Rel forb φ D base h w) {ty : TypeId} {n : Nat} {x y : Operand} {dx dy : Opd} (ho : o.op = .store ty x y) (hn : sizeT P ty = some n) (hn0 : n ≠ 0) (hx : opd x = some dx) (hy : opd y = some dy) {r : Res} (hr : op_store G t n dx dy h = some r) (hD : ∀ b ∈ r.w, D b) : Goes P o a w (Post forb φ D base h w r) := by
  unfold op_store at hr
  split at hr
  · rename_i u v hu hv
    have h1 := ev_ok ht hx hu
    have h2 := ev_ok ht hy hv
    unfold storeV at hr
    split at hr
    · rename_i b vv i oo
      split at hr
      · rename_i x0 hx0
        split at hr
        · rename_i hc
          obtain ⟨rfl, hc2, hc3⟩ := hc
          split at hr
          · rename_i el hel
            split at hr
            · rename_i hlen
              cases hr
              obtain ⟨l, he, hφ, q1, q2⟩ := h1.ptr_inv
              obtain ⟨hx1, hx2, hx3⟩ := rowAt_some hx0
              have hDb : D b := hD b (by simp)
              obtain ⟨k1, k2, k3, k4, cells, tt, fr, k5, k6, k7⟩ := hR.row b x0 x0.cur l hDb hx1 hx2 hx3 hφ
              obtain ⟨c1, c2, c3⟩ := h2.cells_ok hc3
              generalize hcv : a.eval y = cv at h2 c1 c2 c3
              have hels : el.length = x0.sz := k4 el (List.mem_of_getElem? hel)
              have hvl : cv.cells.toList.length = n := by simp [c1, hc2]
              -- where the cells lie
              have hcellAt : ∀ j, j < el.length → ∃ u, cells[l.coff + (i - l.lo) * l.sz + j]? = some u := by
                intro j hj
                obtain ⟨_, u, h5, _⟩ := k7 i el j el[j] q1 q2 hel (by simp [hj])
                exact ⟨u, h5⟩
              have hfit : l.coff + (i - l.lo) * l.sz + oo + cv.cells.toList.length ≤ cells.size := by
                obtain ⟨u, hu⟩ := hcellAt (oo + n - 1) (by omega)
                have := (Array.getElem?_eq_some_iff.1 hu).1
                omega
              have hcl : ∀ j, j < cv.cells.toList.length → (w.cell? ⟨l.cb, l.coff + (i - l.lo) * l.sz + oo + j, none⟩).isSome = true := by
                intro j hj
                obtain ⟨u, hu⟩ := hcellAt (oo + j) (by omega)
                simp only [World.cell?, k5, Option.isSome_none, Bool.false_eq_true, if_false]
                rw [Nat.add_assoc, hu]; rfl
              have hfz : ∀ j, j < cv.cells.toList.length → w.frozen? ⟨l.cb, l.coff + (i - l.lo) * l.sz + oo + j, none⟩ = false := by
                intro j hj
                obtain ⟨u, hu⟩ := hcellAt (oo + j) (by omega)
                have hlt := (Array.getElem?_eq_some_iff.1 hu).1
                have := k6 _ hlt
                simp only [World.frozen?, k5]
                rw [Nat.add_assoc]
                simpa using this
              have hone : ∀ z ∈ cv.cells.toList, z.oneCell' = true := by
                intro z hz
                obtain ⟨j, hj⟩ := List.getElem?_of_mem hz
                have hjl := (List.getElem?_eq_some_iff.1 hj).1
                have hj2 : j < v.cells.length := by omega
                obtain ⟨u, hu1, hu2⟩ := c3 j v.cells[j] (by simp [hj2])
                rw [← Array.getElem?_toList, hj] at hu1
                cases hu1
                exact hu2.oneCell (c2 _ (List.getElem_mem _))
              have hst : (storeCells (l.at i oo) cv.cells.toList).run P w = .ok () (w.setCells l.cb (l.coff + (i - l.lo) * l.sz + oo) cv.cells.toList) := by
                have := run_storeCells_cells (P := P) l.cb (l.coff + (i - l.lo) * l.sz + oo) cv.cells.toList 0 w (by simpa using hcl) (by simpa using hfz) hone
                simpa [Loc.at] using this
              refine .inr (.inl ⟨w.setCells l.cb (l.coff + (i - l.lo) * l.sz + oo) cv.cells.toList, ?_, ?_⟩)
              · unfold execOp; rw [ho]
                simp only [Instr.storeAt, he, Instr.sureAddr, hcv, storeVar, Sem.run_bind, Sem.run_pure, Result.andThen_ok, run_sizeOf hn, c1, hc2, ne_eq, not_true_eq_false, if_false, hst]
              · have hlow := hR.low b x0.cur l hφ
                have hE := ext_setCells (forb := forb) hlow.2.2 cv.cells.toList (l.coff + (i - l.lo) * l.sz + oo) k5 hfit
                obtain ⟨cells', w1, w2, w3⟩ := setCells_heap l.cb tt fr cv.cells.toList (l.coff + (i - l.lo) * l.sz + oo) w cells k5 hfit
                have hil : i < x0.els.length := (List.getElem?_eq_some_iff.1 hel).1
                refine post_write hR (l' := l) (φ' := φ) hx1 hDb hφ k5 hfit (fun _ _ _ h => h) (fun _ _ _ => rfl) (fun _ _ h => .inl h) (Nat.le_refl _) ?_ .undef
                intro v' l' hv1 hv2 hl'
                simp only [] at hv1 hv2
                obtain rfl : v' = x0.cur := by omega
                rw [hφ] at hl'; cases hl'
                refine ⟨k1, by simpa using k2, fun _ => by simpa using k3 rfl, fun el' hel' => ?_, cells', tt, fr, w1, by rw [w2]; exact k6, fun i' el' o' y' p1 p2 p3 p4 => ?_⟩
                · obtain ⟨j, hj⟩ := List.getElem?_of_mem hel'
                  rw [List.getElem?_set] at hj
                  split at hj
                  · cases hj; rw [setFrom_length (by omega)]; exact hels
                  · exact k4 el' (List.mem_of_getElem? hj)
                · simp only [] at p3
                  rw [List.getElem?_set] at p3
                  split at p3
                  · rename_i e; subst e
                    cases p3
                    rw [setFrom_get (by omega)] at p4
                    split at p4
                    · rename_i hin
                      obtain ⟨u, z1, z2⟩ := c3 _ _ p4
                      refine ⟨c2 _ (List.mem_of_getElem? p4), u, ?_, z2.ext hE φ (fun _ _ _ h => h)⟩
                      rw [w3, if_pos (by omega)]
                      rw [show l.coff + (i - l.lo) * l.sz + o' - (l.coff + (i - l.lo) * l.sz + oo) = o' - oo by omega, Array.getElem?_toList]
                      exact z1
                    · rename_i hin
                      obtain ⟨z0, u, z1, z2⟩ := k7 i el o' y' p1 p2 hel p4
                      refine ⟨z0, u, ?_, z2.ext hE φ (fun _ _ _ h => h)⟩
                      rw [w3, if_neg (by omega)]; exact z1
                  · rename_i e
                    obtain ⟨z0, u, z1, z2⟩ := k7 i' el' o' y' p1 p2 p3 p4
                    refine ⟨z0, u, ?_, z2.ext hE φ (fun _ _ _ h => h)⟩
                    have ho' : o' < l.sz := by
                      have := k4 el' (List.mem_of_getElem? p3)
                      have := (List.getElem?_eq_some_iff.1 p4).1
                      omega
                    rw [w3, if_neg]
                    · exact z1
                    · rcases Nat.lt_or_gt_of_ne e with h' | h'
                      · have := mul_sep (i := i - l.lo) (i' := i' - l.lo) (s := l.sz) (o := oo + n - 1) (o' := o') (by omega) (by omega)
                        omega
                      · have := mul_sep (i := i' - l.lo) (i' := i - l.lo) (s := l.sz) (o := o') (o' := oo) (by omega) ho'
                        omega
            · cases hr
          · cases hr
        · cases hr
      · cases hr
    · cases hr
  · cases hr
end Go.Mini

namespace Go.Mini
set_option linter.unusedVariables false
set_option linter.unusedSimpArgs false
variable {P : Program} {G : Nat → Option V} {forb : Nat → Prop} {φ : Phi} {w : World} {t : List V} {a : Act} {D : Nat → Prop} {base : Nat} {h : H} {o : Oper}

theorem zeroT_ok {ty : TypeId} {z : V} (hz : zeroT P ty = some z) : ∃ zv, (∀ w, (zeroValue ty).run P w = .ok zv w) ∧ ∀ forb φ w, VR forb w φ z zv := by
  unfold zeroT at hz
  split at hz
  · rename_i i hi
    split at hz
    · rename_i zv hzv
      exact ⟨zv, fun w => by simp [zeroValue, typeInfo, hi, hzv], fun _ _ _ => ofVal_ok hz⟩
    · cases hz
  · cases hz
theorem zeroT_info {ty : TypeId} {z : V} (hz : zeroT P ty = some z) : ∃ i zv, P.info? ty = some i ∧ i.zero = some zv ∧ ∀ forb φ w, VR forb w φ z zv := by
  unfold zeroT at hz
  split at hz
  · rename_i i hi
    split at hz
    · rename_i zv hzv
      exact ⟨i, zv, hi, hzv, fun _ _ _ => ofVal_ok hz⟩
    · cases hz
  · cases hz
theorem lies_of_cells {z : V} (h : z.cells.all V.isCell = true) : z.lies = true := by
  cases z <;> first | rfl | simp [V.cells, V.isCell] at h

theorem new_ptr {b cb n sz : Nat} {φ' : Phi} {forb' : Nat → Prop} {w' : World} (h : φ' b 0 = some ⟨cb, 0, 0, n, sz⟩) (hn : 0 < n) : VR forb' w' φ' (.ptr b 0 0 0) (.pointer (some ⟨cb, 0, none⟩)) := by
  have := VR.ptr (forb := forb') (w := w') (i := 0) (o := 0) h (Nat.le_refl _) hn
  simpa [Loc.at] using this

/-- a variable -/
theorem post_var (hR : Rel forb φ D base h w) {x : V} {c : Value} (hv : VR forb w φ x c) (hl : x.lies = true) (hfree : ∀ v, φ h.length v = none) (ty : TypeId) :
    Post forb φ D base h w ⟨.ptr h.length 0 0 0, newRow h x.cells.length [x.cells], [], []⟩ (.pointer (some ⟨w.heap.size, 0, none⟩)) (grow w (.cells c.cells ty (0, 0))) := by
  obtain ⟨h1, h2, h3⟩ := hv.cells_ok hl
  refine post_new hR x.cells.length [x.cells] c.cells ty (0, 0) (fun o _ => by simp) (by simp) hfree (fun i el o y hi ho => ?_) (fun forb' φ' w' hφ' _ => new_ptr hφ' (by simp))
  cases i with
  | zero =>
    simp at hi; subst hi
    obtain ⟨u, h4, h5⟩ := h3 o y ho
    exact ⟨h2 y (List.mem_of_getElem? ho), u, by simpa using h4, h5⟩
  | succ i => simp at hi

theorem op_alloc_ok (ht : Tm G forb φ w t a) (hR : Rel forb φ D base h w) {ty : TypeId} {z : V} (ho : o.op = .alloc ty) (hz : zeroT P ty = some z) (hc : z.cells.all V.isCell = true) {r : Res} (hr : op_alloc t z.cells h = some r) (hfree : ∀ v, φ h.length v = none) : Goes P o a w (Post forb φ D base h w r) := by
  unfold op_alloc at hr
  cases hr
  obtain ⟨zv, h1, h2⟩ := zeroT_ok hz
  refine goes_value (c := .pointer (some ⟨w.heap.size, 0, none⟩)) (w' := grow w (.cells zv.cells ty (0, 0))) ?_ (post_var hR (h2 _ _ _) (lies_of_cells hc) hfree ty)
  unfold execOp; rw [ho]
  simp [Instr.alloc, h1, newVar, Go.newRow, newObj, Sem.run]

theorem op_box_ok (ht : Tm G forb φ w t a) (hR : Rel forb φ D base h w) {ty : TypeId} {n : Nat} {x : Operand} {dx : Opd} (ho : o.op = .box ty x) (hx : opd x = some dx) {r : Res} (hr : op_box G t n dx h = some r) (hfree : ∀ v, φ h.length v = none) : Goes P o a w (Post forb φ D base h w r) := by
  unfold op_box at hr
  split at hr
  · rename_i v hv
    split at hr
    · rename_i hc
      obtain ⟨rfl, hl⟩ := hc
      cases hr
      have h1 := ev_ok ht hx hv
      refine goes_value (c := .pointer (some ⟨w.heap.size, 0, none⟩)) (w' := grow w (.cells (a.eval x).cells ty (0, 0))) ?_ (post_var hR h1 hl hfree ty)
      unfold execOp; rw [ho]
      simp [Instr.box, newVar, Go.newRow, newObj, Sem.run]
    · cases hr
  · cases hr

theorem chunks_get (sz : Nat) : ∀ (n : Nat) (l : List V) (i : Nat), (chunks sz n l)[i]? = if i < n then some ((l.drop (i * sz)).take sz) else none
  | 0, l, i => by simp [chunks]
  | n + 1, l, i => by
    cases i with
    | zero => simp [chunks]
    | succ i =>
      simp only [chunks, List.getElem?_cons_succ, chunks_get sz n, List.drop_drop]
      simp only [Nat.add_lt_add_iff_right]
      rw [show sz + i * sz = (i + 1) * sz by rw [Nat.add_mul]; omega]
theorem chunks_length (sz : Nat) : ∀ (n : Nat) (l : List V), (chunks sz n l).length = n
  | 0, l => rfl
  | n + 1, l => by simp [chunks, chunks_length sz n]

theorem fill_ok (place : Nat → Option (Nat × Nat)) : ∀ {ps : List (Nat × Nat × V)} {cells : List V} {out : List V} {vs : Array Value} {qs : List (Nat × Value)}, fillV cells ps = some out → CR forb w φ cells vs → qs.length = ps.length →
    (∀ (i : Nat) p q, ps[i]? = some p → qs[i]? = some q → place q.1 = some (p.1, p.2.1) ∧ VR forb w φ p.2.2 q.2) → ∃ us, Instr.fill place vs qs = some us ∧ CR forb w φ out us ∧ out.length = cells.length
  | [], cells, out, vs, qs, h, hc, hl, _ => by
    cases h
    cases qs
    · exact ⟨vs, rfl, hc, rfl⟩
    · simp at hl
  | (off, size, v) :: ps, cells, out, vs, qs, h, hc, hl, hp => by
    cases qs with
    | nil => simp at hl
    | cons q qs =>
      obtain ⟨i, x⟩ := q
      unfold fillV at h
      split at h
      · cases h
      · rename_i hn
        simp only [not_or, Bool.not_eq_false, Decidable.not_not] at hn
        obtain ⟨n1, n2, n3⟩ := hn
        obtain ⟨p1, p2⟩ := hp 0 _ _ rfl rfl
        simp only at p1 p2
        obtain ⟨c1, c2, c3⟩ := p2.cells_ok n3
        have key : ∀ (l : List Value) (s : Nat) (cs : Array Value), (∀ k, ((l.zipIdx s).foldl (fun cs (c, j) => cs.setIfInBounds (off + j) c) cs)[k]? = if off + s ≤ k ∧ k < off + s + l.length ∧ k < cs.size then l[k - (off + s)]? else cs[k]?) ∧ ((l.zipIdx s).foldl (fun cs (c, j) => cs.setIfInBounds (off + j) c) cs).size = cs.size := by
          intro l
          induction l with
          | nil => intro s cs; refine ⟨fun k => ?_, rfl⟩; rw [if_neg (by simp; omega)]; rfl
          | cons y l ih =>
            intro s cs
            simp only [List.zipIdx_cons, List.foldl_cons]
            obtain ⟨h1, h2⟩ := ih (s + 1) (cs.setIfInBounds (off + s) y)
            refine ⟨fun k => ?_, by rw [h2]; simp⟩
            rw [h1, Array.getElem?_setIfInBounds]
            simp only [Array.size_setIfInBounds]
            by_cases e : k = off + s
            · subst e
              rw [if_neg (by omega)]
              by_cases e2 : off + s < cs.size
              · rw [if_pos rfl, if_pos e2, if_pos (by simp; omega)]; simp
              · rw [if_pos rfl, if_neg e2, if_neg (by omega)]; simp; omega
            · by_cases e2 : off + (s + 1) ≤ k ∧ k < off + (s + 1) + l.length ∧ k < cs.size
              · rw [if_pos e2, if_pos (by simp; omega)]
                obtain ⟨j, rfl⟩ : ∃ j, k = off + (s + 1) + j := ⟨k - (off + (s + 1)), by omega⟩
                rw [show off + (s + 1) + j - (off + s) = j + 1 by omega]; simp
              · rw [if_neg e2, if_neg (by omega), if_neg (by simp; omega)]
        obtain ⟨k1, k2⟩ := key x.cells.toList 0 vs
        have hstep : CR forb w φ (setFrom cells off v.cells) ((x.cells.zipIdx).foldl (fun cs (c, j) => cs.setIfInBounds (off + j) c) vs) := by
          have e : (x.cells.zipIdx).foldl (fun cs (c, j) => cs.setIfInBounds (off + j) c) vs = (x.cells.toList.zipIdx 0).foldl (fun cs (c, j) => cs.setIfInBounds (off + j) c) vs := by
            rw [← Array.foldl_toList]; simp
          rw [e]
          refine ⟨by rw [k2, setFrom_length (by omega)]; exact hc.1, fun k y hy => ?_⟩
          rw [setFrom_get (by omega)] at hy
          split at hy
          · rename_i hin
            obtain ⟨u, h4, h5⟩ := c3 _ _ hy
            refine ⟨c2 _ (List.mem_of_getElem? hy), u, ?_, h5⟩
            rw [k1, if_pos (by have := hc.1; simp; omega)]
            simpa using h4
          · rename_i hin
            obtain ⟨h3, u, h4, h5⟩ := hc.2 k y hy
            refine ⟨h3, u, ?_, h5⟩
            rw [k1, if_neg (by simp; omega)]
            exact h4
        obtain ⟨us, u1, u2, u3⟩ := fill_ok place (qs := qs) h hstep (by simpa using hl) (fun i p q hi hq => hp (i + 1) p q (by simpa using hi) (by simpa using hq))
        refine ⟨us, ?_, u2, by rw [u3, setFrom_length (by omega)]⟩
        unfold Instr.fill
        simp only [p1]
        rw [if_neg (by have := hc.1; simp [c1, n1]; omega)]
        exact u1

theorem evP_ok (ht : Tm G forb φ w t a) {f : Nat × Operand → Option (Nat × Nat × Opd)} : ∀ {xs : List (Nat × Operand)} {ds : List (Nat × Nat × Opd)} {ps : List (Nat × Nat × V)}, mapM? f xs = some ds → (∀ x d, f x = some d → opd x.2 = some d.2.2) → evP G t ds = some ps →
    ps.length = xs.length ∧ ∀ (i : Nat) p x, ps[i]? = some p → xs[i]? = some x → (∃ d, f x = some d ∧ d.1 = p.1 ∧ d.2.1 = p.2.1) ∧ VR forb w φ p.2.2 (a.eval x.2)
  | [], ds, ps, h, _, hv => by cases h; cases hv; simp
  | x :: xs, ds, ps, h, hf, hv => by
    unfold mapM? at h
    split at h
    · rename_i d ds' h1 h2
      cases h
      obtain ⟨d1, d2, d3⟩ := d
      unfold evP at hv
      split at hv
      · rename_i v vs' h3 h4
        cases hv
        obtain ⟨h5, h6⟩ := evP_ok ht h2 hf h4
        refine ⟨by simp [h5], fun i p y hp hy => ?_⟩
        cases i with
        | zero =>
          simp at hp hy; subst hp hy
          exact ⟨⟨_, h1, rfl, rfl⟩, ev_ok ht (hf _ _ h1) h3⟩
        | succ i => exact h6 i p y (by simpa using hp) (by simpa using hy)
      · cases hv
    · cases h

theorem cr_zero {z : V} {zv : Value} (hc : z.cells.all V.isCell = true) (hz : VR forb w φ z zv) : CR forb w φ z.cells zv.cells := by
  obtain ⟨h1, h2, h3⟩ := hz.cells_ok (lies_of_cells hc)
  exact ⟨h1, fun i y hy => ⟨h2 y (List.mem_of_getElem? hy), h3 i y hy⟩⟩

theorem op_build_ok (ht : Tm G forb φ w t a) (hR : Rel forb φ D base h w) {ty : TypeId} {parts : Array (Nat × Operand)} {z : V} {fs : Array Field} {ps : List (Nat × Nat × Opd)} {ss : List Nat} (ho : o.op = .build ty parts) (hu : P.underlying ty = some (.struct fs)) (hz : zeroT P ty = some z) (hc : z.cells.all V.isCell = true)
    (hp : mapM? (fun (p : Nat × Operand) => match fs[p.1]?, opd p.2 with
          | some f, some x => (sizeT P f.type).map fun s => (f.offset, s, x)
          | _, _ => none) parts.toList = some ps) (hs : mapM? (fun (f : Field) => sizeT P f.type) fs.toList = some ss) {r : Res} (hr : op_build G t z.cells ps h = some r) : Goes P o a w (Post forb φ D base h w r) := by
  unfold op_build at hr
  split at hr
  · rename_i qs hq
    split at hr
    · rename_i cs hcs
      cases hr
      obtain ⟨it, zv, zi, z1, z2⟩ := zeroT_info hz
      obtain ⟨e1, e2⟩ := evP_ok (f := fun (p : Nat × Operand) => match fs[p.1]?, opd p.2 with
          | some f, some x => (sizeT P f.type).map fun s => (f.offset, s, x)
          | _, _ => none) ht hp (fun x d hd => by
        split at hd
        · rename_i f y _ hy
          rcases hsz : sizeT P f.type with _ | s
          · simp [hsz] at hd
          · simp [hsz] at hd; subst hd; exact hy
        · cases hd) hq
      -- the places
      have hpl : ∀ (l : List Field) (rs : List Nat), mapM? (fun (f : Field) => sizeT P f.type) l = some rs → (l.mapM fun f => (P.info? f.type).map fun i => (f.offset, i.size)) = some (l.zip rs |>.map fun x => (x.1.offset, x.2)) := by
        intro l
        induction l with
        | nil => intro rs h; simp
        | cons f l ih =>
          intro rs h
          unfold mapM? at h
          split at h
          · rename_i y ys h1 h2
            cases h
            unfold sizeT at h1
            rcases hi : P.info? f.type with _ | i
            · simp [hi] at h1
            · simp [hi] at h1
              simp [List.mapM_cons, hi, ih _ h2, h1]
          · cases h
      have hplaces := hpl _ _ hs
      have hpl2 : ∀ (i : Nat) f s, fs[i]? = some f → sizeT P f.type = some s → ((fs.toList.zip ss).map fun x => (x.1.offset, x.2)).toArray[i]? = some (f.offset, s) := by
        intro i f s hf hsz
        rw [List.getElem?_toArray, List.getElem?_map]
        have hi : i < fs.toList.length := by have := (Array.getElem?_eq_some_iff.1 hf).1; simpa using this
        have hl := mapM?_length hs
        have hi2 : i < ss.length := by omega
        obtain ⟨f', g1, g2⟩ := mapM?_get hs i ss[i] (by simp [hi2])
        rw [Array.getElem?_toList, hf] at g1
        cases g1
        rw [hsz] at g2
        have hz3 : (fs.toList.zip ss)[i]? = some (f, ss[i]) := List.getElem?_zip_eq_some.2 ⟨by rw [Array.getElem?_toList]; exact hf, by simp [hi2]⟩
        rw [hz3]
        simp at g2 ⊢
        exact g2.symm
      obtain ⟨us, u1, u2, u3⟩ := fill_ok (fun i => ((fs.toList.zip ss).map fun x => (x.1.offset, x.2)).toArray[i]?) (qs := parts.toList.map fun p => (p.1, a.eval p.2)) hcs (cr_zero hc (z2 _ _ _)) (by simp [e1]) (fun i p q hpi hqi => by
        rw [List.getElem?_map] at hqi
        rcases hx : parts.toList[i]? with _ | x
        · rw [hx] at hqi; cases hqi
        · rw [hx] at hqi
          simp at hqi
          subst hqi
          obtain ⟨⟨d, d1, d2, d3⟩, d4⟩ := e2 i p x hpi hx
          refine ⟨?_, d4⟩
          split at d1
          · rename_i f y hf hy
            rcases hsz : sizeT P f.type with _ | s
            · simp [hsz] at d1
            · simp [hsz] at d1; subst d1
              rw [hpl2 _ f s hf hsz]
              rw [← d2, ← d3]
          · cases d1)
      refine goes_same hR (c := .agg us) ?_ (cr_agg u2)
      have hb : P.built ty (parts.toList.map fun p => (p.1, a.eval p.2)) = some us := by
        simp only [Program.built, zi, hu, z1, hplaces]
        exact u1
      unfold execOp; rw [ho]
      have hrun := run_build (P := P) w ty (parts.map fun p => (p.1, a.eval p.2)) us (by simpa using hb)
      simp [hrun]
    · cases hr
  · cases hr
end Go.Mini

namespace Go.Mini
set_option linter.unusedVariables false
set_option linter.unusedSimpArgs false
variable {P : Program} {G : Nat → Option V} {forb : Nat → Prop} {φ : Phi} {w : World} {t : List V} {a : Act} {D : Nat → Prop} {base : Nat} {h : H} {o : Oper}

theorem new_os {b cb n sz cap len : Nat} {clip : Bool} {φ' : Phi} {forb' : Nat → Prop} {w' : World} {cells : Array Value} {ty : TypeId} (h : φ' b 0 = some ⟨cb, 0, 0, len, sz⟩) (hn : n ≤ len) (hc : n ≤ cap) (hm : cap ≤ 9223372036854775807) (hcl : clip = true → cap = n)
    (hw : ∃ fr, w'.heap[cb]? = some (.cells cells ty fr)) (hs : cap * sz ≤ cells.size) : VR forb' w' φ' (.os b 0 sz 0 n clip) (.slice (some ⟨cb, 0, none⟩) n cap) := by
  obtain ⟨fr, hw⟩ := hw
  refine VR.os h rfl (Nat.le_refl _) (by simpa using hn) hc hm hcl fun _ => ⟨by simp [Loc.at], cells, ty, fr, hw, by simpa using hs⟩

theorem cr_replicate {z : List V} {zs : Array Value} (hz : CR forb w φ z zs) (n s : Nat) (hs : z.length = s) (hs0 : s ≠ 0) : CR forb w φ (List.replicate n z).flatten ((Array.range (n * s)).map (zs[· % zs.size]!)) := by
  subst hs
  have hlen : (List.replicate n z).flatten.length = n * z.length := by simp
  refine ⟨by simp, fun k y hy => ?_⟩
  have hk : k < n * z.length := by have := (List.getElem?_eq_some_iff.1 hy).1; omega
  have hget : ∀ (n k : Nat), k < n * z.length → (List.replicate n z).flatten[k]? = z[k % z.length]? := by
    intro n
    induction n with
    | zero => intro k hk; simp at hk
    | succ n ih =>
      intro k hk
      rw [List.replicate_succ, List.flatten_cons]
      by_cases e : k < z.length
      · rw [List.getElem?_append_left e, Nat.mod_eq_of_lt e]
      · rw [List.getElem?_append_right (by omega), ih _ (by rw [Nat.add_mul] at hk; omega)]
        congr 1
        rw [← Nat.mod_eq_sub_mod (by omega)]
  rw [hget n k hk] at hy
  obtain ⟨h1, c, h2, h3⟩ := hz.2 _ _ hy
  refine ⟨h1, c, ?_, h3⟩
  have h4 : (Array.range (n * z.length))[k]? = some k := by simp [hk]
  rw [Array.getElem?_map, h4]
  simp only [Option.map_some]
  rw [hz.1]
  have h5 := (Array.getElem?_eq_some_iff.1 h2).1
  have h6 := (Array.getElem?_eq_some_iff.1 h2).2
  rw [getElem!_pos zs _ h5, h6]

theorem op_buildA_ok (ht : Tm G forb φ w t a) (hR : Rel forb φ D base h w) {ty el : TypeId} {len s : Nat} {parts : Array (Nat × Operand)} {z : V} {ps : List (Nat × Nat × Opd)} (ho : o.op = .build ty parts) (hu : P.underlying ty = some (.array len el)) (hs : sizeT P el = some s) (hz : zeroT P ty = some z) (hc : z.cells.all V.isCell = true)
    (hp : mapM? (fun (p : Nat × Operand) => (opd p.2).map fun x => (p.1 * s, s, x)) parts.toList = some ps) {r : Res} (hr : op_build G t z.cells ps h = some r) : Goes P o a w (Post forb φ D base h w r) := by
  unfold op_build at hr
  split at hr
  · rename_i qs hq
    split at hr
    · rename_i cs hcs
      cases hr
      obtain ⟨it, zv, zi, z1, z2⟩ := zeroT_info hz
      obtain ⟨zv', z1', _⟩ := zeroT_ok hz
      have hzz : zv' = zv := by
        have := z1' w
        simp [zeroValue, typeInfo, zi, z1] at this
        exact this.symm
      subst hzz
      obtain ⟨e1, e2⟩ := evP_ok (f := fun (p : Nat × Operand) => (opd p.2).map fun x => (p.1 * s, s, x)) ht hp (fun x d hd => by
        rcases hy : opd x.2 with _ | y
        · simp [hy] at hd
        · simp [hy] at hd; subst hd; rfl) hq
      obtain ⟨us, u1, u2, u3⟩ := fill_ok (fun i => some (i * s, s)) (qs := parts.toList.map fun p => (p.1, a.eval p.2)) hcs (cr_zero hc (z2 forb φ w)) (by simp [e1]) (fun i p q hpi hqi => by
        rw [List.getElem?_map] at hqi
        rcases hx : parts.toList[i]? with _ | x
        · rw [hx] at hqi; cases hqi
        · rw [hx] at hqi
          simp at hqi
          subst hqi
          obtain ⟨⟨d, d1, d2, d3⟩, d4⟩ := e2 i p x hpi hx
          refine ⟨?_, d4⟩
          rcases hy : opd x.2 with _ | y
          · simp [hy] at d1
          · simp [hy] at d1; subst d1; simp only [] at d2 d3 ⊢; rw [← d2, ← d3])
      refine goes_same hR (c := .agg us) ?_ (cr_agg u2)
      have hsz := run_sizeOf (P := P) (w := w) hs
      have hpl : (parts.map fun p => (p.1, a.eval p.2)).toList = parts.toList.map fun p => (p.1, a.eval p.2) := by simp
      have hbs : (Instr.build ty (parts.map fun p => (p.1, a.eval p.2))).run P w = .ok (.agg us) w := by
        unfold Instr.build
        simp only [Sem.run_bind, z1', run_underlying hu, Result.andThen_ok, hsz, hpl, u1, Sem.run_pure]
      unfold execOp; rw [ho]
      simp [hbs]
    · cases hr
  · cases hr

theorem op_idxA_ok (ht : Tm G forb φ w t a) (hR : Rel forb φ D base h w) {ty el : TypeId} {len s : Nat} {x ix : Operand} {agg : Option Nat} {dx di : Opd} (ho : o.op = .index ty x ix) (hu : P.underlying ty = some (.array len el)) (ha : aggN P el = some agg) (hs : sizeT P el = some s) (hx : opd x = some dx) (hi : opd ix = some di) {r : Res} (hr : op_idxA G t len agg s dx di h = some r) : Goes P o a w (Post forb φ D base h w r) := by
  unfold op_idxA at hr
  split at hr
  · rename_i cs k n hb hb2
    have h1 := ev_ok ht hx hb
    have h2 := ev_ok ht hi hb2
    split at hr
    · rename_i h0
      obtain ⟨u, hu1, rfl⟩ := one_some hr
      obtain ⟨vs, he, hc⟩ := agg_cr h1
      obtain ⟨c, h3, h4⟩ := part_ok ha hc hu1
      refine goes_same hR (c := c) ?_ h4
      have hsz := run_sizeOf (P := P) (w := w) hs
      unfold execOp; rw [ho]
      generalize he' : a.eval ix = e' at h2
      cases h2
      simp [Instr.index, he, he', asIntOf, run_underlying hu, h0, hsz, h3]
    · cases hr
  · cases hr

theorem op_bslice_ok (ht : Tm G forb φ w t a) (hR : Rel forb φ D base h w) {ty el : TypeId} {len s : Nat} {parts : Array (Nat × Operand)} {z : V} {ps : List (Nat × Nat × Opd)} (ho : o.op = .buildSlice ty len parts) (hu : P.underlying ty = some (.slice el)) (hs : sizeT P el = some s) (hz : zeroT P el = some z) (hs0 : s ≠ 0) (hzl : z.cells.length = s) (hmax : len * s ≤ 16777216) (hc : z.cells.all V.isCell = true)
    (hp : mapM? (fun (p : Nat × Operand) => (opd p.2).map fun x => (p.1 * s, s, x)) parts.toList = some ps) {r : Res} (hr : op_bslice G t s len z.cells ps h = some r) (hfree : ∀ v, φ h.length v = none) : Goes P o a w (Post forb φ D base h w r) := by
  unfold op_bslice at hr
  split at hr
  · rename_i qs hq
    split at hr
    · rename_i cs hcs
      cases hr
      obtain ⟨it, zv, zi, z1, z2⟩ := zeroT_info hz
      obtain ⟨zv', z1', _⟩ := zeroT_ok hz
      have hzz : zv' = zv := by
        have := z1' w
        simp [zeroValue, typeInfo, zi, z1] at this
        exact this.symm
      subst hzz
      obtain ⟨e1, e2⟩ := evP_ok (f := fun (p : Nat × Operand) => (opd p.2).map fun x => (p.1 * s, s, x)) ht hp (fun x d hd => by
        rcases hy : opd x.2 with _ | y
        · simp [hy] at hd
        · simp [hy] at hd; subst hd; rfl) hq
      have hcr := cr_replicate (cr_zero hc (z2 forb φ w)) len s hzl hs0
      obtain ⟨us, u1, u2, u3⟩ := fill_ok (fun i => some (i * s, s)) (qs := parts.toList.map fun p => (p.1, a.eval p.2)) hcs hcr (by simp [e1]) (fun i p q hpi hqi => by
        rw [List.getElem?_map] at hqi
        rcases hx : parts.toList[i]? with _ | x
        · rw [hx] at hqi; cases hqi
        · rw [hx] at hqi
          simp at hqi
          subst hqi
          obtain ⟨⟨d, d1, d2, d3⟩, d4⟩ := e2 i p x hpi hx
          refine ⟨?_, d4⟩
          rcases hy : opd x.2 with _ | y
          · simp [hy] at d1
          · simp [hy] at d1; subst d1; simp only [] at d2 d3 ⊢; rw [← d2, ← d3])
      have hlen : cs.length = len * s := by rw [u3]; simp [hzl]
      refine goes_value (c := .slice (some ⟨w.heap.size, 0, none⟩) len len) (w' := grow w (.cells us el (0, 0))) ?_ ?_
      · unfold execOp; rw [ho]
        have h0 : ¬ (len * s > 2 ^ 24) := by omega
        have hsz := run_sizeOf (P := P) (w := w) hs
        have hbs : (Instr.buildSlice ty len (parts.map fun p => (p.1, a.eval p.2))).run P w = .ok (.slice (some ⟨w.heap.size, 0, none⟩) len len) (grow w (.cells us el (0, 0))) := by
          have hpl : (parts.map fun p => (p.1, a.eval p.2)).toList = parts.toList.map fun p => (p.1, a.eval p.2) := by simp
          unfold Instr.buildSlice
          simp only [Sem.run_bind, run_underlying hu, Result.andThen_ok, hsz, Sem.run_ite, h0, if_false, hpl]
          by_cases hl0 : len * s = 0
          · simp only [hl0, if_true, Sem.run_pure, Result.andThen_ok]
            rw [hl0] at u1
            have e0 : (Array.range 0).map (fun x => (#[] : Array Value)[x % (#[] : Array Value).size]!) = (Array.range 0).map (fun x => zv'.cells[x % zv'.cells.size]!) := by simp
            rw [e0, u1]
            simp [Go.newRow, newObj, Sem.run]
          · simp only [hl0, if_false, Sem.run_bind, z1', Result.andThen_ok, Sem.run_pure, u1]
            simp [Go.newRow, newObj, Sem.run]
        simp [hbs]
      · refine post_new hR s (chunks s len cs) us el (0, 0) (fun o _ => by simp) (fun e he => ?_) hfree (fun i e oo y hi ho2 => ?_) (fun forb' φ' w' hφ' hw => ?_)
        · obtain ⟨j, hj⟩ := List.getElem?_of_mem he
          rw [chunks_get] at hj
          split at hj
          · rename_i hjl
            cases hj
            have : (j + 1) * s ≤ len * s := Nat.mul_le_mul_right _ hjl
            rw [Nat.add_mul] at this
            simp; omega
          · cases hj
        · rw [chunks_get] at hi
          split at hi
          · cases hi
            rw [List.getElem?_take] at ho2
            split at ho2
            · rw [List.getElem?_drop] at ho2
              exact u2.2 _ _ ho2
            · cases ho2
          · cases hi
        · refine new_os hφ' (by rw [chunks_length]; exact Nat.le_refl _) (Nat.le_refl _) ?_ (fun _ => rfl) hw (by rw [u2.1, hlen]; exact Nat.le_refl _)
          have : len ≤ len * s := Nat.le_mul_of_pos_right _ (by omega)
          omega
    · cases hr
  · cases hr
end Go.Mini

namespace Go.Mini
set_option linter.unusedVariables false
set_option linter.unusedSimpArgs false
variable {P : Program} {G : Nat → Option V} {forb : Nat → Prop} {φ : Phi} {w : World} {t : List V} {a : Act} {D : Nat → Prop} {base : Nat} {h : H} {o : Oper}

/-- what a slice's elements are in the model -/
def ElR (forb : Nat → Prop) (w : World) (φ : Phi) (sz : Nat) (els : List (List V)) (A : Addr) : Prop :=
  (∀ el ∈ els, el.length = sz) ∧ ∀ (i : Nat) el (o : Nat) y, els[i]? = some el → el[o]? = some y → y.isCell = true ∧ ∃ u, w.cell? (A.add (i * sz + o)) = some u ∧ VR forb w φ y u

theorem elems_ok (hR : Rel forb φ D base h w) {v : V} {sz : Nat} {els : List (List V)} {r : List Nat} {c : Value} (he : elems h v = some (sz, els, r)) (hv : VR forb w φ v c) (hr : ∀ b ∈ r, D b) :
    ∃ A cap, c = .slice (some A) els.length cap ∧ els.length ≤ cap ∧ cap ≤ 9223372036854775807 ∧ ElR forb w φ sz els A := by
  unfold elems at he
  split at he
  · cases he
    obtain ⟨A, cap, rfl, q1, q2, q3, q4, q5⟩ := hv.rs_inv
    refine ⟨A, cap, rfl, q2, q3, q1, fun i el o y hi ho => ?_⟩
    obtain ⟨_, h4, u, h5⟩ := q4 i el o y hi ho
    exact ⟨h4, u, h5, (q5 i el o y u hi ho h5).less (fun _ h => h) (fun _ _ _ h => by cases h)⟩
  · rename_i b vv sz' i n clip
    split at he
    · rename_i x hx
      split at he
      · rename_i hc
        obtain ⟨hc1, hc2⟩ := hc
        cases he
        obtain ⟨L, A, cap, rfl, hφ, q1, q2, q3, q4, q5, q6, q7⟩ := hv.os_inv
        obtain ⟨hx1, hx2, hx3⟩ := rowAt_some hx
        obtain ⟨k1, k2, k3, k4, cs, ty, fr, k5, k6, k7⟩ := hR.row b x vv L (hr b (by simp)) hx1 hx2 hx3 hφ
        have hlen : ((x.els.drop i).take n).length = n := by simp; omega
        refine ⟨A, cap, by rw [hlen], by omega, q5, fun el hel => ?_, fun j el o y hj ho => ?_⟩
        · rw [← hc1]; exact k4 el (List.mem_of_mem_drop (List.mem_of_mem_take hel))
        · rw [List.getElem?_take] at hj
          split at hj
          · rename_i hjn
            rw [List.getElem?_drop] at hj
            obtain ⟨h3, u, h4, h5⟩ := k7 (i + j) el o y (by omega) (by omega) hj ho
            obtain ⟨hA, _⟩ := q7 (by omega)
            refine ⟨h3, u, ?_, h5⟩
            rw [hA, at_off]
            simp only [World.cell?, k5, Option.isSome_none, Bool.false_eq_true, if_false, Nat.zero_add]
            rw [← h4, q1]
            congr 1
            have : i + j - L.lo = (i - L.lo) + j := by omega
            rw [this, Nat.add_mul]; omega
          · cases hj
      · cases he
    · cases he
  · cases he

theorem op_mkslice_ok (ht : Tm G forb φ w t a) (hR : Rel forb φ D base h w) {ty el : TypeId} {inf : TypeInfo} {z : V} {l c : Operand} {dl dc : Opd} (ho : o.op = .makeSlice ty l c) (hu : P.underlying ty = some (.slice el)) (hi : P.info? el = some inf) (hz : zeroT P el = some z) (hl : opd l = some dl) (hc : opd c = some dc) (hs0 : inf.size ≠ 0) (hb0 : inf.bytes ≠ 0) (hzl : z.cells.length = inf.size) (hcc : z.cells.all V.isCell = true) {r : Res} (hr : op_mkslice G t inf.size inf.bytes z.cells dl dc h = some r) (hfree : ∀ v, φ h.length v = none) : Goes P o a w (Post forb φ D base h w r) := by
  unfold op_mkslice at hr
  split at hr
  · rename_i ln cn h1 h2
    split at hr
    · cases hr
    · rename_i hn
      simp only [not_or, Int.not_lt] at hn
      obtain ⟨n1, n2, n3⟩ := hn
      cases hr
      have v1 := ev_ok ht hl h1
      have v2 := ev_ok ht hc h2
      have e1 : a.eval l = .int .i64 ln := by generalize a.eval l = e at v1; cases v1; rfl
      have e2 : a.eval c = .int .i64 cn := by generalize a.eval c = e at v2; cases v2; rfl
      obtain ⟨it, zv, zi, z1, z2⟩ := zeroT_info hz
      obtain ⟨zv', z1', _⟩ := zeroT_ok hz
      have hzz : zv' = zv := by
        have := z1' w
        simp [zeroValue, typeInfo, zi, z1] at this
        exact this.symm
      subst hzz
      have hb1 : (1 : Int) ≤ inf.bytes := by omega
      have n3' : (inf.bytes : Int) * cn ≤ 140737488355328 := by omega
      have hcb : cn ≤ 140737488355328 := by
        have : cn ≤ inf.bytes * cn := by
          have := Int.mul_le_mul_of_nonneg_right hb1 (by omega : 0 ≤ cn)
          omega
        omega
      have w1 : IntKind.i64.wrap ln = ln := by rw [IntKind.wrap_i64]; omega
      have w2 : IntKind.i64.wrap cn = cn := by rw [IntKind.wrap_i64]; omega
      have hcr := cr_replicate (cr_zero hcc (z2 forb φ w)) cn.toNat inf.size hzl hs0
      refine goes_value (c := .slice (some ⟨w.heap.size, 0, none⟩) ln.toNat cn.toNat) (w' := grow w (.cells ((Array.range (cn.toNat * inf.size)).map (zv'.cells[· % zv'.cells.size]!)) el (0, 0))) ?_ ?_
      · have hroom : ¬ cn.toNat * inf.bytes > roomBytes := by
          have : ((cn.toNat * inf.bytes : Nat) : Int) ≤ 140737488355328 := by
            rw [Int.natCast_mul, Int.toNat_of_nonneg (by omega), Int.mul_comm]; exact n3'
          simp only [roomBytes]; omega
        have hsz : sizeT P el = some inf.size := by simp [sizeT, hi]
        have hti : (typeInfo el).run P w = .ok inf w := by simp [typeInfo, hi]
        have hmk : (Instr.makeSlice ty (.int .i64 ln) (.int .i64 cn)).run P w = .ok (.slice (some ⟨w.heap.size, 0, none⟩) ln.toNat cn.toNat) (grow w (.cells ((Array.range (cn.toNat * inf.size)).map (zv'.cells[· % zv'.cells.size]!)) el (0, 0))) := by
          unfold Instr.makeSlice
          have hcond : (decide (cn < 0) || decide ((inf.bytes : Int) * cn > 2 ^ 48) || decide (ln < 0) || decide (ln > cn)) = false := by
            simp; omega
          simp only [Sem.run_bind, run_underlying hu, Result.andThen_ok, asInt, asIntOf, Sem.run_pure, hti, w1, w2, hcond, Bool.false_eq_true, if_false, Sem.run_ite]
          have hask : (askRoom (cn.toNat * inf.bytes)).run P w = .ok () w := by unfold askRoom; rw [if_neg hroom]; rfl
          simp only [hask, Result.andThen_ok, run_sizeOf hsz]
          by_cases h0 : cn.toNat * inf.size = 0
          · have hc0 : cn.toNat = 0 := by rcases Nat.mul_eq_zero.1 h0 with h1 | h1; exact h1; exact (hs0 h1).elim
            simp only [h0, if_true, Sem.run_pure, Result.andThen_ok]
            simp [Go.newRow, newObj, Sem.run, hc0]
            have e0 : ∀ f g : Nat → Value, (Array.range 0).map f = (Array.range 0).map g := fun f g => by apply Array.ext <;> simp
            rw [e0]
          · simp only [h0, if_false, z1', Result.andThen_ok, Sem.run_pure, Sem.run_bind]
            simp [Go.newRow, newObj, Sem.run]
        unfold execOp; rw [ho]
        simp only [e1, e2]
        simp [hmk]
      · refine post_new hR inf.size (List.replicate cn.toNat z.cells) _ el (0, 0) (fun o _ => by simp) (fun e he => ?_) hfree (fun i e oo y hie hoy => ?_) (fun forb' φ' w' hφ' hw => ?_)
        · rw [List.eq_of_mem_replicate he]; exact hzl
        · have hilt : i < cn.toNat := by have := (List.getElem?_eq_some_iff.1 hie).1; simpa using this
          have he : e = z.cells := List.eq_of_mem_replicate (List.mem_of_getElem? hie)
          subst he
          have hol := (List.getElem?_eq_some_iff.1 hoy).1
          have hfl : (List.replicate cn.toNat z.cells).flatten[i * inf.size + oo]? = some y := by
            have hget : ∀ (n i : Nat), i < n → (List.replicate n z.cells).flatten[i * inf.size + oo]? = z.cells[oo]? := by
              intro n
              induction n with
              | zero => intro i hi; omega
              | succ n ih =>
                intro i hi
                rw [List.replicate_succ, List.flatten_cons]
                cases i with
                | zero => rw [List.getElem?_append_left (by omega)]; simp
                | succ i =>
                  rw [List.getElem?_append_right (by rw [Nat.add_mul]; omega)]
                  rw [show (i + 1) * inf.size + oo - z.cells.length = i * inf.size + oo by rw [Nat.add_mul]; omega]
                  exact ih i (by omega)
            rw [hget _ _ hilt, hoy]
          exact hcr.2 _ _ hfl
        · refine new_os hφ' (by simp; omega) (by omega) (by omega) (fun hh => by cases hh) hw (by simp)
  · cases hr

theorem op_s2b_ok (ht : Tm G forb φ w t a) (hR : Rel forb φ D base h w) {src dst el : TypeId} {x : Operand} {dx : Opd} (ho : o.op = .convert src dst x) (h1 : P.underlying src = some .string) (h2 : P.underlying dst = some (.slice el)) (h3 : P.underlying el = some (.int .u8)) (hx : opd x = some dx) {r : Res} (hr : op_s2b G t dx h = some r) (hfree : ∀ v, φ h.length v = none) : Goes P o a w (Post forb φ D base h w r) := by
  unfold op_s2b at hr
  split at hr
  · rename_i s hs
    split at hr
    · rename_i hlen
      cases hr
      have hv := ev_ok ht hx hs
      have he : a.eval x = .string ⟨s.toArray⟩ := by generalize a.eval x = e at hv; cases hv; rfl
      have hsz : (⟨s.toArray⟩ : ByteArray).size = s.length := by show s.toArray.size = _; simp
      generalize hcap : s.length + w.tape w.drawn (.appendCap s.length 0 el) % (2 ^ 63 - s.length) = cap
      have hc1 : s.length ≤ cap := by omega
      have hc2 : cap ≤ 9223372036854775807 := by
        have := Nat.mod_lt (w.tape w.drawn (.appendCap s.length 0 el)) (show 0 < 2 ^ 63 - s.length by omega)
        omega
      let cells : Array Value := (s.toArray.map fun b => Value.int .u8 b.toNat) ++ Array.replicate (cap - s.length) (.int .u8 0)
      have hcs : cells.size = cap := by simp [cells]; omega
      refine goes_value (c := .slice (some ⟨w.heap.size, 0, none⟩) s.length cap) (w' := grow { w with drawn := w.drawn + 1 } (.cells cells el (cap, cap + 1))) ?_ ?_
      · have hrun : (Conv.stringToBytes el ⟨s.toArray⟩).run P w = .ok (.slice (some ⟨w.heap.size, 0, none⟩) s.length cap) (grow { w with drawn := w.drawn + 1 } (.cells cells el (cap, cap + 1))) := by
          have hch : (choose (.appendCap s.length 0 el)).run P w = .ok cap { w with drawn := w.drawn + 1 } := by
            rw [← hcap]; rfl
          have hfr : ∀ w0 : World, ∀ cs : Array Value, cs.size = cap → (do let a ← Go.newRow el cs; markStringish a; pure (Value.slice (some a) s.length cap)).run P w0 = .ok (.slice (some ⟨w0.heap.size, 0, none⟩) s.length cap) (grow w0 (.cells cs el (cap, cap + 1))) := by
            intro w0 cs hcs
            have e1 : (w0.alloc (.cells cs el (0, 0))).shape? w0.heap.size = some (el, cs.size) := by
              unfold World.shape?
              show (match (w0.heap.push (Obj.cells cs el (0, 0)))[w0.heap.size]? with | some (.cells c e _) => some (e, c.size) | _ => none) = _
              simp
            simp only [Go.newRow, newObj, Sem.run_bind, Sem.run, Result.andThen_ok, Sem.run_pure]
            unfold markStringish
            simp only [shape, Sem.run_bind, Sem.run, Result.andThen_ok]
            have e2 : ({ w0 with heap := w0.heap.push (.cells cs el (0, 0)) } : World).shape? w0.heap.size = some (el, cs.size) := e1
            rw [e2]
            simp only [freeze, Sem.run, Result.andThen_ok, hcs]
            have e3 : ({ w0 with heap := w0.heap.push (.cells cs el (0, 0)) } : World).freeze ⟨w0.heap.size, cap, none⟩ 1 = grow w0 (.cells cs el (cap, cap + 1)) := by
              unfold World.freeze
              rw [if_neg (by decide)]
              show World.mk _ _ _ _ _ = World.mk _ _ _ _ _
              congr 1
              apply Array.ext_getElem?
              intro j
              rw [Array.getElem?_modify, Array.getElem?_push, Array.getElem?_push]
              by_cases e : j = w0.heap.size
              · subst e; simp
              · rw [if_neg (by simp only []; omega), if_neg e, if_neg e]
            rw [e3]
          unfold Conv.stringToBytes
          simp only [hsz, Sem.run_bind, hch, Result.andThen_ok]
          have := hfr { w with drawn := w.drawn + 1 } cells hcs
          simpa [Sem.run_bind, cells] using this
        unfold execOp; rw [ho]
        simp only [he]
        simp [convert, run_underlying h1, run_underlying h2, run_underlying h3, hrun]
      · have hp := post_new (hR.drew (w.drawn + 1)) (v := .os h.length 0 1 0 s.length false) (r := []) (c := .slice (some ⟨w.heap.size, 0, none⟩) s.length cap) 1 (s.map fun c => [V.int .u8 c.toNat]) cells el (cap, cap + 1) (fun o hoo => by simp; omega) (by simp) hfree (fun i e oo y hie hoy => ?_) (fun forb' φ' w' hφ' hw => new_os hφ' (by simp) hc1 hc2 (fun hh => by cases hh) hw (by omega))
        · obtain ⟨f', φ', p1, p2, p3, p4, p5, p6, p7, p8⟩ := hp
          exact ⟨f', φ', p1, p2, (Ext.drew forb w (w.drawn + 1)).trans p3, p4, p5, p6, p7, p8⟩
        · rw [List.getElem?_map] at hie
          rcases hq : s[i]? with _ | b
          · rw [hq] at hie; cases hie
          · rw [hq] at hie; cases hie
            cases oo with
            | zero =>
              simp at hoy; subst hoy
              have hil := (List.getElem?_eq_some_iff.1 hq).1
              refine ⟨rfl, .int .u8 b.toNat, ?_, .int⟩
              have : (s.toArray.map fun b => Value.int .u8 b.toNat)[i]? = some (.int .u8 b.toNat) := by simp [hq]
              simp only [cells, Nat.mul_one, Nat.add_zero]
              rw [Array.getElem?_append_left (by simpa using hil)]
              exact this
            | succ n => simp at hoy
    · cases hr
  · cases hr

theorem add_eq {A : Addr} {w : World} {c : Value} (h : w.cell? A = some c) (k : Nat) : A.add k = ⟨A.block, A.off + k, none⟩ := by
  have hs : A.spot = none := by
    unfold World.cell? at h
    split at h
    · split at h
      · cases h
      · rename_i hn; cases hA : A.spot with | none => rfl | some s => simp [hA] at hn
    · cases h
  unfold Addr.add
  split
  · rename_i h0; subst h0; cases A; simp at hs ⊢; exact hs
  · rfl

theorem bytes_run {src dst e : TypeId} (hs : P.underlying src = some (.slice e)) (he : P.underlying e = some (.int .u8)) (hd : P.underlying dst = some .string) {els : List (List V)} {bs : List UInt8} {A : Addr} {cap : Nat}
    (hel : ElR forb w φ 1 els A) (hb : mapM? (fun c => match c with | [V.int .u8 n] => some (UInt8.ofNat n.toNat) | _ => none) els = some bs) :
    (Go.convert src dst (.slice (some A) els.length cap)).run P w = .ok (.string ⟨bs.toArray⟩) w := by
  have hget : ∀ i, i < els.length → ∃ n : Int, els[i]? = some [V.int .u8 n] ∧ bs[i]? = some (UInt8.ofNat n.toNat) := by
    intro i hi
    have hl := mapM?_length hb
    obtain ⟨x, h1, h2⟩ := mapM?_get hb i bs[i] (by simp [show i < bs.length by omega])
    split at h2
    · rename_i n
      refine ⟨n, h1, ?_⟩
      rw [h2]; simp [show i < bs.length by omega]
    · cases h2
  let xs : List Int := els.map fun c => match c with | [V.int _ n] => n | _ => 0
  have hxs : ∀ (i : Nat) (n : Int), els[i]? = some [V.int .u8 n] → xs[i]? = some n := by
    intro i n h; simp [xs, List.getElem?_map, h]
  have hcell : ∀ i, i < els.length → w.cell? (A.add i) = some (.int .u8 (xs.getD i 0)) := by
    intro i hi
    obtain ⟨n, h1, _⟩ := hget i hi
    obtain ⟨_, u, h3, h4⟩ := hel.2 i _ 0 _ h1 rfl
    cases h4
    simpa [List.getD, hxs i n h1] using h3
  have hbs : strOfNums xs = ⟨bs.toArray⟩ := by
    unfold strOfNums
    congr 2
    apply List.ext_getElem?
    intro i
    by_cases hi : i < els.length
    · obtain ⟨n, h1, h2⟩ := hget i hi
      rw [List.getElem?_map, hxs i n h1, h2]; rfl
    · have hl := mapM?_length hb
      rw [List.getElem?_eq_none (by simp [xs]; omega), List.getElem?_eq_none (by omega)]
  rcases Nat.eq_zero_or_pos els.length with h0 | h0
  · have hA : ∀ i, i < els.length → w.cell? ⟨A.block, A.off + i, none⟩ = some (.int .u8 (xs.getD i 0)) := fun i hi => by omega
    have h1 := run_convert_bytes_string (P := P) w src dst e (some A) els.length cap hs he hd
    rw [h1, ← hbs]
    have : xs = [] := by apply List.eq_nil_of_length_eq_zero; simp [xs, h0]
    rw [this, h0]
    simp [Conv.bytesToString, loadCells, loadCellsFrom, strOfNums]
    rfl
  · have h00 : w.cell? A = some (.int .u8 (xs.getD 0 0)) := hcell 0 h0
    have hA := add_eq h00
    have hA0 : A = ⟨A.block, A.off, none⟩ := hA 0
    rw [← hbs]
    rw [hA0]
    exact run_convert_bytes_arg w src e hs he A.block A.off els.length cap xs (by simp [xs]) (fun i hi => by have h1 := hcell i hi; rw [hA i] at h1; exact h1) dst hd

theorem op_b2s_ok (ht : Tm G forb φ w t a) (hR : Rel forb φ D base h w) {src dst el : TypeId} {x : Operand} {dx : Opd} (ho : o.op = .convert src dst x) (h1 : P.underlying src = some (.slice el)) (h2 : P.underlying dst = some .string) (h3 : P.underlying el = some (.int .u8)) (hx : opd x = some dx) {r : Res} (hr : op_b2s G t dx h = some r) (hD : ∀ b ∈ r.r, D b) : Goes P o a w (Post forb φ D base h w r) := by
  have hrun : ∀ c v, a.eval x = c → (Go.convert src dst c).run P w = .ok v w → (execOp a.eval o).run P w = .ok (.value v) w := by
    intro c v hc hv
    unfold execOp; rw [ho]
    simp only [hc]
    simp [hv]
  unfold op_b2s at hr
  split at hr
  · rename_i v hv
    have hvr := ev_ok ht hx hv
    split at hr
    · rename_i els rr hq
      split at hr
      · rename_i bs hb
        cases hr
        split at hq
        · cases hq
          simp [mapM?] at hb; subst hb
          have he : a.eval x = .slice none 0 0 := by generalize a.eval x = e at hvr; cases hvr; rfl
          exact goes_same hR (hrun _ _ he (run_convert_bytes_nil w src el h1 h3 0 0 dst h2)) .str
        · obtain ⟨A, cap, he, _, _, hel⟩ := elems_ok hR hq hvr hD
          exact goes_same hR (hrun _ _ he (bytes_run h1 h3 h2 hel hb)) .str
      · cases hr
    · cases hr
  · cases hr
end Go.Mini

namespace Go.Mini
set_option linter.unusedVariables false
set_option linter.unusedSimpArgs false
variable {P : Program} {G : Nat → Option V} {forb : Nat → Prop} {φ : Phi} {w : World} {t : List V} {a : Act} {D : Nat → Prop} {base : Nat} {h : H} {o : Oper}
theorem mapAt_some {b : Nat} {es : Ents} (hx : mapAt h b = some es) : h[b]? = some (.mp es) := by
  unfold mapAt at hx
  split at hx
  · cases hx; assumption
  · cases hx
theorem keyOfV_ok {ks : List FK} {kv : V} {key : List (IntKind × Int)} (hk : keyOfV ks kv = some key) {c : Value} (hv : VR forb w φ kv c) : c = .agg ⟨key.map toVal⟩ ∧ ks.length = key.length := by
  unfold keyOfV at hk
  split at hk
  · rename_i cs
    simp only [cond_eq_ite] at hk
    split at hk
    case isFalse => cases hk
    rename_i hcl
    have hcl := Nat.eq_of_beq_eq_true hcl
    refine ⟨?_, by rw [← hcl, mapM?_length hk]⟩
    obtain ⟨vs, rfl, hl, hc, hv⟩ := hv.agg_inv
    congr 2
    have hml := mapM?_length hk
    apply List.ext_getElem?
    intro i
    by_cases hi : i < cs.length
    · obtain ⟨p, hp⟩ : ∃ p, key[i]? = some p := ⟨key[i]'(by omega), by simp [show i < key.length by omega]⟩
      obtain ⟨x, p1, p2⟩ := mapM?_get hk i p hp
      have hvi := hv i x vs[i] p1 (by simp [show i < vs.length by omega])
      split at p2
      · obtain rfl := Option.some.inj p2
        rw [List.getElem?_map, List.getElem?_eq_getElem (show i < vs.length by omega), hp]
        generalize vs[i] = z at hvi
        cases hvi
        rfl
      · cases p2
    · rw [List.getElem?_eq_none (by omega), List.getElem?_eq_none (by simp; omega)]
  · cases hk
theorem vr_toV (p : IntKind × Int) : VR forb w φ (toV p) (toVal p) := .int
theorem keys_vr (key : List (IntKind × Int)) : ∀ (i : Nat) z, (key.map toV)[i]? = some z → ∃ c, (⟨key.map toVal⟩ : Array Value)[0 + i]? = some c ∧ VR forb w φ z c := by
  intro i z hz
  rw [List.getElem?_map] at hz
  rcases hq : key[i]? with _ | p
  · rw [hq] at hz; cases hz
  · rw [hq] at hz; cases hz
    exact ⟨toVal p, by simp [hq], vr_toV p⟩
/-- two keys held against each other -/
theorem equal_keys {kt : TypeId} {ks : List FK} (hf : flatT P kt = some ks) {a b : List (IntKind × Int)} {r : Bool} (h : eqCs ks (a.map toV) (b.map toV) = some r) (w : World) : (Op.equal kt (.agg ⟨a.map toVal⟩) (.agg ⟨b.map toVal⟩)).run P w = .ok r w := by
  obtain ⟨f1, f2, f3, f4⟩ := flatT_ok hf
  have he := eqCs_ok (P := P) (forb := fun _ => False) (φ := noPhi) (w := w) 9998 ⟨a.map toVal⟩ ⟨b.map toVal⟩ f4 h (keys_vr a) (keys_vr b)
  exact (run_equalIn_struct w 9999 kt _ _ f1 f2).trans he
theorem find_keys {kt : TypeId} {ks : List FK} (hf : flatT P kt = some ks) {key : List (IntKind × Int)} (w : World) : ∀ {es : Ents} {es' : List MapEntry} {r : Option (IntKind × Int)} (i : Nat), lookE ks key es = some r → es'.map (fun e => (e.key, e.val)) = es.map (fun p => (Value.agg ⟨p.1.map toVal⟩, toVal p.2)) →
    ∃ q, (Instr.findAsking kt (.agg ⟨key.map toVal⟩) es' i).run P w = .ok q w ∧ q.map (·.2) = r.map toVal
  | [], es', r, i, h, he => by
    cases h
    obtain rfl : es' = [] := by simpa using he
    exact ⟨none, by simp [Instr.findAsking], rfl⟩
  | e :: es, es', r, i, h, he => by
    rcases es' with _ | ⟨e', es'⟩
    · simp at he
    simp only [List.map_cons, List.cons.injEq, Prod.mk.injEq] at he
    obtain ⟨⟨e1, e2⟩, e3⟩ := he
    unfold lookE at h
    split at h
    · rename_i hq; cases h
      refine ⟨some (i, e'.val), ?_, by simp [e2]⟩
      have := equal_keys hf hq w
      rw [← e1] at this
      simp [Instr.findAsking, Sem.run_bind, this]
    · rename_i hq
      obtain ⟨q, h1, h2⟩ := find_keys hf w (i + 1) h e3
      refine ⟨q, ?_, h2⟩
      have := equal_keys hf hq w
      rw [← e1] at this
      simp [Instr.findAsking, Sem.run_bind, this, h1]
    · cases h
theorem findNow_struct {fs : Array Field} {k : Value} : ∀ {es : List MapEntry} {i : Nat} {r : Option (Nat × Value)}, Instr.findNow (.struct fs) k es i = some r → es = [] ∧ r = none
  | [], i, r, h => by cases h; exact ⟨rfl, rfl⟩
  | e :: es, i, r, h => by
    simp only [Instr.findNow] at h
    have : Instr.sameNow (.struct fs) k e.key = none := by unfold Instr.sameNow; rfl
    rw [this] at h; cases h
theorem findKey_ok {kt : TypeId} {ks : List FK} (hf : flatT P kt = some ks) {key : List (IntKind × Int)} (w : World) {es : Ents} {es' : List MapEntry} {r : Option (IntKind × Int)} (h : lookE ks key es = some r) (he : es'.map (fun e => (e.key, e.val)) = es.map (fun p => (Value.agg ⟨p.1.map toVal⟩, toVal p.2))) :
    ∃ q, (Instr.findKey kt (.agg ⟨key.map toVal⟩) es').run P w = .ok q w ∧ q.map (·.2) = r.map toVal := by
  obtain ⟨f1, f2, f3, f4⟩ := flatT_ok hf
  obtain ⟨q, h1, h2⟩ := find_keys hf w 0 h he
  refine ⟨q, ?_, h2⟩
  unfold Instr.findKey
  simp only [Sem.run_bind, run_underlying f1, Result.andThen_ok]
  split
  · rename_i r' hr
    obtain ⟨rfl, rfl⟩ := findNow_struct hr
    rw [← h1]; simp [Instr.findAsking]
  · exact h1
theorem check_basic {ty : TypeId} {k : FK} (hf : k.fits P ty) (em : Bool) (n : Nat) (v : Value) (w : World) : (Instr.checkKey em (n + 1) ty v).run P w = .ok () w := by
  unfold Instr.checkKey
  cases k <;> simp only [FK.fits] at hf
  · simp only [Sem.run_bind, run_underlying hf, Result.andThen_ok]
    cases v <;> rfl
  · obtain ⟨k, hf⟩ := hf
    simp only [Sem.run_bind, run_underlying hf, Result.andThen_ok]
    cases v <;> rfl
  · simp only [Sem.run_bind, run_underlying hf, Result.andThen_ok]
    cases v <;> rfl
theorem check_fields (em : Bool) (n : Nat) (cs : Array Value) (w : World) : ∀ {fs : List Field} {i : Nat} {ks : List FK}, Flat P fs i ks → i + ks.length ≤ cs.size →
    (forIn fs PUnit.unit (fun (f : Field) (_ : PUnit) => (do
      if f.name ≠ "_" then Instr.checkKey em (n + 1) f.type (← part f.type cs f.offset)
      pure (ForInStep.yield PUnit.unit) : Sem (ForInStep PUnit)))).run P w = .ok PUnit.unit w
  | [], i, ks, hf, hl => by simp
  | f :: fs, i, ks, hf, hl => by
    cases hf with
    | cons h1 h2 h3 h4 =>
      simp at hl
      have ih := check_fields em n cs w h4 (by omega)
      have hpart := run_part_basic (P := P) (w := w) (cs := cs) (off := f.offset) (c := cs[f.offset]'(by omega)) h3 (by simp [show f.offset < cs.size by omega])
      rw [List.forIn_cons]
      simp only [Sem.run_bind, Sem.run_ite, if_pos h1, hpart, Result.andThen_ok, check_basic h3, Sem.run_pure]
      exact ih
theorem check_ok {kt : TypeId} {ks : List FK} (hf : flatT P kt = some ks) {key : List (IntKind × Int)} (hl : ks.length ≤ key.length) (em : Bool) (w : World) : (Instr.checkKey em 10000 kt (.agg ⟨key.map toVal⟩)).run P w = .ok () w := by
  obtain ⟨f1, f2, f3, f4⟩ := flatT_ok hf
  have h := check_fields (P := P) em 9998 ⟨key.map toVal⟩ w f4 (by simpa using hl)
  unfold Instr.checkKey
  simp only [Sem.run_bind, run_underlying f1, Result.andThen_ok]
  rw [← Array.forIn_toList]
  simp at h ⊢
  rw [h]; rfl
theorem lookR_vr {zk : IntKind} {z : Int} {r : Option (IntKind × Int)} : VR forb w φ (lookR zk z false r) (match r with | some p => toVal p | none => .int zk z) := by
  cases r <;> exact .int
theorem op_mkmap_ok (ht : Tm G forb φ w t a) (hR : Rel forb φ D base h w) {ty : TypeId} (ho : o.op = .makeMap ty none) {r : Res} (hr : op_mkmap t h = some r) (hfree : ∀ v, φ h.length v = none) : Goes P o a w (Post forb φ D base h w r) := by
  unfold op_mkmap at hr
  cases hr
  refine goes_value (c := .map (some w.heap.size)) (w' := grow w (.map #[] 0)) ?_ (post_newmap hR hfree)
  unfold execOp; rw [ho]
  simp [Instr.makeMap, newObj, Sem.run]
theorem run_getObj_map {b : Nat} {es' : Array MapEntry} {clock : Nat} (hb : w.heap[b]? = some (.map es' clock)) : (getObj b).run P w = .ok (.map es' clock) w := by
  simp [getObj, Sem.run, hb]
theorem op_look_ok (ht : Tm G forb φ w t a) (hR : Rel forb φ D base h w) {ty kt et : TypeId} {x ix : Operand} {ok : Bool} {ks : List FK} {zk : IntKind} {z : Int} {dx di : Opd} (ho : o.op = .lookup ty x ix ok) (hu : P.underlying ty = some (.map kt et)) (hf : flatT P kt = some ks) (hz : zeroT P et = some (.int zk z)) (hx : opd x = some dx) (hi : opd ix = some di) {r : Res} (hr : op_look G t ks zk z ok dx di h = some r) (hD : ∀ b, (b ∈ r.r ∨ b ∈ r.w) → D b) : Goes P o a w (Post forb φ D base h w r) := by
  unfold op_look at hr
  split at hr
  · rename_i b kv hb1 hb2
    split at hr
    · rename_i key es hk hm
      split at hr
      · rename_i q hq
        cases hr
        have h1 := ev_ok ht hx hb1
        have h2 := ev_ok ht hi hb2
        obtain ⟨l, e1, hφ⟩ := h1.mp_inv
        obtain ⟨e2, e3⟩ := keyOfV_ok hk h2
        obtain ⟨es', clock, g1, g2⟩ := hR.mp b es l (hD b (.inl (by simp))) (mapAt_some hm) hφ
        obtain ⟨p, g3, g4⟩ := findKey_ok hf w hq g2
        obtain ⟨zv, z1, z2⟩ := zeroT_ok hz
        have z3 := z2 forb φ w
        have hchk := check_ok (P := P) hf (key := key) (by omega) es'.isEmpty w
        have hrun : (Instr.lookup ty (.map (some l.cb)) (.agg ⟨key.map toVal⟩) ok).run P w = .ok (if ok then .tuple #[(p.map (·.2)).getD zv, .bool p.isSome] else (p.map (·.2)).getD zv) w := by
          unfold Instr.lookup
          simp only [Sem.run_bind, run_underlying hu, Result.andThen_ok, run_getObj_map g1, Sem.run_pure, hchk, g3]
          rcases p with _ | ⟨i, v⟩
          · simp only [Sem.run_bind, z1, Result.andThen_ok, Sem.run_pure]; rfl
          · simp only [Sem.run_bind, Result.andThen_ok, Sem.run_pure]; rfl
        refine goes_same hR (c := if ok then .tuple #[(p.map (·.2)).getD zv, .bool p.isSome] else (p.map (·.2)).getD zv) ?_ ?_
        · unfold execOp; rw [ho]
          simp [e1, e2, hrun]
        · have hs : p.isSome = q.isSome := by
            have := congrArg Option.isSome g4
            simpa using this
          rw [g4, hs]
          have tup2 : ∀ {x : V} {c : Value} {b : Bool}, VR forb w φ x c → VR forb w φ (.tup [x, .bool b]) (.tuple #[c, .bool b]) := fun {x c b} hx => by
            refine .tup (vs := [c, .bool b]) rfl fun i y d hy hd => ?_
            match i with
            | 0 => simp at hy hd; subst hy hd; exact hx
            | 1 => simp at hy hd; subst hy hd; exact .bool
            | i + 2 => simp at hy
          rcases q with _ | q
          · cases ok
            · exact z3
            · exact tup2 z3
          · cases ok
            · exact VR.int
            · exact tup2 VR.int
      · cases hr
    · cases hr
  · cases hr
theorem op_mput_ok (ht : Tm G forb φ w t a) (hR : Rel forb φ D base h w) {ty kt et : TypeId} {m k x : Operand} {ks : List FK} {dm dk dx : Opd} (ho : o.op = .mapUpdate ty m k x) (hu : P.underlying ty = some (.map kt et)) (hf : flatT P kt = some ks) (hm : opd m = some dm) (hk : opd k = some dk) (hx : opd x = some dx) {r : Res} (hr : op_mput G t ks dm dk dx h = some r) (hD : ∀ b, (b ∈ r.r ∨ b ∈ r.w) → D b) : Goes P o a w (Post forb φ D base h w r) := by
  unfold op_mput at hr
  split at hr
  · rename_i b kv xk n hb1 hb2 hb3
    split at hr
    · rename_i key es hkey hm2
      split at hr
      · rename_i hq
        cases hr
        have h1 := ev_ok ht hm hb1
        have h2 := ev_ok ht hk hb2
        have h3 := ev_ok ht hx hb3
        obtain ⟨l, e1, hφ⟩ := h1.mp_inv
        obtain ⟨e2, e3⟩ := keyOfV_ok hkey h2
        have hMap := hR.mp b es l (hD b (.inr (by simp))) (mapAt_some hm2) hφ
        obtain ⟨es', clock, g1, g2⟩ := hMap
        obtain ⟨p, g3, g4⟩ := findKey_ok hf w hq g2
        have hp : p = none := by simpa using g4
        subst hp
        have hchk := check_ok (P := P) hf (key := key) (by omega) false w
        have e4 : a.eval x = .int xk n := by
          generalize a.eval x = c at h3
          cases h3; rfl
        have hlt : l.cb < w.heap.size := (hR.low b 0 l hφ).2.1
        obtain ⟨w', hw'⟩ : ∃ w' : World, w' = { w with heap := w.heap.setIfInBounds l.cb (.map (es'.push { key := .agg ⟨key.map toVal⟩, val := .int xk n, born := clock }) (clock + 1)) } := ⟨_, rfl⟩
        have hrun : (Instr.mapUpdate ty (.map (some l.cb)) (.agg ⟨key.map toVal⟩) (.int xk n)).run P w = .ok () w' := by
          unfold Instr.mapUpdate
          simp only [Sem.run_bind, run_underlying hu, Result.andThen_ok, run_getObj_map g1, hchk, g3]
          simp [setObj, Sem.run, hw', g1]
        refine .inr (.inl ⟨w', ?_, post_putmap hR (mapAt_some hm2) (hD b (.inr (by simp))) hφ ⟨es', clock, g1, g2⟩ ⟨_, clock + 1, by rw [hw']; simp [hlt]; rfl, ?_⟩ (fun j hj => by rw [hw']; simp [Array.getElem?_setIfInBounds, Ne.symm hj]) (by rw [hw']; simp) (by rw [hw']) (by rw [hw']) (by rw [hw'])⟩)
        · unfold execOp; rw [ho]
          simp [e1, e2, e4, hrun]
        · simp only [Array.toList_push, List.map_append, g2, List.map_cons, List.map_nil]
          rfl
      · cases hr
    · cases hr
  · cases hr
end Go.Mini
