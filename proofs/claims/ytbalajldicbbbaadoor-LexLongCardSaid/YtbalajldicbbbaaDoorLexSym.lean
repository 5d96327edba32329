/- A part of the proof: LexSym. No condition. -/
import Derived.Test.YtbalajldicbbbaaDoorKnownL
import Derived.Test.YtbalajldicbbbaaDoorLexMath
import Derived.Test.YtbalajldicbbbaaDoorMiniC
import Derived.Test.YtbalajldicbbbaaDoorHeapD
set_option linter.all false
set_option maxRecDepth 100000
namespace Go.Mini
set_option linter.all false
/-- a call that only reads told by a run, whatever it returns -/
theorem pures_any {E : Env} {nt : Nat} {body : MCode} {res : List MRes} {f : FuncId} {args t0 : List V} {v : V} (hm : E.memo f args = none) (hf : E.fn f = some ⟨nt, body, res⟩) (h0 : args ++ List.replicate (nt - args.length) .undef = t0)
    (hg : RQ E 0 body ⟨t0, [], [], []⟩ fun e s => (e = .ret ∨ e = .normal) ∧ ∃ vs r1, resV s.h s.t res = some (vs, r1) ∧ fz 0 s.h 100 false (tupV vs) = some v) : Pures E f args v := by
  obtain ⟨e, s, h1, he, vs, r1, h2, h3⟩ := hg
  have hw : s.w = [] := by
    obtain ⟨n, hn⟩ := h1
    exact exec_w hn
  refine pures_run hm hf h0 h1 he (x := ⟨v, [], uni 0 r1 s.r, []⟩) ?_ rfl
  have : fzBlk 0 s.h [] (s.h.take 0) = some [] := rfl
  simp only [callRes, h2, callOut, cond_false, h3, this, hw]
/-- a call that only reads, at the operation -/
theorem pc {E : Env} {f : FuncId} {args as1 : List V} {h : H} {xs : List (V × List Nat)} {v : V} (hm : E.mode f = .pure) (hl : mapM? (lend h 100) args = some xs) (h1 : xs.map (·.1) = as1) (hv : Pures E f as1 v) (hb : ((xs.flatMap (·.2)).isEmpty || v.plain) = true) : ∃ r, Calls' E f args h ⟨v, h, r, []⟩ :=
  ⟨_, calls_pure hm hl h1 rfl hv hb⟩
variable {E : Env} {t : List V} {h : H} {x y : Opd} {k : IntKind}
theorem ops_indexS {s : List UInt8} {n : Int} {i : Nat} (hx : ev E.G t x = some (.str s)) (hy : ev E.G t y = some (.int k n)) (hn : n = (i : Int)) (hi : i < s.length) : Ops E t (.index x y) h ⟨.int .u8 (Go.LexMath.at8 s i : Nat), h, [], []⟩ :=
  ops_of (by
    subst hn
    have h1 : s[i]? = some (s.getD i 0) := by rw [List.getElem?_eq_getElem hi, List.getD_eq_getElem?_getD, List.getElem?_eq_getElem hi]; rfl
    simp only [opV, op_index, hx, hy, Int.toNat_natCast, h1]
    rw [if_pos (by omega)]; rfl)
theorem ops_eqlS {a b : List UInt8} {cmp : Cmp} {c : Bool} (hx : ev E.G t x = some (.str a)) (hy : ev E.G t y = some (.str b)) (hc : (a == b) = c) : Ops E t (.bin .eql cmp x y) h ⟨.bool c, h, [], []⟩ :=
  ops_of (by subst hc; simp only [opV, op_bin, hx, hy, binV, strV, one])
theorem ops_neqS {a b : List UInt8} {cmp : Cmp} {c : Bool} (hx : ev E.G t x = some (.str a)) (hy : ev E.G t y = some (.str b)) (hc : (!(a == b)) = c) : Ops E t (.bin .neq cmp x y) h ⟨.bool c, h, [], []⟩ :=
  ops_of (by subst hc; simp only [opV, op_bin, hx, hy, binV, strV, one])
theorem ops_eqlB {a b : Bool} {c : Bool} (hx : ev E.G t x = some (.bool a)) (hy : ev E.G t y = some (.bool b)) (hc : (a == b) = c) : Ops E t (.bin .eql .bool x y) h ⟨.bool c, h, [], []⟩ :=
  ops_of (bin_eqb hx hy hc)
theorem ops_notB {a c : Bool} (hx : ev E.G t x = some (.bool a)) (hc : (!a) = c) : Ops E t (.un .not x) h ⟨.bool c, h, [], []⟩ :=
  ops_of (by subst hc; simp only [opV, op_un, hx, unV, one])
theorem ops_cutHi {s : List UInt8} {n : Int} {i : Nat} {y : Opd} (hx : ev E.G t x = some (.str s)) (hy : ev E.G t y = some (.int k n)) (hn : n = (i : Int)) (hi : i ≤ s.length) : Ops E t (.cutS x none (some y)) h ⟨.str (s.take i), h, [], []⟩ :=
  ops_of (by
    subst hn
    have e1 : boundOf E.G t s.length (some y) = some i := by
      simp only [boundOf, hy, asNat]; rw [if_pos (by omega)]; simp
    have e0 : boundOf E.G t 0 none = some 0 := rfl
    simp only [opV, op_cutS, hx, e0, e1]
    rw [if_pos ⟨Nat.zero_le _, hi⟩]; simp)
theorem ops_cutLo {s : List UInt8} {n : Int} {i : Nat} {y : Opd} (hx : ev E.G t x = some (.str s)) (hy : ev E.G t y = some (.int k n)) (hn : n = (i : Int)) (hi : i ≤ s.length) : Ops E t (.cutS x (some y) none) h ⟨.str (s.drop i), h, [], []⟩ :=
  ops_of (by
    subst hn
    have e1 : boundOf E.G t 0 (some y) = some i := by
      simp only [boundOf, hy, asNat]; rw [if_pos (by omega)]; simp
    have e0 : boundOf E.G t s.length none = some s.length := rfl
    simp only [opV, op_cutS, hx, e0, e1]
    rw [if_pos ⟨hi, Nat.le_refl _⟩]; simp)
theorem ops_cnt {s : List UInt8} {n : Nat} (hx : ev E.G t x = some (.str s)) (hy : ev E.G t y = some (.int .u8 (n : Nat))) (hn : n < 256) : Ops E t (.cntB x y) h ⟨.int .i64 (cntOf n s 0 : Nat), h, [], []⟩ :=
  ops_of (by
    have h1 : (n : Int).toNat.toUInt8.toNat = n := by simp; omega
    simp only [opV, op_cntB, hx, hy, h1])
end Go.Mini
namespace Go.Proofs.YtbalajldicbbbaaDoor.Code
open Go.Mini
set_option linter.all false
def lK : List (FuncId × List V × V) := [(6, a6, v6), (21, a2, v2)]
theorem nK : KnownG Tryd.prog gS lK := .cons k6 (.cons k2 .nil)
def EL : Env := envG tab (fun _ => .pure) gS lK
theorem EL_ok : EnvOk Tryd.prog EL := envG_ok tab_ok _ gS_ok nK
theorem awakeL : Pures EL 6 [] (.bool true) := pures_memo (by kernel_rfl)
theorem keysL : Pures EL 21 [] v2 := pures_memo (by kernel_rfl)
theorem pureL {f : FuncId} {args : List V} {v : V} (ha : ∀ x ∈ args, VB 0 x) (hx : Pures EL f args v) : PureOk Tryd.prog gS f args v := by
  obtain ⟨n, hn⟩ := hx
  exact pure_of_call EL_ok mix ha hn
end Go.Proofs.YtbalajldicbbbaaDoor.Code
