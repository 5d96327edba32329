/-
Symbolic runs of the small machine, step by step.
-/
import Derived.Test.YtgcehfooibpccaaMiniMemo
namespace Go.Mini
def orV (a b : Int) : Int := wrapF .u32 (BitVec.ofInt 32 a ||| BitVec.ofInt 32 b).toNat
def andV (a b : Int) : Int := wrapF .u32 (BitVec.ofInt 32 a &&& BitVec.ofInt 32 b).toNat
theorem intAnd (a b : Int) : intV .and .u32 a .u32 b = some (.int .u32 (andV a b)) := by simp only [intV, kindEq, cond_true, forceI_eq]; rfl
theorem intOr (a b : Int) : intV .or .u32 a .u32 b = some (.int .u32 (orV a b)) := by simp only [intV, kindEq, cond_true, forceI_eq]; rfl
theorem intNe (a b : Int) : intV .neq .u32 a .u32 b = some (.bool (!(eqF a b))) := by rfl
section
variable {G : Nat → Option V} {C : FuncId → List V → H → Option Res} {t : List V} {h : H} {x y : Opd} {a b : Int} {n0 k : Nat} {o : MOper} {ms : List MOper} {s s' s1 s2 : St}
theorem bin_and (hx : ev G t x = some (.int .u32 a)) (hy : ev G t y = some (.int .u32 b)) : opV G C t (.bin .and .no x y) h = some ⟨.int .u32 (andV a b), h, [], []⟩ := by simp only [opV, op_bin, hx, hy, binV, intAnd, one]
theorem bin_or (hx : ev G t x = some (.int .u32 a)) (hy : ev G t y = some (.int .u32 b)) : opV G C t (.bin .or .no x y) h = some ⟨.int .u32 (orV a b), h, [], []⟩ := by simp only [opV, op_bin, hx, hy, binV, intOr, one]
theorem bin_ne {c : Bool} (hx : ev G t x = some (.int .u32 a)) (hy : ev G t y = some (.int .u32 b)) (hc : (!(eqF a b)) = c) : opV G C t (.bin .neq .no x y) h = some ⟨.bool c, h, [], []⟩ := by subst hc; simp only [opV, op_bin, hx, hy, binV, intNe, one]
theorem bin_eqb {c : Bool} {a b : Bool} (hx : ev G t x = some (.bool a)) (hy : ev G t y = some (.bool b)) (hc : (a == b) = c) : opV G C t (.bin .eql .bool x y) h = some ⟨.bool c, h, [], []⟩ := by subst hc; simp only [opV, op_bin, hx, hy, binV, boolV, eqOp, one]
theorem regV_go {d : Option Nat} {op : MOp} {g : Option (Nat × Bool)} {t t1 : List V} {h h1 : H} {r r1 r2 w w1 w2 : List Nat} {v : V} (hw : wantedV t g = true) (hx : opV G C t op h = some ⟨v, h1, r1, w1⟩) (ht : putV t d v = t1) (hr : uni n0 r1 r = r2) (hww : uni n0 w1 w = w2) (hk : regV G C n0 ms ⟨t1, h1, r2, w2⟩ = some s') : regV G C n0 (⟨d, op, g⟩ :: ms) ⟨t, h, r, w⟩ = some s' := by
  subst ht hr hww; simp only [regV, hw, cond_true, hx, regStep]; exact hk
theorem regV_skip {d : Option Nat} {op : MOp} {g : Option (Nat × Bool)} {t t1 : List V} {h : H} {r w : List Nat} (hw : wantedV t g = false) (ht : putV t d .undef = t1) (hk : regV G C n0 ms ⟨t1, h, r, w⟩ = some s') : regV G C n0 (⟨d, op, g⟩ :: ms) ⟨t, h, r, w⟩ = some s' := by
  subst ht; simp only [regV, hw, cond_false]; exact hk
theorem regV_nil (hk : s = s') : regV G C n0 [] s = some s' := by rw [hk]; rfl
theorem drawV_go {d : Option Nat} {op : MOp} {g : Option (Nat × Bool)} {t t1 : List V} {h h1 : H} {r r1 r2 w w1 w2 : List Nat} {v : V} {j m : Nat} {masks : List Nat} {fs fs' : List (Nat × List Nat × List Nat)} (hw : wantedV t g = true) (hx : opV G C t op h = some ⟨v, h1, r1, w1⟩) (hf : freeAt m r1 (allW h ⟨v, h1, r1, w1⟩) fs = true) (hn : note j r1 (allW h ⟨v, h1, r1, w1⟩) fs = fs') (ht : putV t d v = t1) (hr : uni n0 r1 r = r2) (hww : uni n0 w1 w = w2) (hk : drawV G C n0 ms (j + 1) masks fs' ⟨t1, h1, r2, w2⟩ = some s') : drawV G C n0 (⟨d, op, g⟩ :: ms) j (m :: masks) fs ⟨t, h, r, w⟩ = some s' := by
  subst ht hr hww hn; simp only [drawV, hw, cond_true, hx, drawStep, hf]; exact hk
theorem drawV_skip {d : Option Nat} {op : MOp} {g : Option (Nat × Bool)} {t t1 : List V} {h : H} {r w : List Nat} {j m : Nat} {masks : List Nat} {fs : List (Nat × List Nat × List Nat)} (hw : wantedV t g = false) (ht : putV t d .undef = t1) (hk : drawV G C n0 ms (j + 1) masks fs ⟨t1, h, r, w⟩ = some s') : drawV G C n0 (⟨d, op, g⟩ :: ms) j (m :: masks) fs ⟨t, h, r, w⟩ = some s' := by
  subst ht; simp only [drawV, hw, cond_false]; exact hk
theorem drawV_nil {j : Nat} {masks : List Nat} {fs : List (Nat × List Nat × List Nat)} (hk : s = s') : drawV G C n0 [] j masks fs s = some s' := by rw [hk]; rfl
variable {c d : MCode} {p : Ex × St}
theorem ex_seq {q : Ex × St} (hc : exec G C n0 k c s = some q) (hd : exSeq (exec G C n0 k) d (some q) = some p) : exec G C n0 (k + 1) (.seq c d) s = some p := by
  simp only [exec, exStep, hc]; exact hd
theorem ex_norm (hd : exec G C n0 k d s1 = some p) : exSeq (exec G C n0 k) d (some (.normal, s1)) = some p := hd
theorem ex_stop {F : MCode → St → Option (Ex × St)} : exSeq F d (some (.ret, s1)) = some (.ret, s1) := rfl
theorem ex_ret : exec G C n0 (k + 1) .ret s = some (.ret, s) := rfl
theorem ex_skip : exec G C n0 (k + 1) .skip s = some (.normal, s) := rfl
theorem ex_reg (hr : regV G C n0 ms s = some s1) : exec G C n0 (k + 1) (.reg ms) s = some (.normal, s1) := by
  simp only [exec, exStep, hr, exReg]
theorem ex_draw {masks : List Nat} (hr : drawV G C n0 ms 0 masks [] s = some s1) : exec G C n0 (k + 1) (.draw ms masks) s = some (.normal, s1) := by
  simp only [exec, exStep, hr, exReg]
theorem ex_true (hv : ev G s.t x = some (.bool true)) (hc : exec G C n0 k c s = some p) : exec G C n0 (k + 1) (.cond x c d) s = some p := by
  simp only [exec, exStep, hv, exCond]; exact hc
theorem ex_false (hv : ev G s.t x = some (.bool false)) (hd : exec G C n0 k d s = some p) : exec G C n0 (k + 1) (.cond x c d) s = some p := by
  simp only [exec, exStep, hv, exCond]; exact hd
end
theorem call_succ (E : Env) (n : Nat) (f : FuncId) (args : List V) (h : H) : call E (n + 1) f args h = callStep E (call E n) n f args h (E.mode f) := rfl
theorem call_pure {E : Env} {n : Nat} {f : FuncId} {args : List V} {h : H} {as : List (V × List Nat)} {as1 : List V} {v : V} {r : List Nat} (hm : E.mode f = .pure) (hl : mapM? (lend h 100) args = some as) (h1 : as.map (·.1) = as1) (hr : as.flatMap (·.2) = r) (hv : pureBody E (call E n) n f as1 = some v) (hb : (r.isEmpty || v.plain) = true) : call E (n + 1) f args h = some ⟨v, h, r, []⟩ := by
  rw [call_succ, hm]
  subst h1 hr
  simp only [callStep, hl, callPure, hv, hb, cond_true]
theorem pure_run {E : Env} {C : FuncId → List V → H → Option Res} {n nt : Nat} {body : MCode} {res : List MRes} {f : FuncId} {args t0 : List V} {s : St} {x : Res} (hm : E.memo f args = none) (hf : E.fn f = some ⟨nt, body, res⟩) (h0 : args ++ List.replicate (nt - args.length) .undef = t0)
    (hx : exec E.G C 0 n body ⟨t0, [], [], []⟩ = some (.ret, s)) (hr : callRes 0 false res s = some x) {v : V} (hv : x.v = v) : pureBody E C n f args = some v := by
  subst h0 hv
  have hx' : exec E.G C (List.length ([] : H)) n body ⟨args ++ List.replicate (nt - args.length) .undef, [], [], []⟩ = some (.ret, s) := hx
  have hr' : callRes (List.length ([] : H)) false res s = some x := hr
  simp only [pureBody, hm, hf, callBody, hx', callEnd, hr']
theorem pure_memo {E : Env} {C : FuncId → List V → H → Option Res} {n : Nat} {f : FuncId} {args : List V} {v : V} (hm : E.memo f args = some v) : pureBody E C n f args = some v := by simp only [pureBody, hm]
theorem op_call_of {G : Nat → Option V} {C : FuncId → List V → H → Option Res} {t : List V} {h : H} {f : FuncId} {xs : List Opd} {cap as : List V} {x : Opd} {r : Res} (hx : ev G t x = some (.fn f cap)) (ha : evs G t xs = some as) (hc : C f (as ++ cap) h = some r) : opV G C t (.call x xs) h = some r := by
  simp only [opV, op_call, hx, ha]; exact hc
end Go.Mini
