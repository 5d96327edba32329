/- A part of the proof: MiniOps5. No condition. -/
import Derived.Test.YtgknkkdemjjeoaaGreatDoorMiniOps4
set_option linter.all false
set_option maxRecDepth 100000
namespace Go.Mini
set_option linter.unusedVariables false
set_option linter.unusedSimpArgs false
variable {P : Program} {G : Nat → Option V} {forb : Nat → Prop} {φ : Phi} {w : World} {t : List V} {a : Act} {D : Nat → Prop} {base : Nat} {h : H} {o : Oper}

theorem aggN_some {ty : TypeId} {n : Nat} (h : aggN P ty = some (some n)) : (∀ w, (isAgg ty).run P w = .ok true w) ∧ (∀ w, (sizeOf ty).run P w = .ok n w) := by
  unfold aggN at h
  split at h
  · rename_i n' h1 h2
    cases h
    refine ⟨fun w => ?_, fun w => run_sizeOf h2⟩
    unfold isAggT at h1
    split at h1
    · rename_i hu; simp [isAgg, run_underlying hu]
    · rename_i hu; simp [isAgg, run_underlying hu]
    · cases h1
    · cases h1
  · cases h
  · cases h
theorem aggN_none {ty : TypeId} (h : aggN P ty = some none) : (∀ w, (isAgg ty).run P w = .ok false w) ∧ ∃ n, sizeT P ty = some n := by
  unfold aggN at h
  split at h
  · cases h
  · rename_i h1 h2
    refine ⟨fun w => ?_, _, h2⟩
    unfold isAggT at h1
    split at h1
    · cases h1
    · cases h1
    · rename_i d hs ha hu
      cases d <;> first | exact (hs _ rfl).elim | exact (ha _ _ rfl).elim | simp [isAgg, run_underlying hu]
    · cases h1
  · cases h

/-- cells of the small machine and the model's -/
def CR (forb : Nat → Prop) (w : World) (φ : Phi) (vs : List V) (cs : Array Value) : Prop :=
  cs.size = vs.length ∧ ∀ (i : Nat) y, vs[i]? = some y → y.isCell = true ∧ ∃ c, cs[i]? = some c ∧ VR forb w φ y c

theorem loadC_ok {agg : Option Nat} {cells : List V} {v : V} (h : loadC agg cells = some v) : (∃ n, agg = some n ∧ n ≤ cells.length ∧ v = .agg (cells.take n)) ∨ (agg = none ∧ cells[0]? = some v) := by
  unfold loadC at h
  split at h
  · split at h
    · cases h; exact .inl ⟨_, rfl, by assumption, rfl⟩
    · cases h
  · exact .inr ⟨rfl, by rw [← List.head?_eq_getElem?]; exact h⟩

theorem part_ok {ty : TypeId} {agg : Option Nat} (ha : aggN P ty = some agg) {vs : List V} {cs : Array Value} {off : Nat} {v : V} (hc : CR forb w φ vs cs) (h : loadC agg (vs.drop off) = some v) :
    ∃ c, (part ty cs off).run P w = .ok c w ∧ VR forb w φ v c := by
  rcases loadC_ok h with ⟨n, rfl, hn, rfl⟩ | ⟨rfl, hv⟩
  · obtain ⟨h1, h2⟩ := aggN_some ha
    refine ⟨.agg (cs.extract off (off + n)), by simp [part, h1, h2], ?_⟩
    have hlen : (vs.drop off).length = vs.length - off := by simp
    have : cs.extract off (off + n) = ⟨(cs.toList.drop off).take n⟩ := by
      apply Array.ext'; simp [Array.toList_extract]
    rw [this]
    refine .agg (by simp [hc.1]) (fun x hx => ?_) (fun i x c hx hcx => ?_)
    · obtain ⟨i, hi⟩ := List.getElem?_of_mem hx
      rw [List.getElem?_take] at hi
      split at hi
      · rw [List.getElem?_drop] at hi; exact (hc.2 _ _ hi).1
      · cases hi
    · rw [List.getElem?_take] at hx hcx
      split at hx
      · rename_i hlt
        rw [if_pos hlt] at hcx
        rw [List.getElem?_drop] at hx hcx
        obtain ⟨_, c', h3, h4⟩ := hc.2 _ _ hx
        rw [← Array.getElem?_toList] at h3
        rw [h3] at hcx; cases hcx; exact h4
      · cases hx
  · obtain ⟨h1, _⟩ := aggN_none ha
    rw [List.getElem?_drop] at hv
    obtain ⟨_, c, h3, h4⟩ := hc.2 _ _ hv
    refine ⟨c, ?_, h4⟩
    simp only [Nat.add_zero] at h3
    simp [part, h1, h3]

theorem agg_cr {cs : List V} {c : Value} (h : VR forb w φ (.agg cs) c) : ∃ vs, c = .agg vs ∧ CR forb w φ cs vs := by
  obtain ⟨vs, rfl, h1, h2, h3⟩ := h.agg_inv
  refine ⟨_, rfl, by simpa using h1, fun i y hy => ⟨h2 y (List.mem_of_getElem? hy), ?_⟩⟩
  have hi : i < vs.length := by rw [h1]; exact (List.getElem?_eq_some_iff.1 hy).1
  exact ⟨vs[i], by simp [hi], h3 i y _ hy (by simp [hi])⟩

theorem cr_agg {cs : List V} {vs : Array Value} (h : CR forb w φ cs vs) : VR forb w φ (.agg cs) (.agg vs) := by
  have : vs = ⟨vs.toList⟩ := rfl
  rw [this]
  refine .agg (by simpa using h.1) (fun x hx => ?_) (fun i x c hx hc => ?_)
  · obtain ⟨i, hi⟩ := List.getElem?_of_mem hx
    exact (h.2 i x hi).1
  · obtain ⟨_, c', h3, h4⟩ := h.2 i x hx
    rw [← Array.getElem?_toList] at h3
    rw [h3] at hc; cases hc; exact h4

theorem op_field_ok (ht : Tm G forb φ w t a) (hR : Rel forb φ D base h w) {ty : TypeId} {x : Operand} {f : Nat} {fs : Array Field} {fd : Field} {agg : Option Nat} {dx : Opd} (ho : o.op = .field ty x f) (hu : P.underlying ty = some (.struct fs)) (hf : fs[f]? = some fd) (ha : aggN P fd.type = some agg) (hx : opd x = some dx) {r : Res} (hr : op_field G t agg fd.offset dx h = some r) : Goes P o a w (Post forb φ D base h w r) := by
  unfold op_field at hr
  split at hr
  · rename_i cs hb
    have h1 := ev_ok ht hx hb
    obtain ⟨u, hu1, rfl⟩ := one_some hr
    obtain ⟨vs, he, hc⟩ := agg_cr h1
    obtain ⟨c, h2, h3⟩ := part_ok ha hc hu1
    refine goes_same hR (c := c) ?_ h3
    unfold execOp; rw [ho]
    simp [Instr.field, run_underlying hu, hf, he, asAgg, h2]
  · cases hr

theorem op_faddr_ok (ht : Tm G forb φ w t a) (hR : Rel forb φ D base h w) {ty : TypeId} {x : Operand} {f : Nat} {fs : Array Field} {fd : Field} {dx : Opd} (ho : o.op = .fieldAddr ty x f) (hu : P.underlying ty = some (.struct fs)) (hf : fs[f]? = some fd) {sz : Nat} (hsz : sizeT P fd.type = some sz) (hs0 : sz ≠ 0) (hx : opd x = some dx) {r : Res} (hr : op_faddr G t fd.offset dx h = some r) : Goes P o a w (Post forb φ D base h w r) := by
  unfold op_faddr at hr
  split at hr <;> cases hr
  · rename_i b v i oo hb
    have h1 := ev_ok ht hx hb
    obtain ⟨l, he, hφ, h2, h3⟩ := h1.ptr_inv
    refine goes_same hR (c := .pointer (some (l.at i (oo + fd.offset)))) ?_ (.ptr hφ h2 h3)
    unfold execOp; rw [ho]
    simp [Instr.fieldAt, run_underlying hu, hf, he, Instr.sureAddr, fieldPlace, run_sizeOf hsz, hs0, at_add]
  · rename_i cs hb
    have h1 := ev_ok ht hx hb
    obtain ⟨A, he, h2, h3⟩ := h1.rp_inv
    refine goes_same hR (c := .pointer (some (A.add fd.offset))) ?_ (.rp (fun o x hx => ?_) (fun o x c hx hc => ?_))
    · unfold execOp; rw [ho]
      simp [Instr.fieldAt, run_underlying hu, hf, he, Instr.sureAddr, fieldPlace, run_sizeOf hsz, hs0]
    · rw [List.getElem?_drop] at hx
      rw [add_block, add_add]
      exact h2 _ _ hx
    · rw [List.getElem?_drop] at hx
      rw [add_add] at hc
      exact h3 _ _ _ hx hc

theorem op_iaddr_ok (ht : Tm G forb φ w t a) (hR : Rel forb φ D base h w) {ty el : TypeId} {s : Nat} {x ix : Operand} {dx di : Opd} (ho : o.op = .indexAddr ty x ix) (hu : P.underlying ty = some (.slice el)) (hs : sizeT P el = some s) (hx : opd x = some dx) (hi : opd ix = some di) {r : Res} (hr : op_iaddr G t s dx di h = some r) : Goes P o a w (Post forb φ D base h w r) := by
  have hrun : ∀ A n cap k i, a.eval x = .slice (some A) n cap → a.eval ix = .int k i → 0 ≤ i → i < n → (execOp a.eval o).run P w = .ok (.value (.pointer (some (A.add (i.toNat * s))))) w := by
    intro A n cap k i h1 h2 h3 h4
    have h5 : 0 ≤ i ∧ i < (n : Int) := ⟨h3, h4⟩
    unfold execOp; rw [ho]
    simp [Instr.indexAt, h1, h2, asIntOf, run_underlying hu, run_sizeOf hs, h5]
  unfold op_iaddr at hr
  split at hr
  · rename_i sz els k n hb hc
    have h1 := ev_ok ht hx hb
    have h2 := ev_ok ht hi hc
    split at hr
    · rename_i hn
      obtain ⟨hn, rfl⟩ := hn
      split at hr
      · rename_i e hel
        cases hr
        obtain ⟨A, cap, he, q1, q2, q3, q4, q5⟩ := h1.rs_inv
        have hlt := (List.getElem?_eq_some_iff.1 hel).1
        have hi' : a.eval ix = .int k n := by generalize a.eval ix = c at h2; cases h2; rfl
        refine goes_same hR (hrun A _ cap k n he hi' hn (by omega)) (.rp (fun o x hx => ?_) (fun o x c hx hc => ?_))
        · rw [add_block, add_add]; exact q4 _ _ _ _ hel hx
        · rw [add_add] at hc; exact q5 _ _ _ _ _ hel hx hc
      · cases hr
    · cases hr
  · rename_i b v sz i m clip k n hb hc
    have h1 := ev_ok ht hx hb
    have h2 := ev_ok ht hi hc
    split at hr
    · rename_i hn
      obtain ⟨hn, hm, rfl⟩ := hn
      cases hr
      obtain ⟨L, A, cap, he, hφ, q1, q2, q3, q4, q5, q6, q7⟩ := h1.os_inv
      have hi' : a.eval ix = .int k n := by generalize a.eval ix = c at h2; cases h2; rfl
      obtain ⟨hA, _⟩ := q7 (by omega)
      have e : A.add (n.toNat * sz) = L.at (i + n.toNat) 0 := by
        rw [hA, at_add]
        simp only [Loc.at, q1, Nat.add_zero, Nat.zero_add]
        have : i + n.toNat - L.lo = (i - L.lo) + n.toNat := by omega
        rw [this, Nat.add_mul, Nat.add_assoc]
      refine goes_same hR (hrun A _ cap k n he hi' hn hm) ?_
      rw [e]
      exact .ptr hφ (by omega) (by omega)
    · cases hr
  · cases hr

theorem op_iaddrA_ok (ht : Tm G forb φ w t a) (hR : Rel forb φ D base h w) {ty el : TypeId} {len s : Nat} {x ix : Operand} {dx di : Opd} (ho : o.op = .indexAddr ty x ix) (hu : P.underlying ty = some (.array len el)) (hs : sizeT P el = some s) (hx : opd x = some dx) (hi : opd ix = some di) {r : Res} (hr : op_iaddrA G t len s dx di h = some r) : Goes P o a w (Post forb φ D base h w r) := by
  have hrun : ∀ A k i, a.eval x = .pointer (some A) → a.eval ix = .int k i → 0 ≤ i → i < len → (execOp a.eval o).run P w = .ok (.value (.pointer (some (A.add (i.toNat * s))))) w := by
    intro A k i h1 h2 h3 h4
    have h5 : 0 ≤ i ∧ i < (len : Int) := ⟨h3, h4⟩
    unfold execOp; rw [ho]
    simp [Instr.indexAt, Instr.sureAddr, h1, h2, asIntOf, run_underlying hu, run_sizeOf hs, h5]
  unfold op_iaddrA at hr
  split at hr
  · rename_i cells k n hb hc
    have h1 := ev_ok ht hx hb
    have h2 := ev_ok ht hi hc
    split at hr
    · rename_i hn
      cases hr
      obtain ⟨A, he, q4, q5⟩ := h1.rp_inv
      have hi' : a.eval ix = .int k n := by generalize a.eval ix = c at h2; cases h2; rfl
      refine goes_same hR (hrun A k n he hi' hn.1 hn.2) (.rp (fun o x hx => ?_) (fun o x c hx hc => ?_))
      · rw [List.getElem?_drop] at hx; rw [add_block, add_add]; exact q4 _ _ hx
      · rw [List.getElem?_drop] at hx; rw [add_add] at hc; exact q5 _ _ _ hx hc
    · cases hr
  · rename_i b v i oo k n hb hc
    have h1 := ev_ok ht hx hb
    have h2 := ev_ok ht hi hc
    split at hr
    · rename_i hn
      cases hr
      obtain ⟨L, he, hφ, q1, q2⟩ := h1.ptr_inv
      have hi' : a.eval ix = .int k n := by generalize a.eval ix = c at h2; cases h2; rfl
      refine goes_same hR (hrun _ k n he hi' hn.1 hn.2) ?_
      rw [at_add]
      exact .ptr hφ q1 q2
    · cases hr
  · cases hr

theorem op_mkfn_ok (ht : Tm G forb φ w t a) (hR : Rel forb φ D base h w) {f : FuncId} {first cap : Array Operand} {dc : List Opd} (ho : o.op = .makeFunc (.func f) first cap) (hf : first.toList = []) (hc : mapM? opd cap.toList = some dc) {r : Res} (hr : op_mkfn G t f dc h = some r) : Goes P o a w (Post forb φ D base h w r) := by
  unfold op_mkfn at hr
  split at hr
  · rename_i cs hb
    cases hr
    obtain ⟨h1, h2⟩ := evs_ok ht hc hb
    have hf' : first = #[] := by rw [← Array.toArray_toList (xs := first), hf]
    refine goes_same hR (c := .func (.func f) #[] ⟨cap.toList.map a.eval⟩) ?_ (.fn (by simp; exact h1.symm) fun i x c hx hcc => ?_)
    · unfold execOp; rw [ho, hf']
      simp [Instr.makeFunc]
      apply Array.ext'; simp
    · rw [List.getElem?_map] at hcc
      rcases hq : cap.toList[i]? with _ | y
      · rw [hq] at hcc; cases hcc
      · rw [hq] at hcc; cases hcc; exact h2 i x y hx hq
  · cases hr

theorem min_run {mx : Bool} : ∀ {rest : List V} {x n : Int} {cs : List Value}, minV mx x rest = some n → cs.length = rest.length → (∀ (i : Nat) v c, rest[i]? = some v → cs[i]? = some c → VR forb w φ v c) →
    (cs.foldlM (if mx then Builtin.max2 else Builtin.min2) (.int .i64 x)).run P w = .ok (.int .i64 n) w := by
  intro rest
  induction rest with
  | nil => intro x n cs h hl _; simp [minV] at h; subst h; cases cs <;> simp at hl ⊢
  | cons v rest ih =>
    intro x n cs h hl hv
    cases cs with
    | nil => simp at hl
    | cons c cs =>
      obtain ⟨y, rfl⟩ : ∃ y, v = .int .i64 y := by
        cases v <;> first | (rename_i k y; cases k <;> first | exact ⟨_, rfl⟩ | (simp [minV] at h; done)) | (simp [minV] at h; done)
      simp only [minV] at h
      have h1 := hv 0 _ c rfl rfl
      cases h1
      simp only [List.foldlM_cons, Sem.run_bind]
      have h2 : ((if mx then Builtin.max2 else Builtin.min2) (.int .i64 x) (.int .i64 y)).run P w = .ok (.int .i64 (if mx then (if x < y then y else x) else (if y < x then y else x))) w := by
        cases mx <;> simp [Builtin.min2, Builtin.max2]
      rw [h2]
      simp only [Result.andThen_ok]
      refine ih ?_ (by simpa using hl) (fun i v' c' hv' hc' => hv (i + 1) v' c' (by simpa using hv') (by simpa using hc'))
      rw [← h]
      cases mx <;> simp [ltF_eq, cond_eq_ite]

theorem call_builtin {c : Call} {b : Builtin} {xs : List Operand} (ho : o.op = .call c) (hc : c.callee = .builtin b) (has : c.args.toList = xs) :
    execOp a.eval o = invoke (.builtin b c.argTypes o.type (c.args.map fun | .const _ => true | _ => false)) ⟨xs.map a.eval⟩ := by
  have has' : c.args.map a.eval = ⟨xs.map a.eval⟩ := by apply Array.ext'; simp [has]
  unfold execOp; rw [ho]
  simp only [resolve, hc, has']
  rfl

theorem op_minmax_ok (ht : Tm G forb φ w t a) (hR : Rel forb φ D base h w) {c : Call} {mx : Bool} {dc : List Opd} (ho : o.op = .call c) (hc : c.callee = .builtin (if mx then .max else .min)) (has : mapM? opd c.args.toList = some dc) {r : Res} (hr : op_minmax G t mx dc h = some r) : Goes P o a w (Post forb φ D base h w r) := by
  unfold op_minmax at hr
  split at hr
  · rename_i x rest hb
    split at hr
    · rename_i n hn
      cases hr
      obtain ⟨h1, h2⟩ := evs_ok ht has hb
      refine goes_same hR (c := .int .i64 n) ?_ .int
      rw [call_builtin ho hc rfl]
      rcases he : c.args.toList with _ | ⟨y, ys⟩
      · rw [he] at h1; simp at h1
      · rw [he] at h1 h2
        have h3 := h2 0 _ y rfl rfl
        have hy : a.eval y = .int .i64 x := by generalize a.eval y = e at h3; cases h3; rfl
        have h4 := min_run (P := P) (w := w) (forb := forb) (φ := φ) (cs := ys.map a.eval) hn (by simpa using h1.symm) (fun i v c hv hcc => by
          rw [List.getElem?_map] at hcc
          rcases hq : ys[i]? with _ | z
          · rw [hq] at hcc; cases hcc
          · rw [hq] at hcc; cases hcc; exact h2 (i + 1) v z (by simpa using hv) (by simpa using hq))
        cases mx
        · simp only [invoke, builtin, Bool.false_eq_true, if_false, Builtin.min_, List.map_cons, hy] at h4 ⊢
          simp [h4]
        · simp only [invoke, builtin, if_true, Builtin.max_, List.map_cons, hy] at h4 ⊢
          simp [h4]
    · cases hr
  · cases hr
end Go.Mini
