/-
Calls whose small numbers count by a remainder alone: the answer at a number is the answer at its remainder.
-/
import Derived.Test.YtgknkkdemjjeoaaGreatDoorMiniFastAll
set_option linter.all false
set_option maxRecDepth 100000
namespace Go.Mini
set_option linter.unusedVariables false
set_option linter.unusedSimpArgs false

/-- by slots: the modulus -/
def tnt : List (Nat × Nat) → Nat → Option Nat
  | [], _ => none
  | (d, c) :: rest, i => if d = i then some c else tnt rest i
def clean (D : List (Nat × Nat)) (l : List Nat) : Bool := l.all fun d => (tnt D d).isNone
/-- the same, or alike by a modulus -/
def Sim (c : Nat) (x y : Option V) : Prop := x = y ∨ ∃ k, ∃ n m : Nat, x = some (.int k n) ∧ y = some (.int k m) ∧ n < 65536 ∧ m < 65536 ∧ n % c = m % c
def SimS (D : List (Nat × Nat)) (t t' : List V) : Prop := t.length = t'.length ∧ ∀ i, match tnt D i with
  | none => t[i]? = t'[i]?
  | some c => Sim c t[i]? t'[i]?
structure SimSt (D : List (Nat × Nat)) (s s' : St) : Prop where
  t : SimS D s.t s'.t
  h : s.h = s'.h
  r : s.r = s'.r
  w : s.w = s'.w

def operTn (D : List (Nat × Nat)) (o : MOper) : Bool :=
  (match o.guard with | some (d, _) => (tnt D d).isNone | none => true) &&
  (clean D o.op.slots || match o.op with
    | .mv (.t d) => match tnt D d, o.dst with
      | some c, some e => tnt D e == some c
      | _, _ => false
    | .convI k (.t d) => decide (65536 ≤ halfK k) && match tnt D d, o.dst with
      | some c, some e => tnt D e == some c
      | _, _ => false
    | .bin .rem _ (.t d) (.c (.int _ (.ofNat n))) => decide (n ≠ 0) && tnt D d == some n
    | _ => false)
def codeTn (D : List (Nat × Nat)) : MCode → Bool
  | .skip | .ret | .exit _ => true
  | .seq a b => codeTn D a && codeTn D b
  | .cond c a b => clean D c.slot && codeTn D a && codeTn D b
  | .block _ c => codeTn D c
  | .loop c => codeTn D c
  | .reg ops => ops.all (operTn D)
  | .draw ops _ => ops.all (operTn D)
def resTn (D : List (Nat × Nat)) : List MRes → Bool
  | [] => true
  | .tmp i :: rest => (tnt D i).isNone && resTn D rest
  | .cell a _ :: rest => (tnt D a).isNone && resTn D rest

variable {D : List (Nat × Nat)} {G : Nat → Option V} {C : FuncId → List V → H → Option Res} {s s' : St} {t t' : List V}

theorem SimS.at (h : SimS D t t') {l : List Nat} (hl : clean D l = true) : ∀ d ∈ l, t[d]? = t'[d]? := by
  intro d hd
  have := List.all_eq_true.1 hl d hd
  have h2 := h.2 d
  rw [Option.isNone_iff_eq_none] at this
  rw [this] at h2; exact h2
theorem SimS.put (h : SimS D t t') {d : Option Nat} {x y : V} (hxy : ∀ e, d = some e → match tnt D e with | none => x = y | some c => Sim c (some x) (some y)) : SimS D (putV t d x) (putV t' d y) := by
  cases d with
  | none => exact h
  | some e =>
    refine ⟨by simp [putV, h.1], fun i => ?_⟩
    have h2 := h.2 i
    have h3 := hxy e rfl
    simp only [putV]
    by_cases hi : e = i
    · subst hi
      by_cases hl : e < t.length
      · rw [List.getElem?_set_self hl, List.getElem?_set_self (by rw [← h.1]; exact hl)]
        split at h3
        · first | (rw [h3]; done) | (rename_i hc; rw [hc, h3])
        · first | exact h3 | (rename_i c hc; rw [hc]; exact h3)
      · rw [List.set_eq_of_length_le (by omega), List.set_eq_of_length_le (by rw [← h.1]; omega)]; exact h2
    · rw [List.getElem?_set_ne hi, List.getElem?_set_ne hi]; exact h2
theorem wanted_sim (h : SimS D t t') {g : Option (Nat × Bool)} (hg : (match g with | some (d, _) => (tnt D d).isNone | none => true) = true) : wantedV t g = wantedV t' g := by
  cases g with
  | none => rfl
  | some p =>
    obtain ⟨d, w⟩ := p
    have := h.at (l := [d]) (by simp only [clean, List.all_cons, List.all_nil, Bool.and_true]; exact hg) d (by simp)
    simp only [wantedV, this]
theorem wrapF_small {k : IntKind} {n : Nat} (hk : 65536 ≤ halfK k) (hn : n < 65536) : wrapF k (n : Int) = n := by
  show (bif Nat.blt n (halfK k) then (Int.ofNat n) else _) = _
  rw [show Nat.blt n (halfK k) = true by rw [Nat.blt_eq]; omega]; rfl
theorem eqF_zero {n : Nat} (h : n ≠ 0) : eqF (.ofNat n) 0 = false := by
  cases n with
  | zero => exact absurd rfl h
  | succ n => rfl
theorem tmod_sim {n m c : Nat} (h : n % c = m % c) : (n : Int).tmod (c : Int) = (m : Int).tmod (c : Int) := by
  show ((n % c : Nat) : Int) = ((m % c : Nat) : Int)
  rw [h]

theorem op_sim (h : SimS D t t') {o : MOper} (ho : operTn D o = true) {H0 : H} : 
    (opV G C t o.op H0 = none ∧ opV G C t' o.op H0 = none) ∨ ∃ r v, opV G C t o.op H0 = some r ∧ opV G C t' o.op H0 = some ⟨v, r.h, r.r, r.w⟩ ∧ ∀ e, o.dst = some e → match tnt D e with | none => r.v = v | some c => Sim c (some r.v) (some v) := by
  have same : opV G C t o.op H0 = opV G C t' o.op H0 → (opV G C t o.op H0 = none ∧ opV G C t' o.op H0 = none) ∨ ∃ r v, opV G C t o.op H0 = some r ∧ opV G C t' o.op H0 = some ⟨v, r.h, r.r, r.w⟩ ∧ ∀ e, o.dst = some e → match tnt D e with | none => r.v = v | some c => Sim c (some r.v) (some v) := by
    intro he
    rw [he]
    rcases hq : opV G C t' o.op H0 with _ | r
    · exact .inl ⟨rfl, rfl⟩
    · refine .inr ⟨r, r.v, rfl, rfl, fun e _ => ?_⟩
      split <;> first | rfl | exact .inl rfl
  simp only [operTn, Bool.and_eq_true, Bool.or_eq_true] at ho
  rcases ho.2 with hc | hc
  · exact same (opV_congr fun d hd => h.at hc d hd)
  · obtain ⟨dst, op, g⟩ := o
    simp only at hc same ⊢
    split at hc
    · rename_i d
      split at hc
      · rename_i c e h1 
        have h2 := h.2 d
        rw [h1] at h2
        rcases h2 with h2 | ⟨k, n, m, e1, e2, l1, l2, l3⟩
        · exact same (opV_congr fun i hi => by simp [MOp.slots, Opd.slot] at hi; subst hi; exact h2)
        · refine .inr ⟨⟨.int k n, H0, [], []⟩, .int k m, ?_, ?_, ?_⟩
          · simp only [opV, op_mv, ev, e1, one]
          · simp only [opV, op_mv, ev, e2, one]
          · intro e' he; cases he
            rw [eq_of_beq hc]
            exact .inr ⟨k, n, m, rfl, rfl, l1, l2, l3⟩
      · cases hc
    · rename_i k d
      simp only [Bool.and_eq_true, decide_eq_true_eq] at hc
      obtain ⟨hk, hc⟩ := hc
      split at hc
      · rename_i c e h1
        have h2 := h.2 d
        rw [h1] at h2
        rcases h2 with h2 | ⟨k', n, m, e1, e2, l1, l2, l3⟩
        · exact same (opV_congr fun i hi => by simp [MOp.slots, Opd.slot] at hi; subst hi; exact h2)
        · refine .inr ⟨⟨.int k n, H0, [], []⟩, .int k m, ?_, ?_, ?_⟩
          · simp only [opV, op_convI, ev, e1, wrapF_small hk l1, forceI_eq]
          · simp only [opV, op_convI, ev, e2, wrapF_small hk l2, forceI_eq]
          · intro e' he; cases he
            rw [eq_of_beq hc]
            exact .inr ⟨k, n, m, rfl, rfl, l1, l2, l3⟩
      · cases hc
    · rename_i cmp d k2 c
      simp only [Bool.and_eq_true, decide_eq_true_eq] at hc
      obtain ⟨h0, h1⟩ := hc
      have h1 := eq_of_beq h1
      have h2 := h.2 d
      rw [h1] at h2
      rcases h2 with h2 | ⟨k, n, m, e1, e2, l1, l2, l3⟩
      · exact same (opV_congr fun i hi => by simp [MOp.slots, Opd.slot] at hi; subst hi; exact h2)
      · apply same
        have hz := eqF_zero h0
        simp only [opV, op_bin, ev, e1, e2, binV, intV, hz, forceI_eq]
        have := tmod_sim l3
        show one (bif kindEq k k2 then (bif false then none else some (V.int k ((n : Int).tmod (c : Int)))) else none) H0 = _
        rw [this]; rfl
    · cases hc

theorem reg_sim : ∀ {ms : List MOper} {n0 : Nat} {s s' s1 : St}, ms.all (operTn D) = true → SimSt D s s' → regV G C n0 ms s' = some s1 → ∃ s2, regV G C n0 ms s = some s2 ∧ SimSt D s2 s1
  | [], n0, s, s', s1, _, h, hr => by
    simp only [regV, Option.some.injEq] at hr; subst hr
    exact ⟨s, rfl, h⟩
  | o :: ms, n0, s, s', s1, ho, h, hr => by
    simp only [List.all_cons, Bool.and_eq_true] at ho
    have hw := wanted_sim h.t (g := o.guard) (by have := ho.1; simp only [operTn, Bool.and_eq_true] at this; exact this.1)
    simp only [regV] at hr ⊢
    rw [hw]
    rcases hq : wantedV s'.t o.guard with _ | _
    · rw [hq] at hr; simp only [cond_false] at hr ⊢
      refine reg_sim (s := ⟨putV s.t o.dst .undef, s.h, s.r, s.w⟩) (s' := ⟨putV s'.t o.dst .undef, s'.h, s'.r, s'.w⟩) ho.2 ⟨h.t.put fun e _ => ?_, h.h, h.r, h.w⟩ hr
      split <;> first | rfl | exact .inl rfl
    · rw [hq] at hr; simp only [cond_true] at hr ⊢
      rw [← h.h] at hr
      rcases op_sim (G := G) (C := C) h.t ho.1 (H0 := s.h) with ⟨h1, h2⟩ | ⟨r, v, h1, h2, h3⟩
      · rw [h2] at hr; cases hr
      · rw [h2] at hr; rw [h1]
        simp only [regStep] at hr ⊢
        exact reg_sim (s := regPut n0 s o.dst r) (s' := regPut n0 s' o.dst ⟨v, r.h, r.r, r.w⟩) ho.2 ⟨h.t.put h3, rfl, by simp only [regPut, h.r], by simp only [regPut, h.w]⟩ hr
theorem draw_sim : ∀ {ms : List MOper} {n0 j : Nat} {masks : List Nat} {fs : List (Nat × List Nat × List Nat)} {s s' s1 : St}, ms.all (operTn D) = true → SimSt D s s' → drawV G C n0 ms j masks fs s' = some s1 → ∃ s2, drawV G C n0 ms j masks fs s = some s2 ∧ SimSt D s2 s1
  | [], n0, j, masks, fs, s, s', s1, _, h, hr => by
    simp only [drawV, Option.some.injEq] at hr; subst hr
    exact ⟨s, rfl, h⟩
  | o :: ms, n0, j, [], fs, s, s', s1, ho, h, hr => by simp [drawV] at hr
  | o :: ms, n0, j, m :: masks, fs, s, s', s1, ho, h, hr => by
    simp only [List.all_cons, Bool.and_eq_true] at ho
    have hw := wanted_sim h.t (g := o.guard) (by have := ho.1; simp only [operTn, Bool.and_eq_true] at this; exact this.1)
    simp only [drawV] at hr ⊢
    rw [hw]
    rcases hq : wantedV s'.t o.guard with _ | _
    · rw [hq] at hr; simp only [cond_false] at hr ⊢
      refine draw_sim (s := ⟨putV s.t o.dst .undef, s.h, s.r, s.w⟩) (s' := ⟨putV s'.t o.dst .undef, s'.h, s'.r, s'.w⟩) ho.2 ⟨h.t.put fun e _ => ?_, h.h, h.r, h.w⟩ hr
      split <;> first | rfl | exact .inl rfl
    · rw [hq] at hr; simp only [cond_true] at hr ⊢
      rw [← h.h] at hr
      rcases op_sim (G := G) (C := C) h.t ho.1 (H0 := s.h) with ⟨h1, h2⟩ | ⟨r, v, h1, h2, h3⟩
      · rw [h2] at hr; cases hr
      · rw [h2] at hr; rw [h1]
        simp only [drawStep, ← h.h] at hr ⊢
        have ea : allW s.h ⟨v, r.h, r.r, r.w⟩ = allW s.h r := rfl
        rw [ea] at hr
        rcases hf : freeAt m r.r (allW s.h r) fs with _ | _
        · rw [hf] at hr; cases hr
        · rw [hf] at hr; simp only [cond_true] at hr ⊢
          exact draw_sim (s := regPut n0 s o.dst r) (s' := regPut n0 s' o.dst ⟨v, r.h, r.r, r.w⟩) ho.2 ⟨h.t.put h3, rfl, by simp only [regPut, h.r], by simp only [regPut, h.w]⟩ hr
theorem exec_sim : ∀ {k : Nat} {n0 : Nat} {c : MCode} {s s' : St} {e : Ex} {s1 : St}, codeTn D c = true → SimSt D s s' → exec G C n0 k c s' = some (e, s1) → ∃ s2, exec G C n0 k c s = some (e, s2) ∧ SimSt D s2 s1
  | 0, n0, c, s, s', e, s1, _, _, hx => by cases hx
  | k + 1, n0, c, s, s', e, s1, hc, h, hx => by
    cases c with
    | skip => cases hx; exact ⟨s, rfl, h⟩
    | ret => cases hx; exact ⟨s, rfl, h⟩
    | exit id => cases hx; exact ⟨s, rfl, h⟩
    | seq a b =>
      simp only [codeTn, Bool.and_eq_true] at hc
      simp only [exec, exStep] at hx ⊢
      rcases ha : exec G C n0 k a s' with _ | ⟨e1, s3⟩
      · rw [ha] at hx; cases hx
      rw [ha] at hx
      obtain ⟨s4, h1, h2⟩ := exec_sim hc.1 h ha
      rw [h1]
      cases e1 with
      | normal => exact exec_sim hc.2 h2 hx
      | exit id => cases hx; exact ⟨s4, rfl, h2⟩
      | ret => cases hx; exact ⟨s4, rfl, h2⟩
    | cond x a b =>
      simp only [codeTn, Bool.and_eq_true] at hc
      simp only [exec, exStep] at hx ⊢
      have hv : ev G s.t x = ev G s'.t x := ev_congr fun d hd => h.t.at hc.1.1 d hd
      rw [hv]
      rcases hq : ev G s'.t x with _ | v
      · rw [hq] at hx; cases hx
      rw [hq] at hx
      cases v <;> simp only [exCond] at hx ⊢ <;> try (cases hx; done)
      rename_i bb
      cases bb
      · exact exec_sim hc.2 h hx
      · exact exec_sim hc.1.2 h hx
    | block id a =>
      simp only [codeTn] at hc
      simp only [exec, exStep] at hx ⊢
      rcases ha : exec G C n0 k a s' with _ | ⟨e1, s3⟩
      · rw [ha] at hx; cases hx
      rw [ha] at hx
      obtain ⟨s4, h1, h2⟩ := exec_sim hc h ha
      rw [h1]
      cases e1 with
      | normal => cases hx; exact ⟨s4, rfl, h2⟩
      | ret => cases hx; exact ⟨s4, rfl, h2⟩
      | exit id' =>
        simp only [exBlock] at hx ⊢
        split at hx
        · rename_i hi; cases hx; rw [if_pos hi]; exact ⟨s4, rfl, h2⟩
        · rename_i hi; cases hx; rw [if_neg hi]; exact ⟨s4, rfl, h2⟩
    | loop a =>
      have hc' := hc
      simp only [codeTn] at hc
      simp only [exec, exStep] at hx ⊢
      rcases ha : exec G C n0 k a s' with _ | ⟨e1, s3⟩
      · rw [ha] at hx; cases hx
      rw [ha] at hx
      obtain ⟨s4, h1, h2⟩ := exec_sim hc h ha
      rw [h1]
      cases e1 with
      | normal => exact exec_sim hc' h2 hx
      | exit id => cases hx; exact ⟨s4, rfl, h2⟩
      | ret => cases hx; exact ⟨s4, rfl, h2⟩
    | reg ops =>
      simp only [exec, exStep] at hx ⊢
      rcases ha : regV G C n0 ops s' with _ | s3
      · rw [ha] at hx; cases hx
      rw [ha] at hx; cases hx
      obtain ⟨s4, h1, h2⟩ := reg_sim hc h ha
      rw [h1]; exact ⟨s4, rfl, h2⟩
    | draw ops masks =>
      simp only [exec, exStep] at hx ⊢
      rcases ha : drawV G C n0 ops 0 masks [] s' with _ | s3
      · rw [ha] at hx; cases hx
      rw [ha] at hx; cases hx
      obtain ⟨s4, h1, h2⟩ := draw_sim hc h ha
      rw [h1]; exact ⟨s4, rfl, h2⟩

theorem res_sim (h : SimS D t t') {H0 : H} : ∀ {res : List MRes}, resTn D res = true → resV H0 t res = resV H0 t' res
  | [], _ => rfl
  | .tmp i :: rest, hr => by
    simp only [resTn, Bool.and_eq_true] at hr
    have := h.at (l := [i]) (by simp only [clean, List.all_cons, List.all_nil, Bool.and_true]; exact hr.1) i (by simp)
    simp only [resV, this, res_sim h hr.2]
  | .cell a agg :: rest, hr => by
    simp only [resTn, Bool.and_eq_true] at hr
    have := h.at (l := [a]) (by simp only [clean, List.all_cons, List.all_nil, Bool.and_true]; exact hr.1) a (by simp)
    simp only [resV, this, res_sim h hr.2]

/-- The answer at other numbers. -/
theorem pure_sim {E : Env} {C : FuncId → List V → H → Option Res} {n : Nat} {f : FuncId} {args args' : List V} {m : MFunc} {v : V} (D : List (Nat × Nat)) (hm : ∀ as, E.memo f as = none) (hf : E.fn f = some m) (hc : (codeTn D m.body && resTn D m.res) = true)
    (ha : SimS D (args ++ List.replicate (m.ntmps - args.length) .undef) (args' ++ List.replicate (m.ntmps - args'.length) .undef)) (hx : pureBody E C n f args' = some v) : pureBody E C n f args = some v := by
  simp only [Bool.and_eq_true] at hc
  simp only [pureBody, hm, hf, callBody] at hx ⊢
  rcases hq : exec E.G C (List.length ([] : H)) n m.body ⟨args' ++ List.replicate (m.ntmps - args'.length) .undef, [], [], []⟩ with _ | ⟨e, s1⟩
  · rw [hq] at hx; simp [callEnd] at hx
  obtain ⟨s2, h1, h2⟩ := exec_sim hc.1 (s := ⟨args ++ List.replicate (m.ntmps - args.length) .undef, [], [], []⟩) (s' := ⟨args' ++ List.replicate (m.ntmps - args'.length) .undef, [], [], []⟩) ⟨ha, rfl, rfl, rfl⟩ hq
  rw [h1]; rw [hq] at hx
  have hr : callRes (List.length ([] : H)) false m.res s2 = callRes (List.length ([] : H)) false m.res s1 := by
    simp only [callRes, callOut, h2.h, h2.r, h2.w, res_sim h2.t hc.2]
  cases e <;> simp only [callEnd, hr] at hx ⊢ <;> exact hx
theorem simS_args {args args' : List V} {n : Nat} (hl : args.length = args'.length) (h : ∀ i, i < args.length → match tnt D i with | none => args[i]? = args'[i]? | some c => Sim c args[i]? args'[i]?) : SimS D (args ++ List.replicate (n - args.length) .undef) (args' ++ List.replicate (n - args'.length) .undef) := by
  refine ⟨by simp [hl], fun i => ?_⟩
  by_cases hi : i < args.length
  · have := h i hi
    rw [List.getElem?_append_left hi, List.getElem?_append_left (by omega)]; exact this
  · rw [List.getElem?_append_right (by omega), List.getElem?_append_right (by omega), hl]
    split <;> first | rfl | exact .inl rfl
/-- arguments alike -/
def ArgsSim (D : List (Nat × Nat)) : Nat → List V → List V → Prop
  | _, [], [] => True
  | i, x :: xs, y :: ys => (match tnt D i with | none => x = y | some c => Sim c (some x) (some y)) ∧ ArgsSim D (i + 1) xs ys
  | _, _, _ => False
theorem ArgsSim.at : ∀ {xs ys : List V} {k : Nat}, ArgsSim D k xs ys → xs.length = ys.length ∧ ∀ i, i < xs.length → match tnt D (k + i) with | none => xs[i]? = ys[i]? | some c => Sim c xs[i]? ys[i]?
  | [], [], k, _ => ⟨rfl, fun i hi => by simp at hi⟩
  | [], y :: ys, k, h => h.elim
  | x :: xs, [], k, h => h.elim
  | x :: xs, y :: ys, k, h => by
    obtain ⟨h1, h2⟩ := h
    obtain ⟨h3, h4⟩ := h2.at
    refine ⟨by simp [h3], fun i hi => ?_⟩
    cases i with
    | zero =>
      simp only [Nat.add_zero, List.getElem?_cons_zero]
      split at h1
      · rw [h1]
      · exact h1
    | succ i =>
      have := h4 i (by simpa using hi)
      rw [show k + 1 + i = k + (i + 1) by omega] at this
      simpa using this
theorem memoOf_none {f : FuncId} : ∀ {l : List (FuncId × List V × V)}, (l.all fun e => !(Nat.beq f e.1)) = true → ∀ as, memoOf l f as = none
  | [], _, _ => rfl
  | (g, bs, v) :: rest, h, as => by
    simp only [List.all_cons, Bool.and_eq_true, Bool.not_eq_true'] at h
    simp only [memoOf, h.1, Bool.false_and, cond_false]
    exact memoOf_none h.2 as
/-- a call at numbers that are alike, from one that the kernel runs -/
theorem sim_fast {P : Program} {tab : FuncId → Option MFunc} (ht : ∀ f m, tab f = some m → ∃ fn, P.funcs[f]? = some fn ∧ compF P fn = some m) (hmix : P.follows .mixedOrders = true) (mode : FuncId → Mode) {l : List (FuncId × List V × V)} (hl : Known P l) (k : Nat) (D : List (Nat × Nat)) {f : FuncId} {m : MFunc} {args args' : List V} {v : V} (hf : tab f = some m)
    (hc : (codeTn D m.body && resTn D m.res && (l.all fun e => !(Nat.beq f e.1)) && args'.all (low 100)) = true) (hs : ArgsSim D 0 args args') (hvb : ∀ x ∈ args, VB 0 x)
    (hx : pureBodyF (envOf tab mode l) (callF (envOf tab mode l) k) k f args' = some v) : PureOk P (fun _ => none) f args v := by
  simp only [Bool.and_eq_true] at hc
  obtain ⟨⟨⟨h1, h2⟩, h3⟩, h4⟩ := hc
  have hx' := pureBodyF_ok (callF_ok k) hx
  obtain ⟨e1, e2⟩ := hs.at
  have e3 : SimS D (args ++ List.replicate (m.ntmps - args.length) .undef) (args' ++ List.replicate (m.ntmps - args'.length) .undef) := simS_args (n := m.ntmps) e1 (fun i hi => by
    have := e2 i hi
    rw [Nat.zero_add] at this; exact this)
  exact pure_of_call (envOf_ok ht mode hl) hmix hvb (pure_sim (E := envOf tab mode l) D (memoOf_none h3) hf (by rw [h1, h2]; rfl) e3 hx')
/-- the number of a small whole number -/
theorem u8_nat {z : Int} (h0 : (0 : Int) ≤ z) (h1 : z ≤ 255) : ∃ n : Nat, z = n ∧ n < 256 := ⟨z.toNat, by omega, by omega⟩
theorem sim_at {k : IntKind} {n m c : Nat} (hn : n < 65536) (hm : m < 65536) (h : n % c = m % c) : Sim c (some (.int k n)) (some (.int k m)) := .inr ⟨k, n, m, rfl, rfl, hn, hm, h⟩
end Go.Mini
