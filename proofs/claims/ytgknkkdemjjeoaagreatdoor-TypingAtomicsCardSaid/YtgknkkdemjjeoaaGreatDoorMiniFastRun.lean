/- A part of the proof: MiniFastRun. No condition. -/
import Derived.Test.YtgknkkdemjjeoaaGreatDoorMiniFastOk
set_option linter.all false
set_option maxRecDepth 100000
namespace Go.Mini
set_option linter.unusedVariables false
set_option linter.unusedSimpArgs false
variable {G : Nat → Option V} {n : Nat} {T0 : T} {t : List V} {C C' : FuncId → List V → H → Option Res} {n0 : Nat}

def Under (C C' : FuncId → List V → H → Option Res) : Prop := ∀ f args h x, C f args h = some x → C' f args h = some x
theorem opV_le (hC : Under C C') {m : MOp} {h : H} {x : Res} (hx : opV G C t m h = some x) : opV G C' t m h = some x := by
  cases m <;> simp only [opV] at hx ⊢ <;> try exact hx
  unfold op_call at hx ⊢
  split at hx
  · exact hC _ _ _ _ hx
  · cases hx

structure RS (n : Nat) (a : SF) (s : St) : Prop where
  t : RT n a.t s.t
  h : a.h = s.h
  r : a.r = s.r
  w : a.w = s.w

theorem cPut_ok {st hv : Bool} {d : Option Nat} {q : Nat} {r w : List Nat} {x : Res} {k : SF → OF} {y : SF} (hy : (cPut st hv d).run q n0 T0 r w x k = some y) (hT : RT n T0 t) (hd : ∀ e, d = some e → e < n) : ∃ T1, RT n T1 (putV t d x.v) ∧ k ⟨T1, x.h, uni n0 x.r r, uni n0 x.w w⟩ = some y := by
  cases x with
  | mk v h' r' w' =>
    cases st <;> cases hv <;> cases d <;> simp only [cPut, fV_eq, uniF_eq, fHx_eq] at hy
    all_goals first
      | exact ⟨T0, hT, hy⟩
      | (obtain ⟨T1, h1, h2⟩ := hT.set (hd _ rfl) _ hy; exact ⟨T1, h1, h2⟩)
theorem putF_ok {d : Option Nat} {v : V} {k : T → OF} {y : SF} (hy : putF T0 d v k = some y) (hT : RT n T0 t) (hd : ∀ e, d = some e → e < n) : ∃ T1, RT n T1 (putV t d v) ∧ k T1 = some y := by
  cases d with
  | none => exact ⟨T0, hT, hy⟩
  | some d => exact hT.set (hd _ rfl) v hy
theorem wantedF_ok (hT : RT n T0 t) {g : Option (Nat × Bool)} (hg : ∀ d b, g = some (d, b) → d < n) : wantedF T0 g = wantedV t g := by
  cases g with
  | none => rfl
  | some g =>
    obtain ⟨d, b⟩ := g
    simp only [wantedF, wantedV, hT.get (hg d b rfl)]
    cases (slotOf d).get T0 <;> rfl

structure OperIn (n : Nat) (o : MOper) : Prop where
  op : ∀ d ∈ o.op.slots, d < n
  g : ∀ d b, o.guard = some (d, b) → d < n
  d : ∀ e, o.dst = some e → e < n
theorem operOk_in {o : MOper} (h : operOk n o = true) : OperIn n o := by
  simp only [operOk, Bool.and_eq_true, slOk, List.all_eq_true] at h
  obtain ⟨h1, h2⟩ := h
  have hb : ∀ i, Nat.blt i n = true → i < n := fun i hi => by unfold Nat.blt at hi; rw [Nat.ble_eq] at hi; exact hi
  refine ⟨fun d hd => hb d (h1 d ?_), fun d b hg => hb d (h1 d ?_), fun e he => ?_⟩
  · unfold MOper.reads; split <;> simp [hd]
  · unfold MOper.reads; rw [hg]; simp
  · rw [he] at h2; exact hb e h2

theorem cOper_ok (hC : Under C C') {o : MOper} (ho : OperIn n o) {a : SF} {s : St} (hR : RS n a s) {k : SF → OF} {y : SF} (hy : (cOper G o).run C n0 a k = some y) :
    (wantedV s.t o.guard = true ∧ ∃ x, opV G C' s.t o.op s.h = some x ∧ ∃ b, RS n b (regPut n0 s o.dst x) ∧ k b = some y) ∨ (wantedV s.t o.guard = false ∧ ∃ b, RS n b ⟨putV s.t o.dst .undef, s.h, s.r, s.w⟩ ∧ k b = some y) := by
  obtain ⟨dst, op, guard⟩ := o
  have key : ∀ {yy : SF}, (match (cOp G op).run C a.t a.h with
      | some x => (cPut (still op) (heavy op) dst).run a.h.length n0 a.t a.r a.w x k
      | none => none) = some yy → ∃ x, opV G C' s.t op s.h = some x ∧ ∃ b, RS n b (regPut n0 s dst x) ∧ k b = some yy := by
    intro yy hyy
    split at hyy
    · rename_i x hx
      rw [cOp_eq, opV_sub hR.t ho.op, hR.h] at hx
      obtain ⟨T1, h1, h2⟩ := cPut_ok hyy hR.t ho.d
      refine ⟨x, opV_le hC hx, _, ⟨h1, rfl, ?_, ?_⟩, h2⟩
      · simp [regPut, hR.r]
      · simp [regPut, hR.w]
    · cases hyy
  cases guard with
  | none => exact .inl ⟨rfl, key hy⟩
  | some g =>
    have hw := wantedF_ok hR.t ho.g
    have hy' : (bif wantedF a.t (some g) then (match (cOp G op).run C a.t a.h with
        | some x => (cPut (still op) (heavy op) dst).run a.h.length n0 a.t a.r a.w x k
        | none => none)
      else putF a.t dst .undef fun t => k ⟨t, a.h, a.r, a.w⟩) = some y := hy
    rw [hw] at hy'
    cases hq : wantedV s.t (some g)
    · rw [hq] at hy'
      obtain ⟨T1, h1, h2⟩ := putF_ok hy' hR.t ho.d
      exact .inr ⟨rfl, ⟨T1, a.h, a.r, a.w⟩, ⟨h1, hR.h, hR.r, hR.w⟩, h2⟩
    · rw [hq] at hy'
      exact .inl ⟨rfl, key hy'⟩

theorem regF_ok (hC : Under C C') : ∀ {ms : List MOper} {a y : SF} {s : St}, (∀ o ∈ ms, OperIn n o) → RS n a s → regF G C n0 ms a = some y → ∃ s', regV G C' n0 ms s = some s' ∧ RS n y s'
  | [], a, y, s, _, hR, h => by cases h; exact ⟨s, rfl, hR⟩
  | o :: ms, a, y, s, ho, hR, h => by
    have h' : (cOper G o).run C n0 a (regF G C n0 ms) = some y := h
    rcases cOper_ok hC (ho o (by simp)) hR h' with ⟨h1, x, h2, b, h3, h4⟩ | ⟨h1, b, h3, h4⟩
    · obtain ⟨s', h5, h6⟩ := regF_ok hC (fun o' h => ho o' (by simp [h])) h3 h4
      exact ⟨s', by simp only [regV, h1, h2, cond_true, regStep]; exact h5, h6⟩
    · obtain ⟨s', h5, h6⟩ := regF_ok hC (fun o' h => ho o' (by simp [h])) h3 h4
      exact ⟨s', by simp only [regV, h1, cond_false]; exact h5, h6⟩
theorem drawF_ok (hC : Under C C') : ∀ {ms : List MOper} {j : Nat} {masks : List Nat} {fs : List (Nat × List Nat × List Nat)} {a y : SF} {s : St}, (∀ o ∈ ms, OperIn n o) → RS n a s → drawF G C n0 ms j masks fs a = some y → ∃ s', drawV G C' n0 ms j masks fs s = some s' ∧ RS n y s'
  | [], j, masks, fs, a, y, s, _, hR, h => by cases h; exact ⟨s, by simp [drawV], hR⟩
  | o :: ms, j, [], fs, a, y, s, ho, hR, h => by cases h
  | o :: ms, j, m :: masks, fs, a, y, s, ho, hR, h => by
    have ho1 := ho o (by simp)
    have h' : (bif wantedF a.t o.guard then drawStepF (drawF G C n0 ms (j + 1) masks) n0 j m fs a (still o.op) (heavy o.op) o.dst ((cOp G o.op).run C a.t a.h)
      else putF a.t o.dst .undef fun t => drawF G C n0 ms (j + 1) masks fs ⟨t, a.h, a.r, a.w⟩) = some y := h
    rw [wantedF_ok hR.t ho1.g] at h'
    cases hq : wantedV s.t o.guard
    · rw [hq] at h'
      obtain ⟨T1, h1, h2⟩ := putF_ok h' hR.t ho1.d
      obtain ⟨s', h5, h6⟩ := drawF_ok hC (ms := ms) (a := ⟨T1, a.h, a.r, a.w⟩) (s := ⟨putV s.t o.dst .undef, s.h, s.r, s.w⟩) (fun o' h => ho o' (by simp [h])) ⟨h1, hR.h, hR.r, hR.w⟩ h2
      exact ⟨s', by simp only [drawV, hq, cond_false]; exact h5, h6⟩
    · rw [hq] at h'
      simp only [cond_true] at h'
      unfold drawStepF at h'
      split at h'
      · rename_i x hx
        rw [cOp_eq, opV_sub hR.t ho1.op, hR.h] at hx
        simp only [cond_eq_ite, hR.h] at h'
        split at h'
        · rename_i hf
          obtain ⟨T1, h1, h2⟩ := cPut_ok h' hR.t ho1.d
          obtain ⟨s', h5, h6⟩ := drawF_ok hC (ms := ms) (s := regPut n0 s o.dst x) (fun o' h => ho o' (by simp [h])) ⟨h1, rfl, by simp [regPut, hR.r], by simp [regPut, hR.w]⟩ h2
          exact ⟨s', by simp only [drawV, hq, cond_true, opV_le hC hx, drawStep, cond_eq_ite, hf, if_true]; exact h5, h6⟩
        · cases h'
      · cases h'
end Go.Mini
