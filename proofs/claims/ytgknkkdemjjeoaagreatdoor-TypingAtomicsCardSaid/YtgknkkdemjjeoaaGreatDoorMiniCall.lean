/- A part of the proof: MiniCall. No condition. -/
import Derived.Test.YtgknkkdemjjeoaaGreatDoorMiniVB
set_option linter.all false
set_option maxRecDepth 100000
namespace Go.Mini
set_option linter.unusedVariables false
set_option linter.unusedSimpArgs false
variable {P : Program} {G : Nat → Option V} {forb : Nat → Prop} {φ : Phi} {w : World} {t : List V} {a : Act} {D : Nat → Prop} {base : Nat} {h : H} {o : Oper}

/-- a function that is entered where it is called -/
def Enters (P : Program) (f : FuncId) : Prop := ∃ fn, P.funcs[f]? = some fn ∧ fn.body.isSome = true ∧ (fn.name == "runtime.NumGoroutine") = false

/-- values, one by one -/
def VRs (forb : Nat → Prop) (w : World) (φ : Phi) (vs : List V) (cs : List Value) : Prop := cs.length = vs.length ∧ ∀ (i : Nat) v c, vs[i]? = some v → cs[i]? = some c → VR forb w φ v c

/-- What the small machine says of calls is so. -/
def CallOk (P : Program) (G : Nat → Option V) (C : FuncId → List V → H → Option Res) : Prop :=
  ∀ f args h x, C f args h = some x → Enters P f ∧ ∀ forb φ D base w cargs, (∀ v ∈ args, VB h.length v) → HB h.length h → VRs forb w φ args cargs → Rel forb φ D base h w → (∀ n v, G n = some v → VR forb w noPhi v (.pointer (some ⟨n, 0, none⟩))) → (∀ b, (b ∈ x.r ∨ b ∈ x.w) → D b) → (∀ b v, h.length ≤ b → b < x.h.length → φ b v = none) →
    Calls P f ⟨cargs⟩ w (fun e w' => ∃ c, e = .returned c ∧ Post forb φ D base h w x c w')

theorem VRs.append {vs us : List V} {cs ds : List Value} (h : VRs forb w φ vs cs) (k : VRs forb w φ us ds) : VRs forb w φ (vs ++ us) (cs ++ ds) := by
  refine ⟨by simp [h.1, k.1], fun i v c hv hc => ?_⟩
  by_cases e : i < vs.length
  · rw [List.getElem?_append_left e] at hv
    rw [List.getElem?_append_left (by rw [h.1]; exact e)] at hc
    exact h.2 i v c hv hc
  · rw [List.getElem?_append_right (by omega)] at hv
    rw [List.getElem?_append_right (by rw [h.1]; omega), h.1] at hc
    exact k.2 _ v c hv hc

theorem evs_vrs (ht : Tm G forb φ w t a) {xs : List Operand} {ds : List Opd} {vs : List V} (h : mapM? opd xs = some ds) (hv : evs G t ds = some vs) : VRs forb w φ vs (xs.map a.eval) := by
  obtain ⟨h1, h2⟩ := evs_ok ht h hv
  refine ⟨by simp [h1], fun i v c hvi hc => ?_⟩
  rw [List.getElem?_map] at hc
  rcases hq : xs[i]? with _ | x
  · rw [hq] at hc; cases hc
  · rw [hq] at hc; cases hc; exact h2 i v x hvi hq

/-- what a call is handed leads below the heap's length -/
def ArgsVB (G : Nat → Option V) (n : Nat) (t : List V) (m : MOp) : Prop := ∀ df das, m = .call df das → ∀ f cap as, ev G t df = some (.fn f cap) → evs G t das = some as → ∀ v ∈ as ++ cap, VB n v
theorem args_vb (hG : GB G) {n : Nat} {m : MOp} (hm : m.okC) (hB : ∀ v ∈ t, VB n v) : ArgsVB G n t m := by
  intro df das e f cap as h1 h2 v hv
  subst e
  rcases List.mem_append.1 hv with hv | hv
  · exact evs_vb hG hB hm.2 h2 v hv
  · have := ev_vb hG hB hm.1 h1
    cases this; rename_i h3; exact h3 v hv
theorem Tm.gb (ht : Tm G forb φ w t a) : GB G := fun k v hk => (ht.glob k v hk).vb (fun _ _ _ h => by cases h)

theorem op_call_ok {C : FuncId → List V → H → Option Res} (hC : CallOk P G C) (ht : Tm G forb φ w t a) (hR : Rel forb φ D base h w) {c : Call} {fo : Operand} {df : Opd} {das : List Opd} (ho : o.op = .call c) (hc : c.callee = .value fo) (hf : opd fo = some df) (has : mapM? opd c.args.toList = some das) {r : Res} (hB : ∀ f cap as, ev G t df = some (.fn f cap) → evs G t das = some as → ∀ v ∈ as ++ cap, VB h.length v) (hH : HB h.length h) (hr : op_call G C t df das h = some r) (hD : ∀ b, (b ∈ r.r ∨ b ∈ r.w) → D b) (hfree : ∀ b v, h.length ≤ b → b < r.h.length → φ b v = none) : Goes P o a w (Post forb φ D base h w r) := by
  unfold op_call at hr
  split at hr
  · rename_i f cap as h1 h2
    have v1 := ev_ok ht hf h1
    obtain ⟨caps, he, hl, hcaps⟩ := v1.fn_inv
    have v2 := (evs_vrs ht has h2).append (us := cap) (ds := caps) ⟨hl, hcaps⟩
    obtain ⟨⟨fn, e1, e2, e3⟩, hcall⟩ := hC f (as ++ cap) h r hr
    have hargs := hB f cap as h1 h2
    refine .inr (.inr ⟨f, ⟨c.args.toList.map a.eval ++ caps⟩, ?_, hcall forb φ D base w _ hargs hH v2 hR ht.glob hD hfree⟩)
    have has' : c.args.map a.eval = ⟨c.args.toList.map a.eval⟩ := by apply Array.ext'; simp
    have hb : fn.body.isNone = false := by cases hq : fn.body <;> simp_all
    unfold execOp; rw [ho]
    simp only [resolve, hc, he, has', Deferred.ofValue, pure_bind, invoke, callFunc, Sem.run_bind, run_program, Result.andThen_ok, e1, e3, hb, Bool.false_eq_true, if_false]
    simp [Sem.run_pure]
  · cases hr
end Go.Mini
