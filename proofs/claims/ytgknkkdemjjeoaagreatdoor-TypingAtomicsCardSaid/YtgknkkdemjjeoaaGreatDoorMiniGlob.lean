/-
Programs with a listed table: environments whose package variables are known.
-/
import Derived.Test.YtgknkkdemjjeoaaGreatDoorMiniTaint
import Derived.Test.YtgknkkdemjjeoaaGreatDoorMiniLaw
import Derived.Lib.LaidTab
set_option linter.all false
set_option maxRecDepth 100000
namespace Go.Mini
open Go.RowKit
set_option linter.unusedVariables false
set_option linter.unusedSimpArgs false
variable {P : Program} {G : Nat → Option V}

def KnownG (P : Program) (G : Nat → Option V) (l : List (FuncId × List V × V)) : Prop := ∀ e ∈ l, PureOk P G e.1 e.2.1 e.2.2
theorem KnownG.nil : KnownG P G [] := fun e h => by simp at h
theorem KnownG.cons {e : FuncId × List V × V} {l : List (FuncId × List V × V)} (h : PureOk P G e.1 e.2.1 e.2.2) (hl : KnownG P G l) : KnownG P G (e :: l) := by
  intro x hx
  rcases List.mem_cons.1 hx with rfl | hx
  · exact h
  · exact hl x hx
theorem memoOf_okG : ∀ {l : List (FuncId × List V × V)}, KnownG P G l → ∀ {f args v}, memoOf l f args = some v → PureOk P G f args v
  | [], _, f, args, v, h => by simp [memoOf] at h
  | (g, as, u) :: rest, hl, f, args, v, h => by
    simp only [memoOf, cond_eq_ite, Bool.and_eq_true] at h
    split at h
    · rename_i hc; cases h
      have h1 := Nat.eq_of_beq_eq_true hc.1
      have h2 := beqL_ok (fun x y h => beqV_ok h) hc.2
      subst h1 h2
      exact hl (f, args, u) (by simp)
    · exact memoOf_okG (fun e he => hl e (by simp [he])) h
def envG (tab : FuncId → Option MFunc) (mode : FuncId → Mode) (G : Nat → Option V) (l : List (FuncId × List V × V)) : Env := ⟨tab, mode, memoOf l, G⟩
theorem envG_ok {tab : FuncId → Option MFunc} (ht : ∀ f m, tab f = some m → ∃ fn, P.funcs[f]? = some fn ∧ compF P fn = some m) (mode : FuncId → Mode) (hg : GB G) {l : List (FuncId × List V × V)} (hl : KnownG P G l) : EnvOk P (envG tab mode G l) :=
  ⟨⟨ht, hg⟩, fun f args v h => memoOf_okG hl h⟩
theorem known_fastG {tab : FuncId → Option MFunc} (ht : ∀ f m, tab f = some m → ∃ fn, P.funcs[f]? = some fn ∧ compF P fn = some m) (hmix : P.follows .mixedOrders = true) (mode : FuncId → Mode) (hg : GB G) {l : List (FuncId × List V × V)} (hl : KnownG P G l) (k : Nat) {f : FuncId} {args : List V} {v : V} (ha : args.all (low 100) = true)
    (hx : pureBodyF (envG tab mode G l) (callF (envG tab mode G l) k) k f args = some v) : PureOk P G f args v :=
  pure_of_call (envG_ok ht mode hg hl) hmix (fun x hx => low_ok (List.all_eq_true.1 ha x hx)) (pureBodyF_ok (callF_ok k) hx)
theorem sim_fastG {tab : FuncId → Option MFunc} (ht : ∀ f m, tab f = some m → ∃ fn, P.funcs[f]? = some fn ∧ compF P fn = some m) (hmix : P.follows .mixedOrders = true) (mode : FuncId → Mode) (hg : GB G) {l : List (FuncId × List V × V)} (hl : KnownG P G l) (k : Nat) (D : List (Nat × Nat)) {f : FuncId} {m : MFunc} {args args' : List V} {v : V} (hf : tab f = some m)
    (hc : (codeTn D m.body && resTn D m.res && (l.all fun e => !(Nat.beq f e.1)) && args'.all (low 100)) = true) (hs : ArgsSim D 0 args args') (hvb : ∀ x ∈ args, VB 0 x)
    (hx : pureBodyF (envG tab mode G l) (callF (envG tab mode G l) k) k f args' = some v) : PureOk P G f args v := by
  simp only [Bool.and_eq_true] at hc
  obtain ⟨⟨⟨h1, h2⟩, h3⟩, h4⟩ := hc
  have hx' := pureBodyF_ok (callF_ok k) hx
  obtain ⟨e1, e2⟩ := hs.at
  have e3 : SimS D (args ++ List.replicate (m.ntmps - args.length) .undef) (args' ++ List.replicate (m.ntmps - args'.length) .undef) := simS_args (n := m.ntmps) e1 (fun i hi => by
    have := e2 i hi
    rw [Nat.zero_add] at this; exact this)
  exact pure_of_call (envG_ok ht mode hg hl) hmix hvb (pure_sim (E := envG tab mode G l) D (memoOf_none h3) hf (by rw [h1, h2]; rfl) e3 hx')

/-- one listed table -/
def tabG (g : Nat) (cells : List V) (n : Nat) : Option V := bif Nat.beq n g then some (.rp cells) else none
theorem tabG_gb {g : Nat} {cells : List V} (h : cells.all (low 100) = true) : GB (tabG g cells) := by
  intro n v hv
  unfold tabG at hv
  rw [cond_eq_ite] at hv
  split at hv
  · cases hv; exact .rp fun x hx => low_ok (List.all_eq_true.1 h x hx)
  · cases hv
theorem tab_glob {w : World} {name : String} {g : Nat} {k : IntKind} {zs : List Int} {cells : List V} (hg : P.globalNamed name = some g) (h : Lib.TabIs P w name k zs) (hc : cells = zs.map fun z => V.int k z) :
    ∀ n v, tabG g cells n = some v → VR noF w noPhi v (.pointer (some ⟨n, 0, none⟩)) := by
  intro n v hv
  unfold tabG at hv
  rw [cond_eq_ite] at hv
  split at hv
  · rename_i hb
    have := Nat.eq_of_beq_eq_true hb
    subst this
    cases hv
    have hcell : ∀ i, w.cell? ⟨n, i, none⟩ = (zs.map fun z => Value.int k z)[i]? := fun i => by
      rw [World.var?_cell hg h i]; simp
    have key : ∀ (o : Nat) x, cells[o]? = some x → ∃ z, x = .int k z ∧ w.cell? ((⟨n, 0, none⟩ : Addr).add o) = some (.int k z) := by
      intro o x hx
      rw [hc, List.getElem?_map] at hx
      rcases hz : zs[o]? with _ | z
      · rw [hz] at hx; cases hx
      · rw [hz] at hx; cases hx
        refine ⟨z, rfl, ?_⟩
        have : (⟨n, 0, none⟩ : Addr).add o = ⟨n, o, none⟩ := by unfold Addr.add; split <;> simp_all
        rw [this, hcell, List.getElem?_map, hz]; rfl
    refine .rp (fun o x hx => ?_) (fun o x c hx hcc => ?_)
    · obtain ⟨z, rfl, h2⟩ := key o x hx
      exact ⟨fun h => h, rfl, _, h2⟩
    · obtain ⟨z, rfl, h2⟩ := key o x hx
      rw [h2] at hcc; cases hcc; exact .int
  · cases hv
theorem tab_reads {w : World} {name : String} {g : Nat} {k : IntKind} {zs : List Int} {t e : TypeId} {n : Nat} (hg : P.globalNamed name = some g) (hty : (P.globals[g]?).map (·.type) = some t) (ht : P.underlying t = some (.array n e)) (he : P.underlying e = some (.int k)) (hce : P.cellsOf e = 1) (hct : P.cellsOf t = n)
    {l : List (String × DataW Unit)} {ps : List MemPlace} (h : DataW.LaidVars P w l ps) (hm : (name, Lib.tabData k zs) ∈ l) : Lib.TabIs P w name k zs := by
  induction l generalizing ps with
  | nil => cases hm
  | cons x r ih =>
    obtain ⟨n', d'⟩ := x
    obtain ⟨g', t', cs, fuel, p, q, h1, h2, h3, h4, h5, _⟩ := h
    rcases List.mem_cons.1 hm with e0 | e0
    · cases e0
      obtain rfl := Option.some.inj (h1.symm.trans hg)
      obtain rfl := Option.some.inj (h2.symm.trans hty)
      have := Lib.cells_of_tab ht he hce hct h4
      unfold Lib.TabIs
      rw [h3, ← this]
    · exact ih h5 e0
/-- a call that answers true, over a listed table -/
theorem PureOk.belowG {f : FuncId} {args : List V} {b : Bool} (h : PureOk P G f args (.bool b)) {w : World} {cargs : List Value} (ha : VRs noF w noPhi args cargs) (hg : ∀ n v, G n = some v → VR noF w noPhi v (.pointer (some ⟨n, 0, none⟩))) :
    Calls P f ⟨cargs⟩ w (fun e w' => e = .returned (.bool b) ∧ Below w.heap.size w w') := by
  obtain ⟨_, _, hP⟩ := h
  refine (hP noF noPhi w.heap.size w cargs ha (rel_no w) hg).mono fun ed w' ⟨c, hc, forb', φ', k1, k2, k3, k4, k5, k6, k7, k8⟩ => ?_
  cases k1
  exact ⟨hc, k3.os, k3.tape, k3.output, k3.size, fun b hb => k3.keep b hb (fun h => h)⟩
end Go.Mini
