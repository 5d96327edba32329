/- A part of the proof: MiniEnd. No condition. -/
import Derived.Test.YtgknkkdemjjeoaaGreatDoorMiniFz
set_option linter.all false
set_option maxRecDepth 100000
namespace Go.Mini
set_option linter.unusedVariables false
set_option linter.unusedSimpArgs false
variable {P : Program} {G : Nat → Option V} {forb forb2 : Nat → Prop} {φ ψ : Phi} {w : World} {D : Nat → Prop} {base n0 : Nat} {h : H} {t : List V} {a : Act} {C : FuncId → List V → H → Option Res}

theorem VR.under {v : V} {c : Value} (h : VR forb w φ v c) : ∀ {n : Nat} {ψ : Phi}, VB n v → (∀ b v l, b < n → φ b v = some l → ψ b v = some l) → VR forb w ψ v c := by
  induction h with
  | ptr hφ h0 h1 => intro n ψ hb hψ; cases hb; exact .ptr (hψ _ _ _ ‹_› hφ) h0 h1
  | os hφ hsz h0 h1 hn hm hc ha => intro n ψ hb hψ; cases hb; exact .os (hψ _ _ _ ‹_› hφ) hsz h0 h1 hn hm hc ha
  | rs hl hc hm hs hv ih => intro n ψ _ _; exact .rs hl hc hm hs hv
  | rp hs hv ih => intro n ψ _ _; exact .rp hs hv
  | fn hl hv ih => intro n ψ hb hψ; cases hb; rename_i hb; exact .fn hl fun i x c hx hc => ih i x c hx hc (hb x (List.mem_of_getElem? hx)) hψ
  | agg hl hc hv ih => intro n ψ hb hψ; cases hb; rename_i hb; exact .agg hl hc fun i x c hx hc => ih i x c hx hc (hb x (List.mem_of_getElem? hx)) hψ
  | tup hl hv ih => intro n ψ hb hψ; cases hb; rename_i hb; exact .tup hl fun i x c hx hc => ih i x c hx hc (hb x (List.mem_of_getElem? hx)) hψ
  | _ => intro n ψ _ _; constructor

/-- what a function's results are read with -/
def resultOne (tmps : Array Value) : ResultVar → Sem Value
  | .tmp t => pure (tmps.getD t undef)
  | .cell a t => do loadVar t (← asAddr (tmps.getD a undef))

theorem resV_ok (ht : Tm G forb φ w t a) (hR : Rel forb φ D base h w) : ∀ {rs : List ResultVar} {ms : List MRes} {vs : List V} {r : List Nat}, mapM? (compRes P) rs = some ms → resV h t ms = some (vs, r) → (∀ b ∈ r, D b) → ∃ cs : List Value, (rs.mapM (resultOne a.tmps)).run P w = .ok cs w ∧ VRs forb w φ vs cs
  | [], ms, vs, r, hm, hr, _ => by cases hm; simp only [resV] at hr; cases hr; exact ⟨[], by simp, by simp [VRs]⟩
  | x :: rs, ms, vs, r, hm, hr, hD => by
    unfold mapM? at hm
    split at hm
    · rename_i m ms' h1 h2; cases hm
      cases x with
      | tmp i =>
        cases h1
        simp only [resV] at hr
        split at hr
        · rename_i v vs' r' h3 h4; cases hr
          obtain ⟨cs, g1, g2, g3⟩ := resV_ok ht hR h2 h4 hD
          obtain ⟨c, h5, h6⟩ := ht.val i v h3
          refine ⟨c :: cs, ?_, by simp [g2], fun j u cu hu hc => ?_⟩
          · have : a.tmps.getD i undef = c := by rw [Array.getD_eq_getD_getElem?, h5]; rfl
            simp [resultOne, this, g1]
          · cases j with
            | zero => simp at hu hc; subst hu hc; exact h6
            | succ j => exact g3 j u cu (by simpa using hu) (by simpa using hc)
        · cases hr
      | cell i ty =>
        obtain ⟨agg, ha, rfl⟩ := map_inv h1
        simp only [resV] at hr
        split at hr
        · rename_i v vs' r' h3 h4
          split at hr
          · rename_i cells r1 hd
            split at hr
            · rename_i u hu; cases hr
              obtain ⟨cs, g1, g2, g3⟩ := resV_ok ht hR h2 h4 (fun b hb => hD b (by simp [hb]))
              obtain ⟨c, h5, h6⟩ := ht.val i v h3
              obtain ⟨A, rfl, h7⟩ := deref_ok hR hd h6 (fun b hb => hD b (by simp [hb]))
              obtain ⟨c', h8, h9⟩ := loadVar_ok (P := P) ha h7 hu
              refine ⟨c' :: cs, ?_, by simp [g2], fun j u cu hu hc => ?_⟩
              · have : a.tmps.getD i undef = .pointer (some A) := by rw [Array.getD_eq_getD_getElem?, h5]; rfl
                simp [resultOne, this, asAddr, h8, g1]
              · cases j with
                | zero => simp at hu hc; subst hu hc; exact h9
                | succ j => exact g3 j u cu (by simpa using hu) (by simpa using hc)
            · cases hr
          · cases hr
        · cases hr
    · cases hm

theorem results_ok (ht : Tm G forb φ w t a) (hR : Rel forb φ D base h w) {fn : Func} {ms : List MRes} {vs : List V} {r : List Nat} (hm : mapM? (compRes P) fn.results.toList = some ms) (hr : resV h t ms = some (vs, r)) (hD : ∀ b ∈ r, D b) : ∃ c, (results fn a.tmps).run P w = .ok c w ∧ VR forb w φ (tupV vs) c := by
  obtain ⟨cs, h1, h2, h3⟩ := resV_ok ht hR hm hr hD
  have he : fn.results.mapM (resultOne a.tmps) = List.toArray <$> fn.results.toList.mapM (resultOne a.tmps) := Array.mapM_eq_mapM_toList ..
  have h4 : (fn.results.mapM (resultOne a.tmps)).run P w = .ok cs.toArray w := by rw [he]; simp [h1]
  have h5 : (results fn a.tmps).run P w = .ok (if h : cs.toArray.size = 1 then cs.toArray[0] else .tuple cs.toArray) w := by
    have : results fn a.tmps = (do let vs ← fn.results.mapM (resultOne a.tmps); pure (if h : vs.size = 1 then vs[0] else .tuple vs)) := by
      unfold results; congr 1
    rw [this]; simp only [Sem.run_bind, h4, Result.andThen_ok, Sem.run_pure]
  refine ⟨_, h5, ?_⟩
  rcases cs with _ | ⟨c, _ | ⟨c', cs⟩⟩
  · have : vs = [] := by simpa using h2.symm
    subst this; simp [tupV]; exact .tup (by simp) (by simp)
  · rcases vs with _ | ⟨v, _ | ⟨v', vs⟩⟩
    · simp at h2
    · simp [tupV]; exact h3 0 v c rfl rfl
    · simp at h2
  · rcases vs with _ | ⟨v, _ | ⟨v', vs⟩⟩
    · simp at h2
    · simp at h2
    · simp [tupV]; exact .tup h2 h3

/-- a body's run -/
theorem body_run (hC : CallOk P G C) (hL : LenOk C) (hV : VbOk C) (hG : GB G) (hmix : P.follows .mixedOrders = true) {f : FuncId} {fn : Func} {k : Code} {m : MFunc} (hf : P.funcs[f]? = some fn) (hb : fn.body = some k) (hc : comp P k = some m.body) (hn : m.ntmps = fn.ntmps) (hres : mapM? (compRes P) fn.results.toList = some m.res)
    {n : Nat} {args : List V} {s : St} {e : Ex} (hx : exec G C h.length n m.body ⟨args ++ List.replicate (m.ntmps - args.length) .undef, h, [], []⟩ = some (e, s)) (he : e = .normal ∨ e = .ret) {vs : List V} {r1 : List Nat} (hr : resV s.h s.t m.res = some (vs, r1))
    {cargs : List Value} (hargs : VRs forb w φ args cargs) (hvb : ∀ v ∈ args, VB h.length v) (hhb : HB h.length h) (hR : Rel forb φ D base h w) (hglob : ∀ n v, G n = some v → VR forb w noPhi v (.pointer (some ⟨n, 0, none⟩))) (hD0 : ∀ b, h.length ≤ b → D b) (hDf : ∀ b, (b ∈ s.r ∨ b ∈ s.w) → D b) (hDr : ∀ b ∈ r1, D b) (hfree : ∀ b v, h.length ≤ b → b < s.h.length → φ b v = none) :
    Calls P f ⟨cargs⟩ w (fun e w' => ∃ c, e = .returned c ∧ ∃ forb' φ' a' a0, Out G forb φ D base h.length w ⟨args ++ List.replicate (m.ntmps - args.length) .undef, h, [], []⟩ s a0 forb' φ' a' w' ∧ VR forb' w' φ' (tupV vs) c) := by
  refine calls_of_wp hf hb ?_
  have htm : Tm G forb φ w (args ++ List.replicate (m.ntmps - args.length) .undef) { tmps := (⟨cargs⟩ : Array Value) ++ Array.replicate (fn.ntmps - (⟨cargs⟩ : Array Value).size) undef, defers := [] } := by
    have hl := hargs.1
    refine ⟨by simp [hl, hn], fun i v hv => ?_, hglob⟩
    by_cases e : i < args.length
    · rw [List.getElem?_append_left e] at hv
      have hi : i < cargs.length := by omega
      refine ⟨cargs[i], ?_, hargs.2 i v _ hv (by simp [hi])⟩
      rw [Array.getElem?_append_left (by simpa using hi)]; simp [hi]
    · rw [List.getElem?_append_right (by omega)] at hv
      obtain ⟨h1, rfl⟩ := List.getElem?_eq_some_iff.1 hv
      simp at h1
      refine ⟨undef, ?_, by simp; exact .undef⟩
      rw [Array.getElem?_append_right (by simp; omega)]
      have : i - cargs.length < fn.ntmps - cargs.length := by rw [hl, ← hn]; exact h1
      simp [this]
  have hat : At G D base h.length ⟨args ++ List.replicate (m.ntmps - args.length) .undef, h, [], []⟩ s forb φ w { tmps := (⟨cargs⟩ : Array Value) ++ Array.replicate (fn.ntmps - (⟨cargs⟩ : Array Value).size) undef, defers := [] } := by
    refine ⟨fun v hv => ?_, hhb, htm, hR, hfree⟩
    rcases List.mem_append.1 hv with h1 | h1
    · exact hvb v h1
    · obtain ⟨_, rfl⟩ := List.mem_replicate.1 h1; exact .undef
  refine (exec_ok hC hL hV hG hmix hD0 n).1 hc hx (Nat.le_refl _) hat hDf _ fun forb' φ' a' w' hO => ?_
  obtain ⟨c, hc1, hc2⟩ := results_ok hO.tm hO.rel hres hr hDr
  have hd : a'.defers = [] := hO.defers
  rcases he with rfl | rfl
  · exact ⟨hd, c, hc1, c, rfl, forb', φ', a', _, hO, hc2⟩
  · exact ⟨hd, c, hc1, c, rfl, forb', φ', a', _, hO, hc2⟩
end Go.Mini
