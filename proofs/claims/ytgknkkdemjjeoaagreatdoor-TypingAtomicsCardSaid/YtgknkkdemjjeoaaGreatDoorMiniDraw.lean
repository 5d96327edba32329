/- A part of the proof: MiniDraw. No condition. -/
import Derived.Test.YtgknkkdemjjeoaaGreatDoorMiniReg
set_option linter.all false
set_option maxRecDepth 100000
namespace Go.Mini
set_option linter.unusedVariables false
set_option linter.unusedSimpArgs false
variable {P : Program} {G : Nat → Option V} {forb : Nat → Prop} {φ : Phi} {w : World} {t : List V} {a : Act} {D : Nat → Prop} {base : Nat} {h : H} {o : Oper}

/-! ### What an operation looks at -/
theorem ev_congr {t t' : List V} {x : Opd} (h : ∀ d ∈ x.slot, t'[d]? = t[d]?) : ev G t' x = ev G t x := by
  cases x <;> simp only [ev]
  rename_i i; exact h i (by simp [Opd.slot])
theorem evs_congr {t t' : List V} : ∀ {xs : List Opd}, (∀ d ∈ slots xs, t'[d]? = t[d]?) → evs G t' xs = evs G t xs
  | [], _ => rfl
  | x :: xs, h => by
    simp only [evs]
    rw [ev_congr (fun d hd => h d (by simp [slots, hd])), evs_congr (fun d hd => h d (by simp [slots, hd]))]
theorem evP_congr {t t' : List V} : ∀ {xs : List (Nat × Nat × Opd)}, (∀ d ∈ slotP xs, t'[d]? = t[d]?) → evP G t' xs = evP G t xs
  | [], _ => rfl
  | (a, b, x) :: xs, h => by
    simp only [evP]
    rw [ev_congr (fun d hd => h d (by simp [slotP, hd])), evP_congr (fun d hd => h d (by simp [slotP, hd]))]
theorem bound_congr {t t' : List V} {df : Nat} {x : Option Opd} (h : ∀ d ∈ slotO x, t'[d]? = t[d]?) : boundOf G t' df x = boundOf G t df x := by
  cases x with
  | none => rfl
  | some x => simp only [boundOf]; rw [ev_congr (fun d hd => h d hd)]

theorem opV_congr {C : FuncId → List V → H → Option Res} {t t' : List V} {m : MOp} {h : H} (hs : ∀ d ∈ m.slots, t'[d]? = t[d]?) : opV G C t' m h = opV G C t m h := by
  cases m <;> simp only [opV] <;> simp only [MOp.slots, List.mem_append] at hs
  case alloc => rfl
  case mv x => unfold op_mv; rw [ev_congr hs]
  case box => unfold op_box; rw [ev_congr hs]
  case nilc => unfold op_nilc; rw [ev_congr hs]
  case un => unfold op_un; rw [ev_congr hs]
  case convI => unfold op_convI; rw [ev_congr hs]
  case s2b => unfold op_s2b; rw [ev_congr hs]
  case b2s => unfold op_b2s; rw [ev_congr hs]
  case faddr => unfold op_faddr; rw [ev_congr hs]
  case field => unfold op_field; rw [ev_congr hs]
  case extract => unfold op_extract; rw [ev_congr hs]
  case len => unfold op_len; rw [ev_congr hs]
  case lenS => unfold op_lenS; rw [ev_congr hs]
  case load => unfold op_load; rw [ev_congr hs]
  case pick => unfold op_pick; rw [ev_congr (fun d hd => hs d (.inl (.inl hd))), ev_congr (fun d hd => hs d (.inl (.inr hd))), ev_congr (fun d hd => hs d (.inr hd))]
  case build => unfold op_build; rw [evP_congr hs]
  case bslice => unfold op_bslice; rw [evP_congr hs]
  case store => unfold op_store; rw [ev_congr (fun d hd => hs d (.inl hd)), ev_congr (fun d hd => hs d (.inr hd))]
  case bin => unfold op_bin; rw [ev_congr (fun d hd => hs d (.inl hd)), ev_congr (fun d hd => hs d (.inr hd))]
  case iaddr => unfold op_iaddr; rw [ev_congr (fun d hd => hs d (.inl hd)), ev_congr (fun d hd => hs d (.inr hd))]
  case iaddrA => unfold op_iaddrA; rw [ev_congr (fun d hd => hs d (.inl hd)), ev_congr (fun d hd => hs d (.inr hd))]
  case idxA => unfold op_idxA; rw [ev_congr (fun d hd => hs d (.inl hd)), ev_congr (fun d hd => hs d (.inr hd))]
  case cntB => unfold op_cntB; rw [ev_congr (fun d hd => hs d (.inl hd)), ev_congr (fun d hd => hs d (.inr hd))]
  case idxB => unfold op_idxB; rw [ev_congr (fun d hd => hs d (.inl hd)), ev_congr (fun d hd => hs d (.inr hd))]
  case index => unfold op_index; rw [ev_congr (fun d hd => hs d (.inl hd)), ev_congr (fun d hd => hs d (.inr hd))]
  case append => unfold op_append; rw [ev_congr (fun d hd => hs d (.inl hd)), ev_congr (fun d hd => hs d (.inr hd))]
  case mkslice => unfold op_mkslice; rw [ev_congr (fun d hd => hs d (.inl hd)), ev_congr (fun d hd => hs d (.inr hd))]
  case mkfn => unfold op_mkfn; rw [evs_congr hs]
  case minmax => unfold op_minmax; rw [evs_congr hs]
  case call => unfold op_call; rw [ev_congr (fun d hd => hs d (.inl hd)), evs_congr (fun d hd => hs d (.inr hd))]
  case cut =>
    unfold op_cut
    rw [ev_congr (fun d hd => hs d (.inl (.inl (.inl hd))))]
    have h1 := fun df => bound_congr (G := G) (df := df) (t := t) (t' := t') (fun d hd => hs d (.inl (.inl (.inr hd))))
    have h2 := fun df => bound_congr (G := G) (df := df) (t := t) (t' := t') (fun d hd => hs d (.inl (.inr hd)))
    have h3 := fun df => bound_congr (G := G) (df := df) (t := t) (t' := t') (fun d hd => hs d (.inr hd))
    rename_i s x a b c
    have h4 : ∀ v, cutV G t' s v a b c = cutV G t s v a b c := by
      intro v
      unfold cutV
      cases c <;> cases v <;> simp only [h1, h2, h3]
    simp only [h4]
  case cutS =>
    unfold op_cutS
    rw [ev_congr (fun d hd => hs d (.inl (.inl hd)))]
    have h1 := fun df => bound_congr (G := G) (df := df) (t := t) (t' := t') (fun d hd => hs d (.inl (.inr hd)))
    have h2 := fun df => bound_congr (G := G) (df := df) (t := t) (t' := t') (fun d hd => hs d (.inr hd))
    simp only [h1, h2]

theorem wantedV_congr {t t' : List V} {g : Option (Nat × Bool)} (h : ∀ d b, g = some (d, b) → t'[d]? = t[d]?) : wantedV t' g = wantedV t g := by
  cases g with
  | none => rfl
  | some g => obtain ⟨d, b⟩ := g; simp only [wantedV]; rw [h d b rfl]

/-! ### The trace of a region -/
/-- step i of a region in the text's order -/
def Step (G : Nat → Option V) (C : FuncId → List V → H → Option Res) (n0 : Nat) (m : MOper) (s s' : St) (x : Option Res) : Prop :=
  (wantedV s.t m.guard = true ∧ ∃ y, x = some y ∧ opV G C s.t m.op s.h = some y ∧ s' = regPut n0 s m.dst y) ∨
  (wantedV s.t m.guard = false ∧ x = none ∧ s' = ⟨putV s.t m.dst .undef, s.h, s.r, s.w⟩)

theorem freeAt_ok {mask : Nat} {r ws : List Nat} : ∀ {fs : List (Nat × List Nat × List Nat)}, freeAt mask r ws fs = true → ∀ i r' w', (i, r', w') ∈ fs → clash r ws r' w' = true → mask.testBit i = true
  | [], _, i, r', w', hm, _ => by simp at hm
  | (j, r1, w1) :: fs, h, i, r', w', hm, hc => by
    simp only [freeAt, Bool.and_eq_true, Bool.or_eq_true, Bool.not_eq_true'] at h
    rcases List.mem_cons.1 hm with h1 | h1
    · cases h1
      rcases h.1 with h2 | h2
      · rw [h2] at hc; cases hc
      · exact h2
    · exact freeAt_ok h.2 i r' w' h1 hc

theorem note_old {j : Nat} {r ws : List Nat} {fs : List (Nat × List Nat × List Nat)} {e : Nat × List Nat × List Nat} (h : e ∈ fs) : e ∈ note j r ws fs := by
  unfold note
  split
  · exact h
  · exact List.mem_cons_of_mem _ h
theorem note_new {j : Nat} {r ws : List Nat} {fs : List (Nat × List Nat × List Nat)} (h : r ≠ [] ∨ ws ≠ []) : (j, r, ws) ∈ note j r ws fs := by
  unfold note
  split
  · rename_i h1; simp at h1; rcases h with h | h
    · exact (h h1.1).elim
    · exact (h h1.2).elim
  · simp

theorem drawV_trace {C : FuncId → List V → H → Option Res} {n0 : Nat} : ∀ {ms : List MOper} {j : Nat} {masks : List Nat} {fs : List (Nat × List Nat × List Nat)} {s s' : St}, drawV G C n0 ms j masks fs s = some s' →
    ∃ (S : Nat → St) (X : Nat → Option Res), S 0 = s ∧ S ms.length = s' ∧ ms.length ≤ masks.length ∧ ∀ i m k, ms[i]? = some m → masks[i]? = some k → Step G C n0 m (S i) (S (i + 1)) (X i) ∧
      ∀ y, X i = some y → (∀ q r' w', (q, r', w') ∈ fs → clash y.r (allW (S i).h y) r' w' = true → k.testBit q = true) ∧ (∀ q z, q < i → X q = some z → clash y.r (allW (S i).h y) z.r (allW (S q).h z) = true → k.testBit (j + q) = true)
  | [], j, masks, fs, s, s', h => by
    simp only [drawV] at h; cases h
    exact ⟨fun _ => s, fun _ => none, rfl, rfl, by simp, fun i m k hm => by simp at hm⟩
  | m :: ms, j, [], fs, s, s', h => by simp [drawV] at h
  | m :: ms, j, k :: masks, fs, s, s', h => by
    simp only [drawV, cond_eq_ite] at h
    split at h
    · rename_i hw
      unfold drawStep at h
      split at h
      · rename_i y hy
        simp only [cond_eq_ite] at h
        split at h
        · rename_i hf
          obtain ⟨S, X, h1, h2, h3, h4⟩ := drawV_trace h
          refine ⟨fun i => match i with | 0 => s | i + 1 => S i, fun i => match i with | 0 => some y | i + 1 => X i, rfl, h2, by simp; omega, fun i m' k' hm hk => ?_⟩
          cases i with
          | zero =>
            simp at hm hk; subst hm hk
            refine ⟨.inl ⟨hw, y, rfl, hy, h1⟩, fun y' hy' => ⟨fun q r' w' hq hc => ?_, fun q z hq => by omega⟩⟩
            cases hy'
            exact freeAt_ok hf q r' w' hq hc
          | succ i =>
            obtain ⟨g1, g2⟩ := h4 i m' k' (by simpa using hm) (by simpa using hk)
            refine ⟨g1, fun y' hy' => ?_⟩
            obtain ⟨g3, g4⟩ := g2 y' hy'
            refine ⟨fun q r' w' hq hc => g3 q r' w' (note_old hq) hc, fun q z hq hz hc => ?_⟩
            cases q with
            | zero =>
              cases hz
              refine g3 j y.r (allW s.h y) (note_new ?_) hc
              by_cases e1 : y.r = []
              · by_cases e2 : allW s.h y = []
                · simp only [] at hc
                  rw [e1, e2] at hc
                  simp [clash, meets] at hc
                · exact .inr e2
              · exact .inl e1
            | succ q =>
              have := g4 q z (by omega) hz hc
              rwa [show j + 1 + q = j + (q + 1) by omega] at this
        · cases h
      · cases h
    · rename_i hw
      obtain ⟨S, X, h1, h2, h3, h4⟩ := drawV_trace h
      refine ⟨fun i => match i with | 0 => s | i + 1 => S i, fun i => match i with | 0 => none | i + 1 => X i, rfl, h2, by simp; omega, fun i m' k' hm hk => ?_⟩
      cases i with
      | zero =>
        simp at hm hk; subst hm hk
        exact ⟨.inr ⟨by simpa using hw, rfl, h1⟩, fun y' hy' => by cases hy'⟩
      | succ i =>
        obtain ⟨g1, g2⟩ := h4 i m' k' (by simpa using hm) (by simpa using hk)
        refine ⟨g1, fun y' hy' => ?_⟩
        obtain ⟨g3, g4⟩ := g2 y' hy'
        refine ⟨g3, fun q z hq hz hc => ?_⟩
        cases q with
        | zero => cases hz
        | succ q =>
          have := g4 q z (by omega) hz hc
          rwa [show j + 1 + q = j + (q + 1) by omega] at this
end Go.Mini
