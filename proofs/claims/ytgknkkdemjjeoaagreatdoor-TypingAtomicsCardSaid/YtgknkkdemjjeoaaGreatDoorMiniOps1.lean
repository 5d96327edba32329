/- A part of the proof: MiniOps1. No condition. -/
import Derived.Test.YtgknkkdemjjeoaaGreatDoorMiniPost
import Derived.Laws.Sem
import Derived.Laws.World
import Derived.Laws.Cells
set_option linter.all false
set_option maxRecDepth 100000
namespace Go.Mini
set_option linter.unusedVariables false
set_option linter.unusedSimpArgs false

/-- The slots, value by value; the variables of the packages that are known. -/
structure Tm (G : Nat → Option V) (forb : Nat → Prop) (φ : Phi) (w : World) (t : List V) (a : Act) : Prop where
  len : a.tmps.size = t.length
  val : ∀ (i : Nat) v, t[i]? = some v → ∃ c, a.tmps[i]? = some c ∧ VR forb w φ v c
  glob : ∀ n v, G n = some v → VR forb w noPhi v (.pointer (some ⟨n, 0, none⟩))

theorem ofVal1_ok {forb : Nat → Prop} {φ : Phi} {w : World} {x : Value} {v : V} (h : ofVal1 x = some v) : VR forb w φ v x := by
  unfold ofVal1 at h
  split at h
  · cases h; exact .bool
  · cases h; exact .int
  · cases h; rename_i s; have : s = ⟨s.data.toList.toArray⟩ := by simp
    rw [this]; simpa using VR.str (s := s.data.toList)
  · split at h
    · rename_i vs hs; cases h
      obtain rfl : vs = #[] := by apply Array.eq_empty_of_size_eq_zero hs
      exact .undef
    · cases h
  · cases h; exact .nilp
  · cases h; exact .nils
  · cases h; exact .nilm
  · cases h; exact .nilf
  · cases h

theorem ofVals_ok {forb : Nat → Prop} {φ : Phi} {w : World} : ∀ {xs : List Value} {vs : List V}, ofVals xs = some vs → xs.length = vs.length ∧ (∀ v ∈ vs, v.isCell = true) ∧ ∀ (i : Nat) v c, vs[i]? = some v → xs[i]? = some c → VR forb w φ v c
  | [], vs, h => by cases h; simp
  | x :: xs, vs, h => by
    unfold ofVals at h
    split at h
    · rename_i y ys h1 h2
      split at h
      · rename_i hc
        cases h
        obtain ⟨h3, h4, h5⟩ := ofVals_ok (forb := forb) (φ := φ) (w := w) h2
        refine ⟨by simp [h3], fun v hv => ?_, fun i v c hv hx => ?_⟩
        · rcases List.mem_cons.1 hv with rfl | hv
          · exact hc
          · exact h4 v hv
        · cases i with
          | zero => simp at hv hx; subst hv hx; exact ofVal1_ok h1
          | succ i => exact h5 i v c (by simpa using hv) (by simpa using hx)
      · cases h
    · cases h

theorem ofVal_ok {forb : Nat → Prop} {φ : Phi} {w : World} {x : Value} {v : V} (h : ofVal x = some v) : VR forb w φ v x := by
  unfold ofVal at h
  split at h
  · rename_i cs
    rcases hc : ofVals cs.toList with _ | vs
    · simp [hc] at h
    · simp [hc] at h
      subst h
      obtain ⟨h1, h2, h3⟩ := ofVals_ok (forb := forb) (φ := φ) (w := w) hc
      have : cs = ⟨cs.toList⟩ := rfl
      rw [this]
      exact .agg h1 h2 h3
  · exact ofVal1_ok h

variable {P : Program} {G : Nat → Option V} {forb : Nat → Prop} {φ : Phi} {w : World} {t : List V} {a : Act}

theorem ev_ok (ht : Tm G forb φ w t a) {x : Operand} {d : Opd} {v : V} (hx : opd x = some d) (hv : ev G t d = some v) : VR forb w φ v (a.eval x) := by
  unfold opd at hx
  split at hx
  · cases hx
    obtain ⟨c, h1, h2⟩ := ht.val _ _ hv
    simpa [Act.eval, Array.getD, Array.getElem?_eq_some_iff.1 h1 |>.1, (Array.getElem?_eq_some_iff.1 h1).2] using h2
  · rename_i c
    rcases h1 : ofVal c with _ | u
    · simp [h1] at hx
    · simp [h1] at hx; subst hx; cases hv; exact ofVal_ok h1
  · cases hx
    exact (ht.glob _ _ hv).less (fun _ h => h) (fun _ _ _ h => by cases h)
  · cases hx; cases hv
    exact .fn (by simp) (by simp)

theorem evs_ok (ht : Tm G forb φ w t a) : ∀ {xs : List Operand} {ds : List Opd} {vs : List V}, mapM? opd xs = some ds → evs G t ds = some vs → vs.length = xs.length ∧ ∀ (i : Nat) v x, vs[i]? = some v → xs[i]? = some x → VR forb w φ v (a.eval x)
  | [], ds, vs, h, hv => by cases h; cases hv; simp
  | x :: xs, ds, vs, h, hv => by
    unfold mapM? at h
    split at h
    · rename_i d ds' h1 h2
      cases h
      unfold evs at hv
      split at hv
      · rename_i v vs' h3 h4
        cases hv
        obtain ⟨h5, h6⟩ := evs_ok ht h2 h4
        refine ⟨by simp [h5], fun i u y hu hy => ?_⟩
        cases i with
        | zero => simp at hu hy; subst hu hy; exact ev_ok ht h1 h3
        | succ i => exact h6 i u y (by simpa using hu) (by simpa using hy)
      · cases hv
    · cases h

/-- What an operation comes to. -/
def Goes (P : Program) (o : Oper) (a : Act) (w : World) (Q : Value → World → Prop) : Prop :=
  (∃ c w', (execOp a.eval o).run P w = .ok (.value c) w' ∧ Q c w') ∨ (∃ w', (execOp a.eval o).run P w = .ok .skip w' ∧ Q Go.undef w') ∨
  (∃ f args, (execOp a.eval o).run P w = .ok (.enter f args) w ∧ Calls P f args w (fun e w' => ∃ c, e = .returned c ∧ Q c w'))

theorem Goes.wp {o : Oper} {Q : Value → World → Prop} (h : Goes P o a w Q) {K : Act → World → Prop} {X : Exit → Act → World → Prop} (hk : ∀ c w', Q c w' → K (a.put o.dst c) w') : o.wp P a w K X := by
  rcases h with ⟨c, w', h1, h2⟩ | ⟨w', h1, h2⟩ | ⟨f, args, h1, h2⟩
  · unfold Oper.wp; rw [h1]; exact hk _ _ h2
  · unfold Oper.wp; rw [h1]; exact hk _ _ h2
  · unfold Oper.wp; rw [h1]
    refine h2.mono fun e w' he => ?_
    obtain ⟨c, rfl, hq⟩ := he
    exact hk _ _ hq

theorem goes_value {o : Oper} {Q : Value → World → Prop} {c : Value} {w' : World} (h : (execOp a.eval o).run P w = .ok (.value c) w') (hq : Q c w') : Goes P o a w Q := .inl ⟨c, w', h, hq⟩

/-- A value that is no struct is one cell. -/
theorem VR.cells_ok {v : V} {c : Value} (h : VR forb w φ v c) (hl : v.lies = true) : c.cells.size = v.cells.length ∧ (∀ y ∈ v.cells, y.isCell = true) ∧ ∀ (i : Nat) y, v.cells[i]? = some y → ∃ u, c.cells[i]? = some u ∧ VR forb w φ y u := by
  have h' := h
  cases h with
  | agg h1 h2 h3 =>
    rename_i cs vs
    refine ⟨by simpa [Value.cells, V.cells] using h1, by simpa [V.cells] using h2, fun i y hy => ?_⟩
    simp only [V.cells] at hy
    have hi : i < vs.length := by rw [h1]; exact (List.getElem?_eq_some_iff.1 hy).1
    exact ⟨vs[i], by simp [Value.cells, hi], h3 i y _ hy (by simp [hi])⟩
  | undef => cases hl
  | tup => cases hl
  | _ =>
    refine ⟨by simp [Value.cells, V.cells], by simp [V.cells, V.isCell], fun i y hy => ?_⟩
    cases i with
    | zero => simp [V.cells] at hy; subst hy; exact ⟨_, rfl, h'⟩
    | succ i => simp [V.cells] at hy

theorem VR.oneCell {v : V} {c : Value} (h : VR forb w φ v c) (hl : v.isCell = true) : c.oneCell' = true := by
  cases h <;> first | rfl | cases hl

theorem mapM?_length {α β : Type} {f : α → Option β} : ∀ {l : List α} {r : List β}, mapM? f l = some r → r.length = l.length
  | [], r, h => by cases h; rfl
  | x :: xs, r, h => by
    unfold mapM? at h
    split at h
    · rename_i h1 h2; cases h; simp [mapM?_length h2]
    · cases h
theorem mapM?_get {α β : Type} {f : α → Option β} : ∀ {l : List α} {r : List β}, mapM? f l = some r → ∀ (i : Nat) y, r[i]? = some y → ∃ x, l[i]? = some x ∧ f x = some y
  | [], r, h, i, y, hy => by cases h; simp at hy
  | x :: xs, r, h, i, y, hy => by
    unfold mapM? at h
    split at h
    · rename_i h1 h2; cases h
      cases i with
      | zero => simp at hy; subst hy; exact ⟨x, rfl, h1⟩
      | succ i => simpa using mapM?_get h2 i y (by simpa using hy)
    · cases h
end Go.Mini
