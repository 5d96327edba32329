/- A part of the proof: MiniFz. No condition. -/
import Derived.Test.YtgknkkdemjjeoaaGreatDoorMiniExec
set_option linter.all false
set_option maxRecDepth 100000
namespace Go.Mini
set_option linter.unusedVariables false
set_option linter.unusedSimpArgs false
variable {P : Program} {G : Nat → Option V} {forb forb2 : Nat → Prop} {φ ψ : Phi} {w : World} {D : Nat → Prop} {base n0 : Nat} {h : H}

theorem mapM?_get' {α β : Type} {f : α → Option β} {l : List α} {r : List β} (h : mapM? f l = some r) {i : Nat} {x : α} (hx : l[i]? = some x) : ∃ y, r[i]? = some y ∧ f x = some y := by
  have hl := mapM?_length h
  have hi := (List.getElem?_eq_some_iff.1 hx).1
  have hr : r[i]? = some (r[i]'(by omega)) := by simp [show i < r.length by omega]
  obtain ⟨x', h1, h2⟩ := mapM?_get h i _ hr
  rw [hx] at h1; cases h1
  exact ⟨_, hr, h2⟩
theorem mapM?_mem {α β : Type} {f : α → Option β} {l : List α} {r : List β} (h : mapM? f l = some r) {y : β} (hy : y ∈ r) : ∃ x ∈ l, f x = some y := by
  obtain ⟨i, hi⟩ := List.getElem?_of_mem hy
  obtain ⟨x, h1, h2⟩ := mapM?_get h i y hi
  exact ⟨x, List.mem_of_getElem? h1, h2⟩

theorem fz_cell : ∀ {k : Nat} {inn : Bool} {v u : V}, fz n0 h k inn v = some u → u.isCell = v.isCell
  | 0, inn, v, u, hf => by simp [fz] at hf
  | k + 1, inn, v, u, hf => by
    cases v <;> simp only [fz] at hf
    all_goals
      repeat' split at hf
      all_goals first
        | (cases hf; done)
        | (cases hf; rfl)

theorem fz_vb : ∀ {k : Nat} {inn : Bool} {v u : V} {N : Nat}, VB N v → HB N h → fz n0 h k inn v = some u → (inn = true → VB 0 u) ∧ VB n0 u
  | 0, inn, v, u, N, _, _, hf => by simp [fz] at hf
  | k + 1, inn, v, u, N, hv, hh, hf => by
    have many : ∀ {l r : List V}, (∀ x ∈ l, VB N x) → mapM? (fz n0 h k inn) l = some r → (inn = true → ∀ x ∈ r, VB 0 x) ∧ ∀ x ∈ r, VB n0 x := by
      intro l r hl hr
      refine ⟨fun hi x hx => ?_, fun x hx => ?_⟩
      · obtain ⟨y, h1, h2⟩ := mapM?_mem hr hx
        exact (fz_vb (hl y h1) hh h2).1 hi
      · obtain ⟨y, h1, h2⟩ := mapM?_mem hr hx
        exact (fz_vb (hl y h1) hh h2).2
    cases v <;> simp only [fz] at hf
    case os b vv sz i n clip =>
      split at hf
      · split at hf
        · cases hf
        · rename_i hi; cases hf; exact ⟨fun h1 => (hi h1).elim, .os ‹_›⟩
      · split at hf
        · rename_i x hx
          split at hf
          · split at hf
            · rename_i els hm; cases hf
              have h0 : ∀ el ∈ els, ∀ y ∈ el, VB 0 y := by
                intro el hel y hy
                obtain ⟨el', h1, h2⟩ := mapM?_mem hm hel
                obtain ⟨y', h3, h4⟩ := mapM?_mem h2 hy
                exact (fz_vb (rowAt_vb hh hx el' (List.mem_of_mem_drop (List.mem_of_mem_take h1)) y' h3) hh h4).1 rfl
              exact ⟨fun _ => .rs h0, .rs h0⟩
            · cases hf
          · cases hf
        · cases hf
    case ptr b vv i o =>
      split at hf
      · split at hf
        · cases hf
        · rename_i hi; cases hf; exact ⟨fun h1 => (hi h1).elim, .ptr ‹_›⟩
      · split at hf
        · rename_i x hx
          split at hf
          · rename_i el hel
            split at hf
            · rename_i cs hm; cases hf
              have h0 : ∀ y ∈ cs, VB 0 y := by
                intro y hy
                obtain ⟨y', h3, h4⟩ := mapM?_mem hm hy
                exact (fz_vb (rowAt_vb hh hx el (List.mem_of_getElem? hel) y' (List.mem_of_mem_drop h3)) hh h4).1 rfl
              exact ⟨fun _ => .rp h0, .rp h0⟩
            · cases hf
          · cases hf
        · cases hf
    case mp b => split at hf <;> cases hf; exact ⟨fun _ => .mp, .mp⟩
    case fn f cap =>
      split at hf
      · rename_i cs hm; cases hf
        cases hv; rename_i hv
        obtain ⟨h1, h2⟩ := many hv hm
        exact ⟨fun hi => .fn (h1 hi), .fn h2⟩
      · cases hf
    case agg cs =>
      split at hf
      · rename_i cs hm; cases hf
        cases hv; rename_i hv
        obtain ⟨h1, h2⟩ := many hv hm
        exact ⟨fun hi => .agg (h1 hi), .agg h2⟩
      · cases hf
    case tup cs =>
      split at hf
      · rename_i cs hm; cases hf
        cases hv; rename_i hv
        obtain ⟨h1, h2⟩ := many hv hm
        exact ⟨fun hi => .tup (h1 hi), .tup h2⟩
      · cases hf
    case rp cs => cases hf; cases hv; rename_i hv; exact ⟨fun _ => .rp hv, .rp hv⟩
    case rs sz els => cases hf; cases hv; rename_i hv; exact ⟨fun _ => .rs hv, .rs hv⟩
    all_goals (cases hf; exact ⟨fun _ => by constructor, by constructor⟩)

def laid (inn : Bool) (ψ : Phi) : Phi := bif inn then noPhi else ψ

/-- A frozen value is the same value. -/
theorem fz_ok (hR : Rel forb φ D base h w) (hD : ∀ b, n0 ≤ b → D b) (h2 : ∀ cb, forb2 cb → forb cb) (hf2 : ∀ b v l, n0 ≤ b → b < h.length → φ b v = some l → ¬ forb2 l.cb) (hψ : ∀ b v l, b < n0 → φ b v = some l → ψ b v = some l) :
    ∀ {k : Nat} {inn : Bool} {v u : V} {c : Value}, fz n0 h k inn v = some u → VR forb w φ v c → VR forb2 w (laid inn ψ) u c
  | 0, inn, v, u, c, hf, _ => by simp [fz] at hf
  | k + 1, inn, v, u, c, hf, hv => by
    cases v <;> simp only [fz] at hf
    case os b vv sz i n clip =>
      split at hf
      · rename_i hb
        split at hf
        · cases hf
        · rename_i hi; cases hf
          have : inn = false := by simpa using hi
          subst this
          have hv' : VR forb2 w φ (.os b vv sz i n clip) c := hv.less h2 fun _ _ _ h => h
          obtain ⟨l, a, cap, rfl, hφ, q1, q2, q3, q4, q5, q6, q7⟩ := hv'.os_inv
          exact .os (hψ _ _ _ hb hφ) q1 q2 q3 q4 q5 q6 q7
      · rename_i hb
        split at hf
        · rename_i x hx
          split at hf
          · rename_i hc
            split at hf
            · rename_i els hm; cases hf
              have hel : elems h (.os b vv sz i n clip) = some (sz, (x.els.drop i).take n, [b]) := by simp [elems, hx, hc]
              obtain ⟨l, a, cap, rfl, hφ, q1, q2, q3, q4, q5, q6, q7⟩ := hv.os_inv
              obtain ⟨A, cap', e1, e2, e3, e4, e5⟩ := elems_ok hR hel hv (by simpa using hD b (by omega))
              simp only [Value.slice.injEq, Option.some.injEq] at e1
              obtain ⟨rfl, _, rfl⟩ := e1
              have hlen : ((x.els.drop i).take n).length = n := by simp; omega
              have hlen2 := mapM?_length hm
              rw [← hlen, ← hlen2]
              have key : ∀ (j : Nat) el (o : Nat) y, els[j]? = some el → el[o]? = some y → ∃ y0 u, fz n0 h k true y0 = some y ∧ y0.isCell = true ∧ ¬ forb2 a.block ∧ w.cell? (a.add (j * sz + o)) = some u ∧ VR forb w φ y0 u := by
                intro j el o y hj ho
                obtain ⟨el0, g1, g2⟩ := mapM?_get hm j el hj
                obtain ⟨y0, g3, g4⟩ := mapM?_get g2 o y ho
                obtain ⟨g5, u, g6, g7⟩ := e5 j el0 o y0 g1 g3
                have hn : 0 < n := by rw [← hlen]; have := (List.getElem?_eq_some_iff.1 g1).1; omega
                obtain ⟨ha, _⟩ := q7 (by omega)
                refine ⟨y0, u, g4, g5, ?_, g6, g7⟩
                rw [ha]
                exact hf2 b vv l (by omega) (rowAt_lt hx) hφ
              refine .rs (fun el hel => ?_) (by omega) e3 (fun j el o y hj ho => ?_) (fun j el o y c hj ho hcell => ?_)
              · obtain ⟨el0, g1, g2⟩ := mapM?_mem hm hel
                rw [mapM?_length g2]; exact e4 el0 g1
              · obtain ⟨y0, u, g1, g2, g3, g4, g5⟩ := key j el o y hj ho
                exact ⟨g3, by rw [fz_cell g1]; exact g2, u, g4⟩
              · obtain ⟨y0, u, g1, g2, g3, g4, g5⟩ := key j el o y hj ho
                rw [g4] at hcell; cases hcell
                exact fz_ok hR hD h2 hf2 hψ g1 g5
            · cases hf
          · cases hf
        · cases hf
    case ptr b vv i o =>
      split at hf
      · rename_i hb
        split at hf
        · cases hf
        · rename_i hi; cases hf
          have : inn = false := by simpa using hi
          subst this
          obtain ⟨l, rfl, hφ, q1, q2⟩ := hv.ptr_inv
          exact .ptr (hψ _ _ _ hb hφ) q1 q2
      · rename_i hb
        split at hf
        · rename_i x hx
          split at hf
          · rename_i el hel
            split at hf
            · rename_i cs hm; cases hf
              have hd : deref h (.ptr b vv i o) = some (el.drop o, [b]) := by simp [deref, hx, hel]
              obtain ⟨l, rfl, hφ, q1, q2⟩ := hv.ptr_inv
              obtain ⟨A, e1, e2⟩ := deref_ok hR hd hv (by simpa using hD b (by omega))
              cases e1
              refine .rp (fun o' y ho => ?_) (fun o' y c ho hcell => ?_)
              · obtain ⟨y0, g3, g4⟩ := mapM?_get hm o' y ho
                obtain ⟨g5, u, g6, g7⟩ := e2 o' y0 g3
                exact ⟨hf2 b vv l (by omega) (rowAt_lt hx) hφ, by rw [fz_cell g4]; exact g5, u, g6⟩
              · obtain ⟨y0, g3, g4⟩ := mapM?_get hm o' y ho
                obtain ⟨g5, u, g6, g7⟩ := e2 o' y0 g3
                rw [g6] at hcell; cases hcell
                exact fz_ok hR hD h2 hf2 hψ g4 g7
            · cases hf
          · cases hf
        · cases hf
    case mp b => cases hv
    case fn f cap =>
      split at hf
      · rename_i cs hm; cases hf
        obtain ⟨caps, rfl, hl, hc⟩ := hv.fn_inv
        refine .fn (by rw [hl, mapM?_length hm]) fun i y c hy hcc => ?_
        obtain ⟨y0, g1, g2⟩ := mapM?_get hm i y hy
        exact fz_ok hR hD h2 hf2 hψ g2 (hc i y0 c g1 hcc)
      · cases hf
    case agg cs =>
      split at hf
      · rename_i cs' hm; cases hf
        obtain ⟨vs, rfl, hl, hcell, hc⟩ := hv.agg_inv
        refine .agg (by rw [hl, mapM?_length hm]) (fun y hy => ?_) fun i y c hy hcc => ?_
        · obtain ⟨y0, g1, g2⟩ := mapM?_mem hm hy
          rw [fz_cell g2]; exact hcell y0 g1
        · obtain ⟨y0, g1, g2⟩ := mapM?_get hm i y hy
          exact fz_ok hR hD h2 hf2 hψ g2 (hc i y0 c g1 hcc)
      · cases hf
    case tup cs =>
      split at hf
      · rename_i cs' hm; cases hf
        cases hv
        rename_i vs hl hc
        refine .tup (by rw [hl, mapM?_length hm]) fun i y c hy hcc => ?_
        obtain ⟨y0, g1, g2⟩ := mapM?_get hm i y hy
        exact fz_ok hR hD h2 hf2 hψ g2 (hc i y0 c g1 hcc)
      · cases hf
    case rp cs =>
      cases hf
      have hv' := hv.less h2 fun _ _ _ h => h
      obtain ⟨a, rfl, q1, q2⟩ := hv'.rp_inv
      exact .rp q1 q2
    case rs sz els =>
      cases hf
      have hv' := hv.less h2 fun _ _ _ h => h
      obtain ⟨a, cap, rfl, q1, q2, q3, q4, q5⟩ := hv'.rs_inv
      exact .rs q1 q2 q3 q4 q5
    all_goals (cases hf; cases hv; constructor)

theorem fzBlk_ok : ∀ {bs : List Nat} {h1 h2 : H}, fzBlk n0 h bs h1 = some h2 → h2.length = h1.length ∧ (∀ b, b ∉ bs → h2[b]? = h1[b]?) ∧ (∀ b, b ∈ bs → b < h1.length → ∃ x els, h[b]? = some (.row x) ∧ mapM? (mapM? (fz n0 h 100 false)) x.els = some els ∧ h2[b]? = some (.row { x with els }))
  | [], h1, h2, hf => by simp only [fzBlk] at hf; cases hf; simp
  | b :: bs, h1, h2, hf => by
    simp only [fzBlk] at hf
    split at hf
    · rename_i x hx
      split at hf
      · rename_i els hm
        obtain ⟨g1, g2, g3⟩ := fzBlk_ok hf
        refine ⟨by simpa using g1, fun c hc => ?_, fun c hc hlt => ?_⟩
        · simp at hc
          rw [g2 c hc.2, List.getElem?_set_ne (Ne.symm hc.1)]
        · by_cases e : c ∈ bs
          · exact g3 c e (by simpa using hlt)
          · have : c = b := by simpa [e] using hc
            subst this
            refine ⟨x, els, hx, hm, ?_⟩
            rw [g2 c e]
            simp [hlt]
      · cases hf
    · cases hf
end Go.Mini
