/- A part of the proof: MiniMem. No condition. -/
import Derived.Test.YtgknkkdemjjeoaaGreatDoorMiniOps5
import Derived.Laws.IdiomCopy
set_option linter.all false
set_option maxRecDepth 100000
namespace Go.Mini
set_option linter.unusedVariables false
set_option linter.unusedSimpArgs false
variable {P : Program} {G : Nat → Option V} {forb : Nat → Prop} {φ : Phi} {w : World} {t : List V} {a : Act} {D : Nat → Prop} {base : Nat} {h : H} {o : Oper}

theorem mul_sep {i i' s o o' : Nat} (h : i < i') (ho : o < s) : i * s + o < i' * s + o' := by
  have : (i + 1) * s ≤ i' * s := Nat.mul_le_mul_right _ h
  rw [Nat.add_mul] at this
  omega

theorem setCell_heap (w : World) (b k : Nat) (v : Value) (cells : Array Value) (ty : TypeId) (fr : Nat × Nat) (hb : w.heap[b]? = some (.cells cells ty fr)) :
    (w.setCell ⟨b, k, none⟩ v).heap[b]? = some (.cells (cells.setIfInBounds k v) ty fr) := by
  simp [World.setCell, Array.getElem?_modify, hb]
theorem setCell_other (w : World) (b k j : Nat) (v : Value) (hj : j ≠ b) : (w.setCell ⟨b, k, none⟩ v).heap[j]? = w.heap[j]? := by
  simp [World.setCell, Array.getElem?_modify, Ne.symm hj]

theorem setCells_heap (b : Nat) (ty : TypeId) (fr : Nat × Nat) : ∀ (vs : List Value) (o : Nat) (w : World) (cells : Array Value), w.heap[b]? = some (.cells cells ty fr) → o + vs.length ≤ cells.size →
    ∃ cells', (w.setCells b o vs).heap[b]? = some (.cells cells' ty fr) ∧ cells'.size = cells.size ∧ ∀ k, cells'[k]? = if o ≤ k ∧ k < o + vs.length then vs[k - o]? else cells[k]?
  | [], o, w, cells, h, hl => ⟨cells, h, rfl, fun k => by simp; omega⟩
  | v :: vs, o, w, cells, h, hl => by
    simp at hl
    obtain ⟨c', h1, h2, h3⟩ := setCells_heap b ty fr vs (o + 1) (w.setCell ⟨b, o, none⟩ v) (cells.setIfInBounds o v) (setCell_heap w b o v cells ty fr h) (by simp; omega)
    refine ⟨c', h1, by simpa using h2, fun k => ?_⟩
    rw [h3, Array.getElem?_setIfInBounds]
    by_cases e : k = o
    · subst e
      rw [if_neg (by omega), if_pos rfl, if_pos (by omega), if_pos (by simp)]
      simp
    · by_cases e2 : o + 1 ≤ k ∧ k < o + 1 + vs.length
      · rw [if_pos e2, if_pos (by simp; omega)]
        obtain ⟨j, rfl⟩ : ∃ j, k = o + 1 + j := ⟨k - (o + 1), by omega⟩
        have e3 : o + 1 + j - o = j + 1 := by omega
        simp [e3]
      · rw [if_neg e2, if_neg (by omega), if_neg (by simp; omega)]

theorem setCells_rest (b : Nat) : ∀ (vs : List Value) (o : Nat) (w : World), (w.setCells b o vs).heap.size = w.heap.size ∧ (w.setCells b o vs).os = w.os ∧ (w.setCells b o vs).tape = w.tape ∧ (w.setCells b o vs).output = w.output ∧ ∀ j, j ≠ b → (w.setCells b o vs).heap[j]? = w.heap[j]?
  | [], o, w => ⟨rfl, rfl, rfl, rfl, fun _ _ => rfl⟩
  | v :: vs, o, w => by
    obtain ⟨h1, h2, h3, h4, h5⟩ := setCells_rest b vs (o + 1) (w.setCell ⟨b, o, none⟩ v)
    refine ⟨by rw [World.setCells, h1]; simp, by rw [World.setCells, h2]; rfl, by rw [World.setCells, h3]; rfl, by rw [World.setCells, h4]; rfl, fun j hj => by rw [World.setCells, h5 j hj, setCell_other _ _ _ _ _ hj]⟩

theorem ext_setCells {b : Nat} (hf : forb b) (vs : List Value) (k : Nat) {cells : Array Value} {ty : TypeId} {fr : Nat × Nat} (hb : w.heap[b]? = some (.cells cells ty fr)) (hl : k + vs.length ≤ cells.size) : Ext forb forb w (w.setCells b k vs) := by
  obtain ⟨h1, h2, h3, h4, h5⟩ := setCells_rest b vs k w
  refine ⟨fun cb h => .inl h, fun cb hlt hn => h5 cb (by rintro rfl; exact hn hf), fun cb c t' fr' hc => ?_, by omega, h2, h3, h4⟩
  by_cases e : cb = b
  · subst e
    obtain ⟨c', h6, h7, _⟩ := setCells_heap cb ty fr vs k w cells hb hl
    rw [hb] at hc; cases hc
    exact ⟨c', h6, h7⟩
  · exact ⟨c, by rw [h5 cb e]; exact hc, rfl⟩

theorem rowAt_some {b v : Nat} {x : Row} (hx : rowAt h b v = some x) : h[b]? = some (.row x) ∧ x.rd ≤ v ∧ v ≤ x.cur := by
  unfold rowAt at hx
  split at hx
  · split at hx
    · cases hx; exact ⟨by assumption, by assumption⟩
    · cases hx
  · cases hx

theorem setFrom_get {l cs : List V} {o : Nat} (hl : o + cs.length ≤ l.length) (k : Nat) : (setFrom l o cs)[k]? = if o ≤ k ∧ k < o + cs.length then cs[k - o]? else l[k]? := by
  unfold setFrom
  have h1 : (l.take o).length = o := by simp; omega
  by_cases e : k < o
  · rw [if_neg (by omega), List.append_assoc, List.getElem?_append_left (by omega), List.getElem?_take, if_pos e]
  · by_cases e2 : k < o + cs.length
    · rw [if_pos (by omega), List.append_assoc, List.getElem?_append_right (by omega), h1, List.getElem?_append_left (by omega)]
    · rw [if_neg (by omega), List.append_assoc, List.getElem?_append_right (by omega), h1, List.getElem?_append_right (by omega), List.getElem?_drop]
      congr 1; omega
theorem setFrom_length {l cs : List V} {o : Nat} (hl : o + cs.length ≤ l.length) : (setFrom l o cs).length = l.length := by
  unfold setFrom; simp; omega

/-- A row's cells written in place: what lies at the newest version. -/
theorem post_write (hR : Rel forb φ D base h w) {b : Nat} {x x' : Row} {l l' : Loc} {v : V} {c : Value} {r : List Nat} {vs : List Value} {k : Nat} {φ' : Phi} {cells : Array Value} {ty : TypeId} {fr : Nat × Nat}
    (hx : h[b]? = some (.row x)) (hb : D b) (hφ : φ b x.cur = some l)
    (hcell : w.heap[l.cb]? = some (.cells cells ty fr)) (hlen : k + vs.length ≤ cells.size)
    (hmono : ∀ b v l, φ b v = some l → φ' b v = some l) (hother : ∀ b' v, b' ≠ b → φ' b' v = φ b' v)
    (hnew : ∀ v l', φ' b v = some l' → (φ b v = some l') ∨ (l'.cb = l.cb ∧ l'.coff = l.coff ∧ l'.sz = l.sz ∧ l'.lo = l.lo ∧ v = x'.cur))
    (hcur : x.cur ≤ x'.cur)
    (hrow : ∀ v l', x'.rd ≤ v → v ≤ x'.cur → φ' b v = some l' → RowOk forb φ' (w.setCells l.cb k vs) x' v l')
    (hv : VR forb (w.setCells l.cb k vs) φ' v c) :
    Post forb φ D base h w ⟨v, h.set b (.row x'), r, [b]⟩ c (w.setCells l.cb k vs) := by
  obtain ⟨s1, s2, s3, s4, s5⟩ := setCells_rest l.cb vs k w
  have hlow := hR.low b x.cur l hφ
  have hE := ext_setCells (forb := forb) hlow.2.2 vs k hcell hlen
  have hbl : b < h.length := (List.getElem?_eq_some_iff.1 hx).1
  refine ⟨forb, φ', hv, ⟨fun b' y v' l' hb' hy h1 h2 hl' => ?_, fun b' v' l' hl' => ?_, fun b1 v1 l1 b2 v2 l2 hl1 hl2 e => ?_, by rw [s1]; exact hR.top, fun b' y v' l' hb' hy hl' => ?_⟩, hE, hmono, fun b' v' hb' => ?_, fun b' v' l' hl' hne => ?_, fun b' v' hlt hne => ?_, by simp⟩
  · by_cases e : b' = b
    · subst e
      rw [List.getElem?_set_self hbl] at hy
      cases hy
      exact hrow v' l' h1 h2 hl'
    · rw [List.getElem?_set_ne (Ne.symm e)] at hy
      rw [hother b' v' e] at hl'
      have hD : D b' := by
        rcases hb' with hb' | ⟨h3, h4⟩
        · exact hb'
        · simp at h4; omega
      refine (hR.row b' y v' l' hD hy h1 h2 hl').ext hE hmono (s5 _ fun e2 => ?_)
      exact e (hR.apart _ _ _ _ _ _ hl' hφ e2).1
  · by_cases e : b' = b
    · subst e
      rcases hnew v' l' hl' with h1 | ⟨h1, _⟩
      · have := hR.low _ _ _ h1; rw [s1]; exact this
      · rw [h1, s1]; exact hlow
    · rw [hother b' v' e] at hl'
      have := hR.low _ _ _ hl'; rw [s1]; exact this
  · have norm : ∀ b' v' l', φ' b' v' = some l' → ∃ v'' l'', φ b' v'' = some l'' ∧ l''.cb = l'.cb ∧ l''.coff = l'.coff ∧ l''.sz = l'.sz ∧ l''.lo = l'.lo := by
      intro b' v' l' hl'
      by_cases e : b' = b
      · subst e
        rcases hnew v' l' hl' with h1 | ⟨h1, h2, h3, h4, _⟩
        · exact ⟨_, _, h1, rfl, rfl, rfl, rfl⟩
        · exact ⟨_, _, hφ, h1.symm, h2.symm, h3.symm, h4.symm⟩
      · rw [hother b' v' e] at hl'; exact ⟨_, _, hl', rfl, rfl, rfl, rfl⟩
    obtain ⟨v1', l1', q1, q2, q3, q4, q5⟩ := norm _ _ _ hl1
    obtain ⟨v2', l2', p1, p2, p3, p4, p5⟩ := norm _ _ _ hl2
    obtain ⟨z1, z2, z3, z4⟩ := hR.apart _ _ _ _ _ _ q1 p1 (by omega)
    exact ⟨z1, by omega, by omega, by omega⟩
  · by_cases e : b' = b
    · subst e
      rw [List.getElem?_set_self hbl] at hy
      cases hy
      rcases hnew v' l' hl' with h1 | ⟨_, _, _, _, h1⟩
      · exact Nat.le_trans (hR.new _ _ _ _ hb hx h1) hcur
      · omega
    · rw [List.getElem?_set_ne (Ne.symm e)] at hy
      rw [hother b' v' e] at hl'
      have hD : D b' := by
        rcases hb' with hb' | ⟨h3, h4⟩
        · exact hb'
        · simp at h4; omega
      exact hR.new _ _ _ _ hD hy hl'
  · simp at hb'
    exact hother b' v' (by omega)
  · simp at hne
    refine s5 _ fun e2 => ?_
    exact hne (hR.apart _ _ _ _ _ _ hl' hφ e2).1
  · simp at hne
    exact hother b' v' hne
end Go.Mini
