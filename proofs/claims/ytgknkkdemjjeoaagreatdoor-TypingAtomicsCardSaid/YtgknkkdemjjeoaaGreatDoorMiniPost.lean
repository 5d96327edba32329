/- A part of the proof: MiniPost. No condition. -/
import Derived.Test.YtgknkkdemjjeoaaGreatDoorMiniRel
set_option linter.all false
set_option maxRecDepth 100000
namespace Go.Mini
set_option linter.unusedVariables false

/-- What an operation of the small machine says of the model's. -/
structure Post0 (forb : Nat → Prop) (φ : Phi) (D : Nat → Prop) (base : Nat) (h : H) (w : World) (x : Res) (c : Value) (w' : World) (forb' : Nat → Prop) (φ' : Phi) : Prop where
  v : VR forb' w' φ' x.v c
  rel : Rel forb' φ' (fun b => D b ∨ (h.length ≤ b ∧ b < x.h.length)) base x.h w'
  ext : Ext forb forb' w w'
  mono : ∀ b v l, φ b v = some l → φ' b v = some l
  far : ∀ b v, x.h.length ≤ b → φ' b v = φ b v
  loc : ∀ b v l, φ b v = some l → b ∉ x.w → w'.heap[l.cb]? = w.heap[l.cb]?
  old : ∀ b v, b < h.length → b ∉ x.w → φ' b v = φ b v
  grow : h.length ≤ x.h.length
def Post (forb : Nat → Prop) (φ : Phi) (D : Nat → Prop) (base : Nat) (h : H) (w : World) (x : Res) (c : Value) (w' : World) : Prop := ∃ forb' φ', Post0 forb φ D base h w x c w' forb' φ'

theorem Rel.more {forb : Nat → Prop} {φ : Phi} {D : Nat → Prop} {base : Nat} {h : H} {w : World} (k : Rel forb φ D base h w) : Rel forb φ (fun b => D b ∨ (h.length ≤ b ∧ b < h.length)) base h w :=
  k.part fun b hb => by rcases hb with hb | ⟨h1, h2⟩; exact hb; omega

theorem post_same {forb : Nat → Prop} {φ : Phi} {D : Nat → Prop} {base : Nat} {h : H} {w : World} {v : V} {r : List Nat} {c : Value} (k : Rel forb φ D base h w) (hv : VR forb w φ v c) : Post forb φ D base h w ⟨v, h, r, []⟩ c w :=
  ⟨forb, φ, hv, k.more, Ext.refl _ _, fun _ _ _ h => h, fun _ _ _ => rfl, fun _ _ _ _ _ => rfl, fun _ _ _ _ => rfl, Nat.le_refl _⟩

/-- a draw turns nothing -/
theorem Ext.drew (forb : Nat → Prop) (w : World) (n : Nat) : Ext forb forb w { w with drawn := n } :=
  ⟨fun _ h => .inl h, fun _ _ _ => rfl, fun _ cells _ _ h => ⟨cells, h, rfl⟩, Nat.le_refl _, rfl, rfl, rfl⟩

theorem RowOk.ext {f f' : Nat → Prop} {w w' : World} (h : Ext f f' w w') {φ ψ : Phi} {x : Row} {v : Nat} {l : Loc} (k : RowOk f φ w x v l) (hψ : ∀ b v l, φ b v = some l → ψ b v = some l) (hb : w'.heap[l.cb]? = w.heap[l.cb]?) : RowOk f' ψ w' x v l := by
  obtain ⟨h1, h2, h3, h4, cells, t, fr, h5, h6, h7⟩ := k
  refine ⟨h1, h2, h3, h4, cells, t, fr, by rw [hb]; exact h5, h6, fun i el o y ha hi he ho => ?_⟩
  obtain ⟨h8, c, h9, h10⟩ := h7 i el o y ha hi he ho
  exact ⟨h8, c, h9, h10.ext h ψ hψ⟩

theorem Rel.drew {forb : Nat → Prop} {φ : Phi} {D : Nat → Prop} {base : Nat} {h : H} {w : World} (k : Rel forb φ D base h w) (n : Nat) : Rel forb φ D base h { w with drawn := n } :=
  ⟨fun b x v l hb hx h1 h2 hl => (k.row b x v l hb hx h1 h2 hl).ext (Ext.drew forb w n) (fun _ _ _ h => h) rfl, k.low, k.apart, k.top, k.new⟩

def upd (φ : Phi) (b v : Nat) (l : Loc) : Phi := fun b' v' => if b' = b ∧ v' = v then some l else φ b' v'

theorem upd_same (φ : Phi) (b v : Nat) (l : Loc) : upd φ b v l b v = some l := by simp [upd]
theorem upd_mono {φ : Phi} {b v : Nat} {l : Loc} (hb : ∀ v', φ b v = some v' → False) : ∀ b' v' l', φ b' v' = some l' → upd φ b v l b' v' = some l' := by
  intro b' v' l' h
  unfold upd
  split
  · rename_i e; obtain ⟨rfl, rfl⟩ := e; exact (hb _ h).elim
  · exact h

/-- The world with one more block. -/
abbrev grow (w : World) (o : Obj) : World := { w with heap := w.heap.push o }

theorem heap_grow {w : World} {o : Obj} {k : Nat} (h : k < w.heap.size) : (grow w o).heap[k]? = w.heap[k]? := by
  show (w.heap.push o)[k]? = _
  rw [Array.getElem?_push, if_neg (by omega)]
theorem heap_grow_new (w : World) (o : Obj) : (grow w o).heap[w.heap.size]? = some o := by
  show (w.heap.push o)[w.heap.size]? = _
  simp

theorem ext_grow (forb : Nat → Prop) (w : World) (o : Obj) : Ext forb (fun cb => forb cb ∨ cb = w.heap.size) w (grow w o) := by
  refine ⟨fun cb h => ?_, fun cb hlt _ => heap_grow hlt, fun cb cells t fr hc => ⟨cells, ?_, rfl⟩, by simp [grow], rfl, rfl, rfl⟩
  · rcases h with h | h
    · exact .inl h
    · exact .inr (by omega)
  · rw [heap_grow]
    · exact hc
    · rcases Nat.lt_or_ge cb w.heap.size with h1 | h1
      · exact h1
      · simp [Array.getElem?_eq_none h1] at hc

/-- A new row: its cells lie one behind the other in a new block (which may have more of them). -/
theorem post_new {forb : Nat → Prop} {φ : Phi} {D : Nat → Prop} {base : Nat} {h : H} {w : World} {v : V} {r : List Nat} {c : Value}
    (k : Rel forb φ D base h w) (sz : Nat) (els : List (List V)) (cells : Array Value) (t : TypeId) (fr : Nat × Nat)
    (hfr : ∀ o, o < cells.size → ¬ (fr.1 ≤ o ∧ o < fr.2)) (hsz : ∀ el ∈ els, el.length = sz)
    (hfree : ∀ v, φ h.length v = none)
    (hcells : ∀ (i : Nat) el (o : Nat) y, els[i]? = some el → el[o]? = some y → y.isCell = true ∧ ∃ c, cells[i * sz + o]? = some c ∧ VR forb w φ y c)
    (hv : ∀ forb' φ' w', φ' h.length 0 = some ⟨w.heap.size, 0, 0, els.length, sz⟩ → (∃ fr, w'.heap[w.heap.size]? = some (.cells cells t fr)) → VR forb' w' φ' v c) :
    Post forb φ D base h w ⟨v, newRow h sz els, r, []⟩ c (grow w (.cells cells t fr)) := by
  have hE := ext_grow forb w (.cells cells t fr)
  have hm : ∀ b' v' l', φ b' v' = some l' → upd φ h.length 0 ⟨w.heap.size, 0, 0, els.length, sz⟩ b' v' = some l' := upd_mono fun v' hv' => by rw [hfree] at hv'; cases hv'
  refine ⟨fun cb => forb cb ∨ cb = w.heap.size, upd φ h.length 0 ⟨w.heap.size, 0, 0, els.length, sz⟩, hv _ _ _ (upd_same ..) ⟨fr, heap_grow_new w _⟩, ?_, hE, hm, ?_, ?_, ?_, by simp [newRow]⟩
  · refine ⟨fun b x v l hb hx h1 h2 hl => ?_, fun b v l hl => ?_, fun b v l b' v' l' hl hl' e => ?_, Nat.le_trans k.top hE.size, fun b x v l hb hx hl => ?_⟩
    · unfold upd at hl
      split at hl
      · rename_i e; obtain ⟨rfl, rfl⟩ := e
        obtain rfl : _ = l := Option.some.inj hl
        have hx' : x = ⟨sz, els, 0, 0⟩ := by
          have : (newRow h sz els)[h.length]? = some (.row ⟨sz, els, 0, 0⟩) := by simp [newRow]
          rw [this] at hx; cases hx; rfl
        subst hx'
        refine ⟨rfl, Nat.le_refl _, fun _ => rfl, hsz, cells, t, fr, heap_grow_new w _, hfr, fun i el o y _ _ he ho => ?_⟩
        obtain ⟨h3, c', h4, h5⟩ := hcells i el o y he ho
        exact ⟨h3, c', by simpa using h4, h5.ext hE _ hm⟩
      · rename_i e
        have hlt : b < h.length := by
          rcases Nat.lt_or_ge b h.length with h3 | h3
          · exact h3
          · have hb2 : b < (newRow h sz els).length := by
              rcases List.getElem?_eq_some_iff.1 hx with ⟨h4, _⟩; exact h4
            simp [newRow] at hb2
            obtain rfl : b = h.length := by omega
            rw [hfree] at hl; cases hl
        have hx0 : h[b]? = some (.row x) := by
          simp only [newRow] at hx; rwa [List.getElem?_append_left hlt] at hx
        have hD : D b := by
          rcases hb with hb | ⟨hb, _⟩
          · exact hb
          · omega
        exact (k.row b x v l hD hx0 h1 h2 hl).ext hE hm (heap_grow (k.low _ _ _ hl).2.1)
    · unfold upd at hl
      split at hl
      · obtain rfl : _ = l := Option.some.inj hl
        exact ⟨k.top, by simp [grow], .inr rfl⟩
      · have := k.low b v l hl
        exact ⟨this.1, by simp [grow]; omega, .inl this.2.2⟩
    · unfold upd at hl hl'
      split at hl <;> split at hl'
      · rename_i e1 e2
        obtain rfl : _ = l := Option.some.inj hl
        obtain rfl : _ = l' := Option.some.inj hl'
        exact ⟨by rw [e1.1, e2.1], rfl, rfl, rfl⟩
      · obtain rfl : _ = l := Option.some.inj hl
        have := (k.low _ _ _ hl').2.1
        simp at e; omega
      · obtain rfl : _ = l' := Option.some.inj hl'
        have := (k.low _ _ _ hl).2.1
        simp at e; omega
      · exact k.apart _ _ _ _ _ _ hl hl' e
    · unfold upd at hl
      split at hl
      · rename_i e; omega
      · have hlt : b < h.length := by
          rcases Nat.lt_or_ge b h.length with h3 | h3
          · exact h3
          · have hb2 : b < (newRow h sz els).length := by
              rcases List.getElem?_eq_some_iff.1 hx with ⟨h4, _⟩; exact h4
            simp [newRow] at hb2
            obtain rfl : b = h.length := by omega
            rw [hfree] at hl; cases hl
        have hx0 : h[b]? = some (.row x) := by
          simp only [newRow] at hx; rwa [List.getElem?_append_left hlt] at hx
        have hD : D b := by
          rcases hb with hb | ⟨hb, _⟩
          · exact hb
          · omega
        exact k.new b x v l hD hx0 hl
  · intro b v hb
    simp [newRow] at hb
    unfold upd; rw [if_neg]; rintro ⟨rfl, _⟩; omega
  · intro b v l hl _
    exact heap_grow (k.low _ _ _ hl).2.1
  · intro b v hb _
    unfold upd; rw [if_neg]; rintro ⟨rfl, _⟩; omega
end Go.Mini
