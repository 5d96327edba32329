/- A part of the proof: MiniRel. No condition. -/
import Derived.Test.YtgknkkdemjjeoaaGreatDoorMiniDefs
set_option linter.all false
set_option maxRecDepth 100000
namespace Go.Mini
set_option linter.unusedVariables false

/-- Where a version of a row lies: its block, where element lo begins, how many elements are known, how many cells each has. -/
structure Loc where
  cb : Nat
  coff : Nat
  lo : Nat
  len : Nat
  sz : Nat
abbrev Phi := Nat → Nat → Option Loc
def noPhi : Phi := fun _ _ => none
def Loc.at (l : Loc) (i o : Nat) : Addr := ⟨l.cb, l.coff + (i - l.lo) * l.sz + o, none⟩

/-- A value of the small machine and the model's. forb: blocks into which immutable values may not lead. -/
inductive VR (forb : Nat → Prop) (w : World) : Phi → V → Value → Prop
  | bool {φ b} : VR forb w φ (.bool b) (.bool b)
  | int {φ k n} : VR forb w φ (.int k n) (.int k n)
  | str {φ s} : VR forb w φ (.str s) (.string ⟨s.toArray⟩)
  | undef {φ} : VR forb w φ .undef (.tuple #[])
  | nilp {φ} : VR forb w φ .nilp (.pointer none)
  | nils {φ} : VR forb w φ .nils (.slice none 0 0)
  | nilm {φ} : VR forb w φ .nilm .nilIface
  | nilf {φ} : VR forb w φ .nilf .nilFunc
  | ptr {φ b v i o l} (hφ : φ b v = some l) (h0 : l.lo ≤ i) (h1 : i < l.len) : VR forb w φ (.ptr b v i o) (.pointer (some (l.at i o)))
  | os {φ b v sz i n clip l a cap} (hφ : φ b v = some l) (hsz : l.sz = sz) (h0 : l.lo ≤ i) (h1 : i + n ≤ l.len) (hn : n ≤ cap) (hm : cap ≤ 9223372036854775807) (hc : clip = true → cap = n)
      (ha : cap ≠ 0 → a = l.at i 0 ∧ ∃ cells t fr, w.heap[l.cb]? = some (.cells cells t fr) ∧ l.coff + (i - l.lo + cap) * sz ≤ cells.size) :
      VR forb w φ (.os b v sz i n clip) (.slice (some a) n cap)
  | rs {φ : Phi} {sz : Nat} {els : List (List V)} {a : Addr} {cap : Nat} (hl : ∀ el ∈ els, el.length = sz) (hc : els.length ≤ cap) (hm : cap ≤ 9223372036854775807)
      (hs : ∀ (i : Nat) el (o : Nat) x, els[i]? = some el → el[o]? = some x → ¬ forb a.block ∧ x.isCell = true ∧ ∃ c, w.cell? (a.add (i * sz + o)) = some c)
      (hv : ∀ (i : Nat) el (o : Nat) x c, els[i]? = some el → el[o]? = some x → w.cell? (a.add (i * sz + o)) = some c → VR forb w noPhi x c) :
      VR forb w φ (.rs sz els) (.slice (some a) els.length cap)
  | rp {φ : Phi} {cells : List V} {a : Addr}
      (hs : ∀ (o : Nat) x, cells[o]? = some x → ¬ forb a.block ∧ x.isCell = true ∧ ∃ c, w.cell? (a.add o) = some c)
      (hv : ∀ (o : Nat) x c, cells[o]? = some x → w.cell? (a.add o) = some c → VR forb w noPhi x c) : VR forb w φ (.rp cells) (.pointer (some a))
  | fn {φ : Phi} {f : FuncId} {cap : List V} {caps : List Value} (hl : caps.length = cap.length) (hv : ∀ (i : Nat) x c, cap[i]? = some x → caps[i]? = some c → VR forb w φ x c) : VR forb w φ (.fn f cap) (.func (.func f) #[] ⟨caps⟩)
  | agg {φ : Phi} {cs : List V} {vs : List Value} (hl : vs.length = cs.length) (hc : ∀ x ∈ cs, x.isCell = true) (hv : ∀ (i : Nat) x c, cs[i]? = some x → vs[i]? = some c → VR forb w φ x c) : VR forb w φ (.agg cs) (.agg ⟨vs⟩)
  | tup {φ : Phi} {cs : List V} {vs : List Value} (hl : vs.length = cs.length) (hv : ∀ (i : Nat) x c, cs[i]? = some x → vs[i]? = some c → VR forb w φ x c) : VR forb w φ (.tup cs) (.tuple ⟨vs⟩)

theorem VR.os_inv {forb : Nat → Prop} {w : World} {φ : Phi} {b v sz i n : Nat} {clip : Bool} {c : Value} (h : VR forb w φ (.os b v sz i n clip) c) :
    ∃ l a cap, c = .slice (some a) n cap ∧ φ b v = some l ∧ l.sz = sz ∧ l.lo ≤ i ∧ i + n ≤ l.len ∧ n ≤ cap ∧ cap ≤ 9223372036854775807 ∧ (clip = true → cap = n) ∧
      (cap ≠ 0 → a = l.at i 0 ∧ ∃ cells t fr, w.heap[l.cb]? = some (.cells cells t fr) ∧ l.coff + (i - l.lo + cap) * sz ≤ cells.size) := by
  cases h with
  | os hφ hsz h0 h1 hn hm hc ha => exact ⟨_, _, _, rfl, hφ, hsz, h0, h1, hn, hm, hc, ha⟩
theorem VR.rs_inv {forb : Nat → Prop} {w : World} {φ : Phi} {sz : Nat} {els : List (List V)} {c : Value} (h : VR forb w φ (.rs sz els) c) :
    ∃ a cap, c = .slice (some a) els.length cap ∧ (∀ el ∈ els, el.length = sz) ∧ els.length ≤ cap ∧ cap ≤ 9223372036854775807 ∧
      (∀ (i : Nat) el (o : Nat) x, els[i]? = some el → el[o]? = some x → ¬ forb a.block ∧ x.isCell = true ∧ ∃ c, w.cell? (a.add (i * sz + o)) = some c) ∧
      (∀ (i : Nat) el (o : Nat) x c, els[i]? = some el → el[o]? = some x → w.cell? (a.add (i * sz + o)) = some c → VR forb w noPhi x c) := by
  cases h with
  | rs hl hc hm hs hv => exact ⟨_, _, rfl, hl, hc, hm, hs, hv⟩
theorem VR.rp_inv {forb : Nat → Prop} {w : World} {φ : Phi} {cells : List V} {c : Value} (h : VR forb w φ (.rp cells) c) :
    ∃ a, c = .pointer (some a) ∧ (∀ (o : Nat) x, cells[o]? = some x → ¬ forb a.block ∧ x.isCell = true ∧ ∃ c, w.cell? (a.add o) = some c) ∧
      (∀ (o : Nat) x c, cells[o]? = some x → w.cell? (a.add o) = some c → VR forb w noPhi x c) := by
  cases h with
  | rp hs hv => exact ⟨_, rfl, hs, hv⟩
theorem VR.ptr_inv {forb : Nat → Prop} {w : World} {φ : Phi} {b v i o : Nat} {c : Value} (h : VR forb w φ (.ptr b v i o) c) :
    ∃ l, c = .pointer (some (l.at i o)) ∧ φ b v = some l ∧ l.lo ≤ i ∧ i < l.len := by
  cases h with
  | ptr hφ h0 h1 => exact ⟨_, rfl, hφ, h0, h1⟩
theorem VR.agg_inv {forb : Nat → Prop} {w : World} {φ : Phi} {cs : List V} {c : Value} (h : VR forb w φ (.agg cs) c) :
    ∃ vs : List Value, c = .agg ⟨vs⟩ ∧ vs.length = cs.length ∧ (∀ x ∈ cs, x.isCell = true) ∧ ∀ (i : Nat) x c, cs[i]? = some x → vs[i]? = some c → VR forb w φ x c := by
  cases h with
  | agg hl hc hv => exact ⟨_, rfl, hl, hc, hv⟩
theorem VR.fn_inv {forb : Nat → Prop} {w : World} {φ : Phi} {f : FuncId} {cap : List V} {c : Value} (h : VR forb w φ (.fn f cap) c) :
    ∃ caps : List Value, c = .func (.func f) #[] ⟨caps⟩ ∧ caps.length = cap.length ∧ ∀ (i : Nat) x c, cap[i]? = some x → caps[i]? = some c → VR forb w φ x c := by
  cases h with
  | fn hl hv => exact ⟨_, rfl, hl, hv⟩

/-- What a step leaves of the world. -/
structure Ext (forb forb' : Nat → Prop) (w w' : World) : Prop where
  fb : ∀ cb, forb' cb → forb cb ∨ w.heap.size ≤ cb
  keep : ∀ cb, cb < w.heap.size → ¬ forb cb → w'.heap[cb]? = w.heap[cb]?
  shape : ∀ (cb : Nat) (cells : Array Value) (t : TypeId) (fr : Nat × Nat), w.heap[cb]? = some (.cells cells t fr) → ∃ cells' : Array Value, w'.heap[cb]? = some (.cells cells' t fr) ∧ cells'.size = cells.size
  size : w.heap.size ≤ w'.heap.size
  os : w'.os = w.os
  tape : w'.tape = w.tape
  output : w'.output = w.output

theorem Ext.refl (forb : Nat → Prop) (w : World) : Ext forb forb w w :=
  ⟨fun _ h => .inl h, fun _ _ _ => rfl, fun _ cells _ _ h => ⟨cells, h, rfl⟩, Nat.le_refl _, rfl, rfl, rfl⟩

theorem Ext.trans {f f' f'' : Nat → Prop} {w w' w'' : World} (h : Ext f f' w w') (k : Ext f' f'' w' w'') : Ext f f'' w w'' := by
  refine ⟨fun cb hc => ?_, fun cb hlt hf => ?_, fun cb cells t fr hc => ?_, Nat.le_trans h.size k.size, k.os.trans h.os, k.tape.trans h.tape, k.output.trans h.output⟩
  · rcases k.fb cb hc with h1 | h1
    · exact h.fb cb h1
    · exact .inr (Nat.le_trans h.size h1)
  · have h1 := h.keep cb hlt hf
    rw [k.keep cb (Nat.lt_of_lt_of_le hlt h.size) ?_, h1]
    intro hf'
    rcases h.fb cb hf' with h2 | h2
    · exact hf h2
    · omega
  · obtain ⟨c1, h1, h2⟩ := h.shape cb cells t fr hc
    obtain ⟨c2, h3, h4⟩ := k.shape cb c1 t fr h1
    exact ⟨c2, h3, h4.trans h2⟩

theorem cell_lt {w : World} {a : Addr} {c : Value} (h : w.cell? a = some c) : a.block < w.heap.size := by
  unfold World.cell? at h
  rcases Nat.lt_or_ge a.block w.heap.size with h1 | h1
  · exact h1
  · simp [Array.getElem?_eq_none h1] at h
theorem cell_congr {w w' : World} {a : Addr} (h : w'.heap[a.block]? = w.heap[a.block]?) : w'.cell? a = w.cell? a := by
  simp only [World.cell?, h]
theorem add_block (a : Addr) (n : Nat) : (a.add n).block = a.block := by unfold Addr.add; split <;> rfl

theorem Ext.cell {f f' : Nat → Prop} {w w' : World} (h : Ext f f' w w') {a : Addr} {c : Value} (hc : w.cell? a = some c) (hf : ¬ f a.block) : w'.cell? a = some c := by
  rw [cell_congr (h.keep a.block (cell_lt hc) hf)]; exact hc

theorem VR.ext {f f' : Nat → Prop} {w w' : World} (h : Ext f f' w w') {φ : Phi} {v : V} {c : Value} (hv : VR f w φ v c) :
    ∀ ψ : Phi, (∀ b v l, φ b v = some l → ψ b v = some l) → VR f' w' ψ v c := by
  induction hv with
  | bool => intro ψ _; exact .bool
  | int => intro ψ _; exact .int
  | str => intro ψ _; exact .str
  | undef => intro ψ _; exact .undef
  | nilp => intro ψ _; exact .nilp
  | nils => intro ψ _; exact .nils
  | nilm => intro ψ _; exact .nilm
  | nilf => intro ψ _; exact .nilf
  | ptr hφ h0 h1 => intro ψ hψ; exact .ptr (hψ _ _ _ hφ) h0 h1
  | os hφ hsz h0 h1 hn hm hc ha =>
    intro ψ hψ
    refine .os (hψ _ _ _ hφ) hsz h0 h1 hn hm hc fun hcap => ?_
    obtain ⟨ha, cells, t, fr, h2, h3⟩ := ha hcap
    obtain ⟨cells', h4, h5⟩ := h.shape _ _ _ _ h2
    exact ⟨ha, cells', t, fr, h4, by rw [h5]; exact h3⟩
  | rs hl hc hm hs hv ih =>
    intro ψ _
    refine .rs hl hc hm (fun i el o x hi ho => ?_) (fun i el o x c hi ho hcell => ?_)
    · obtain ⟨h1, h2, c, h3⟩ := hs i el o x hi ho
      refine ⟨fun hf => ?_, h2, c, h.cell h3 (by rw [add_block]; exact h1)⟩
      rcases h.fb _ hf with h4 | h4
      · exact h1 h4
      · have := cell_lt h3; rw [add_block] at this; omega
    · obtain ⟨h1, h2, c', h3⟩ := hs i el o x hi ho
      have h4 := h.cell h3 (by rw [add_block]; exact h1)
      rw [h4] at hcell
      obtain rfl : c' = c := Option.some.inj hcell
      exact ih i el o x c' hi ho h3 noPhi (fun _ _ _ h => h)
  | rp hs hv ih =>
    intro ψ _
    refine .rp (fun o x ho => ?_) (fun o x c ho hcell => ?_)
    · obtain ⟨h1, h2, c, h3⟩ := hs o x ho
      refine ⟨fun hf => ?_, h2, c, h.cell h3 (by rw [add_block]; exact h1)⟩
      rcases h.fb _ hf with h4 | h4
      · exact h1 h4
      · have := cell_lt h3; rw [add_block] at this; omega
    · obtain ⟨h1, h2, c', h3⟩ := hs o x ho
      have h4 := h.cell h3 (by rw [add_block]; exact h1)
      rw [h4] at hcell
      obtain rfl : c' = c := Option.some.inj hcell
      exact ih o x c' ho h3 noPhi (fun _ _ _ h => h)
  | fn hl hv ih => intro ψ hψ; exact .fn hl fun i x c hx hc => ih i x c hx hc ψ hψ
  | agg hl hc hv ih => intro ψ hψ; exact .agg hl hc fun i x c hx hc => ih i x c hx hc ψ hψ
  | tup hl hv ih => intro ψ hψ; exact .tup hl fun i x c hx hc => ih i x c hx hc ψ hψ

/-- The other way: fewer blocks are forbidden, the world the same. -/
theorem VR.less {f f' : Nat → Prop} {w : World} (h : ∀ cb, f' cb → f cb) {φ ψ : Phi} {v : V} {c : Value} (hv : VR f w φ v c) (hψ : ∀ b v l, φ b v = some l → ψ b v = some l) : VR f' w ψ v c :=
  VR.ext (f := f) (f' := f') (w := w) (w' := w) ⟨fun cb hc => .inl (h cb hc), fun _ _ _ => rfl, fun _ cells _ _ hc => ⟨cells, hc, rfl⟩, Nat.le_refl _, rfl, rfl, rfl⟩ hv ψ hψ

/-- What is said of a row's version. -/
structure RowOk (forb : Nat → Prop) (φ : Phi) (w : World) (x : Row) (v : Nat) (l : Loc) : Prop where
  sz : l.sz = x.sz
  len : l.len ≤ x.els.length
  cur : v = x.cur → l.len = x.els.length
  els : ∀ el ∈ x.els, el.length = x.sz
  cells : ∃ cells t fr, w.heap[l.cb]? = some (.cells cells t fr) ∧ (∀ o, o < cells.size → ¬ (fr.1 ≤ o ∧ o < fr.2)) ∧
    ∀ i el o y, l.lo ≤ i → i < l.len → x.els[i]? = some el → el[o]? = some y → y.isCell = true ∧ ∃ c, cells[l.coff + (i - l.lo) * l.sz + o]? = some c ∧ VR forb w φ y c

/-- The heap and the world: of the blocks in D what they hold is told. -/
structure Rel (forb : Nat → Prop) (φ : Phi) (D : Nat → Prop) (base : Nat) (h : H) (w : World) : Prop where
  row : ∀ b x v l, D b → h[b]? = some (.row x) → x.rd ≤ v → v ≤ x.cur → φ b v = some l → RowOk forb φ w x v l
  low : ∀ b v l, φ b v = some l → base ≤ l.cb ∧ l.cb < w.heap.size ∧ forb l.cb
  apart : ∀ b v l b' v' l', φ b v = some l → φ b' v' = some l' → l.cb = l'.cb → b = b' ∧ l.coff = l'.coff ∧ l.sz = l'.sz ∧ l.lo = l'.lo
  top : base ≤ w.heap.size
  new : ∀ b x v l, D b → h[b]? = some (.row x) → φ b v = some l → v ≤ x.cur

theorem Rel.part {forb : Nat → Prop} {φ : Phi} {D D' : Nat → Prop} {base : Nat} {h : H} {w : World} (k : Rel forb φ D base h w) (hd : ∀ b, D' b → D b) : Rel forb φ D' base h w :=
  ⟨fun b x v l hb => k.row b x v l (hd b hb), k.low, k.apart, k.top, fun b x v l hb => k.new b x v l (hd b hb)⟩
end Go.Mini
