/- A part of the proof: MiniVB. No condition. -/
import Derived.Test.YtgknkkdemjjeoaaGreatDoorMiniApp2
set_option linter.all false
set_option maxRecDepth 100000
namespace Go.Mini
set_option linter.unusedVariables false
set_option linter.unusedSimpArgs false
variable {P : Program} {G : Nat → Option V} {n : Nat} {h : H} {t : List V}

/-- a value leads into blocks below n alone; immutable rows lead into none -/
inductive VB : Nat → V → Prop
  | bool {N b} : VB N (.bool b)
  | int {N k i} : VB N (.int k i)
  | str {N s} : VB N (.str s)
  | undef {N} : VB N .undef
  | nilp {N} : VB N .nilp
  | nils {N} : VB N .nils
  | nilm {N} : VB N .nilm
  | nilf {N} : VB N .nilf
  | mp {N b} : VB N (.mp b)
  | ptr {N b v i o} (h : b < N) : VB N (.ptr b v i o)
  | os {N b v sz i q c} (h : b < N) : VB N (.os b v sz i q c)
  | rp {N} {cells : List V} (h : ∀ x ∈ cells, VB 0 x) : VB N (.rp cells)
  | rs {N sz} {els : List (List V)} (h : ∀ el ∈ els, ∀ x ∈ el, VB 0 x) : VB N (.rs sz els)
  | fn {N f} {cap : List V} (h : ∀ x ∈ cap, VB N x) : VB N (.fn f cap)
  | agg {N} {cs : List V} (h : ∀ x ∈ cs, VB N x) : VB N (.agg cs)
  | tup {N} {cs : List V} (h : ∀ x ∈ cs, VB N x) : VB N (.tup cs)

theorem VB.mono' {n : Nat} {v : V} (h : VB n v) : ∀ {m : Nat}, n ≤ m → VB m v := by
  induction h with
  | ptr h => intro m hm; exact .ptr (by omega)
  | os h => intro m hm; exact .os (by omega)
  | rp h _ => intro m hm; exact .rp h
  | rs h _ => intro m hm; exact .rs h
  | fn _ ih => intro m hm; exact .fn fun x hx => ih x hx hm
  | agg _ ih => intro m hm; exact .agg fun x hx => ih x hx hm
  | tup _ ih => intro m hm; exact .tup fun x hx => ih x hx hm
  | _ => intro m hm; constructor
theorem VB.mono {m : Nat} (hnm : n ≤ m) {v : V} (h : VB n v) : VB m v := h.mono' hnm
theorem VB.up {v : V} (h : VB 0 v) : VB n v := h.mono' (Nat.zero_le _)

theorem VR.vb {forb : Nat → Prop} {φ : Phi} {w : World} {v : V} {c : Value} (h : VR forb w φ v c) : ∀ {n : Nat}, (∀ b v l, φ b v = some l → b < n) → VB n v := by
  induction h with
  | ptr hφ => intro n hn; exact .ptr (hn _ _ _ hφ)
  | os hφ => intro n hn; exact .os (hn _ _ _ hφ)
  | rs hl hc hm hs hv ih =>
    intro n _
    refine .rs fun el hel x hx => ?_
    obtain ⟨i, hi⟩ := List.getElem?_of_mem hel
    obtain ⟨o, ho⟩ := List.getElem?_of_mem hx
    obtain ⟨_, _, c, h3⟩ := hs i el o x hi ho
    exact ih i el o x c hi ho h3 (fun _ _ _ h => by cases h)
  | rp hs hv ih =>
    intro n _
    refine .rp fun x hx => ?_
    obtain ⟨o, ho⟩ := List.getElem?_of_mem hx
    obtain ⟨_, _, c, h3⟩ := hs o x ho
    exact ih o x c ho h3 (fun _ _ _ h => by cases h)
  | fn hl hv ih =>
    intro n hn
    refine .fn fun x hx => ?_
    obtain ⟨i, hi⟩ := List.getElem?_of_mem hx
    have := (List.getElem?_eq_some_iff.1 hi).1
    exact ih i x _ hi (List.getElem?_eq_getElem (by omega)) hn
  | agg hl hc hv ih =>
    intro n hn
    refine .agg fun x hx => ?_
    obtain ⟨i, hi⟩ := List.getElem?_of_mem hx
    have := (List.getElem?_eq_some_iff.1 hi).1
    exact ih i x _ hi (List.getElem?_eq_getElem (by omega)) hn
  | tup hl hv ih =>
    intro n hn
    refine .tup fun x hx => ?_
    obtain ⟨i, hi⟩ := List.getElem?_of_mem hx
    have := (List.getElem?_eq_some_iff.1 hi).1
    exact ih i x _ hi (List.getElem?_eq_getElem (by omega)) hn
  | _ => intro n _; constructor

def HB (n : Nat) (h : H) : Prop := ∀ (b : Nat) (x : Row), h[b]? = some (.row x) → ∀ el ∈ x.els, ∀ y ∈ el, VB n y
def GB (G : Nat → Option V) : Prop := ∀ k v, G k = some v → VB 0 v

theorem HB.mono {m : Nat} (hnm : n ≤ m) (hh : HB n h) : HB m h := fun b x hb el hel y hy => (hh b x hb el hel y hy).mono hnm
theorem HB.set (hh : HB n h) {b : Nat} {x : Row} (hx : ∀ el ∈ x.els, ∀ y ∈ el, VB n y) : HB n (h.set b (.row x)) := by
  intro b' x' hb'
  rw [List.getElem?_set] at hb'
  split at hb'
  · split at hb'
    · cases hb'; exact hx
    · cases hb'
  · exact hh b' x' hb'
theorem HB.newRow (hh : HB n h) {sz : Nat} {els : List (List V)} (hx : ∀ el ∈ els, ∀ y ∈ el, VB n y) : HB n (newRow h sz els) := by
  intro b x hb
  unfold Mini.newRow at hb
  rw [List.getElem?_append] at hb
  split at hb
  · exact hh b x hb
  · rcases hq : b - h.length with _ | k
    · rw [hq] at hb; simp at hb; subst hb; exact hx
    · rw [hq] at hb; simp at hb

theorem VB.cells {v : V} (h : VB n v) : ∀ y ∈ v.cells, VB n y := by
  cases h with
  | agg h => exact h
  | _ => simp only [V.cells, List.mem_singleton, forall_eq]; constructor <;> assumption

def Opd.okC : Opd → Prop
  | .c v => VB 0 v
  | _ => True
def AllC (l : List Opd) : Prop := ∀ x ∈ l, x.okC
def AllP (l : List (Nat × Nat × Opd)) : Prop := ∀ x ∈ l, x.2.2.okC
def All0 (l : List V) : Prop := ∀ x ∈ l, VB 0 x
def MOp.okC : MOp → Prop
  | .mv x | .box _ x | .nilc x | .faddr _ x | .field _ _ x | .extract x _ | .load _ x => x.okC
  | .iaddr _ a _ | .iaddrA _ _ a _ | .idxA _ _ _ a _ => a.okC
  | .cut _ x _ _ _ => x.okC
  | .pick c a b => a.okC ∧ b.okC
  | .alloc cells => All0 cells
  | .build z ps | .bslice _ _ z ps => All0 z ∧ AllP ps
  | .store _ a x | .append _ _ a x => a.okC ∧ x.okC
  | .mkslice _ _ z _ _ => All0 z
  | .mkfn _ cs => AllC cs
  | .call f as => f.okC ∧ AllC as
  | _ => True

theorem ofVal1_vb {x : Value} {v : V} (h : ofVal1 x = some v) : VB n v := by
  unfold ofVal1 at h
  split at h
  case h_4 => split at h <;> cases h; exact .undef
  all_goals cases h
  all_goals constructor
theorem ofVals_vb : ∀ {xs : List Value} {vs : List V}, ofVals xs = some vs → ∀ v ∈ vs, VB n v
  | [], vs, h => by cases h; simp
  | x :: xs, vs, h => by
    unfold ofVals at h
    split at h
    · rename_i y ys h1 h2
      split at h
      · cases h
        intro v hv
        rcases List.mem_cons.1 hv with rfl | hv
        · exact ofVal1_vb h1
        · exact ofVals_vb h2 v hv
      · cases h
    · cases h
theorem ofVal_vb {x : Value} {v : V} (h : ofVal x = some v) : VB n v := by
  unfold ofVal at h
  split at h
  · rename_i cs
    rcases hc : ofVals cs.toList with _ | vs
    · simp [hc] at h
    · simp [hc] at h; subst h; exact .agg (ofVals_vb hc)
  · exact ofVal1_vb h
theorem zeroT_vb {ty : TypeId} {z : V} (h : zeroT P ty = some z) : All0 z.cells := by
  unfold zeroT at h
  split at h
  · split at h
    · exact (ofVal_vb h).cells
    · cases h
  · cases h
theorem opd_okC {x : Operand} {d : Opd} (h : opd x = some d) : d.okC := by
  unfold opd at h
  split at h
  · cases h; trivial
  · rename_i v
    rcases hq : ofVal v with _ | u
    · simp [hq] at h
    · simp [hq] at h; subst h; exact ofVal_vb (n := 0) hq
  · cases h; trivial
  · cases h; exact VB.fn (N := 0) (by simp)
theorem opds_okC {xs : List Operand} {ds : List Opd} (h : mapM? opd xs = some ds) : AllC ds := by
  intro d hd
  obtain ⟨i, hi⟩ := List.getElem?_of_mem hd
  obtain ⟨x, _, h2⟩ := mapM?_get h i d hi
  exact opd_okC h2
theorem opd_mem_okC {xs : List Operand} {ds : List Opd} (h : mapM? opd xs = some ds) {d : Opd} (hd : d ∈ ds) : d.okC := opds_okC h d hd

theorem mapParts {α : Type} {f : α → Option (Nat × Nat × Opd)} {xs : List α} {ps : List (Nat × Nat × Opd)} (h : mapM? f xs = some ps) (hf : ∀ x y, f x = some y → y.2.2.okC) : AllP ps := by
  intro p hp
  obtain ⟨i, hi⟩ := List.getElem?_of_mem hp
  obtain ⟨x, _, h2⟩ := mapM?_get h i p hi
  exact hf _ _ h2

theorem map_inv {α β : Type} {f : α → β} {x : Option α} {y : β} (h : x.map f = some y) : ∃ z, x = some z ∧ f z = y := by
  cases x <;> simp at h; exact ⟨_, rfl, h⟩

theorem compOp_okC {o : Oper} {m : MOp} (hm : compOp P o = some m) : m.okC := by
  cases ho : o.op <;> simp only [compOp, ho] at hm <;> try (cases hm; done)
  all_goals try (rcases hq : opd ‹_› with _ | d <;> simp only [hq, Option.map_none, Option.map_some] at hm <;> (first | (cases hm; done) | skip) <;> cases hm <;> first | exact opd_okC hq | trivial)
  case build ty parts =>
    split at hm
    · rename_i z fs hz hu
      split at hm
      · rename_i ps ss hp hs
        split at hm
        · cases hm
          refine ⟨zeroT_vb hz, mapParts hp fun x y hxy => ?_⟩
          split at hxy
          · rename_i h1 h2
            obtain ⟨s, _, rfl⟩ := map_inv hxy
            skip; exact opd_okC h2
          · cases hxy
        · cases hm
      · cases hm
    · cases hm
  case buildSlice ty len parts =>
    split at hm
    · split at hm
      · rename_i s z hs hz
        split at hm
        · cases hm
        · split at hm
          · rename_i ps hp; cases hm
            refine ⟨zeroT_vb hz, mapParts hp fun x y hxy => ?_⟩
            rcases hq : opd x.2 with _ | d <;> simp [hq] at hxy
            subst hxy; exact opd_okC hq
          · cases hm
      · cases hm
    · cases hm
  case field ty x f =>
    repeat' split at hm
    all_goals first
      | (cases hm; done)
      | skip
    obtain ⟨s, _, rfl⟩ := map_inv hm
    exact opd_okC ‹_›
  case indexAddr ty x ix =>
    split at hm
    · rename_i h2 h3
      obtain ⟨s, _, rfl⟩ := map_inv hm
      skip; exact opd_okC h2
    · rename_i h2 h3
      obtain ⟨s, _, rfl⟩ := map_inv hm
      skip; exact opd_okC h2
    · cases hm
  case call c =>
    split at hm
    · repeat' split at hm
      all_goals first
        | (cases hm; done)
        | (cases hm; trivial)
    · split at hm
      · rename_i h2
        repeat' split at hm
        all_goals first
          | (cases hm; done)
          | (cases hm; exact ⟨opd_mem_okC h2 (by simp), opd_mem_okC h2 (by simp)⟩)
      · cases hm
    · obtain ⟨s, _, rfl⟩ := map_inv hm
      skip; trivial
    · obtain ⟨s, _, rfl⟩ := map_inv hm
      skip; trivial
    · split at hm
      · split at hm
        · cases hm; trivial
        · cases hm
      · split at hm
        · rename_i h1 h2; cases hm; exact ⟨opd_okC h1, opds_okC h2⟩
        · cases hm
    · cases hm
  case alloc ty =>
    split at hm
    · rename_i hz
      split at hm
      · cases hm; exact zeroT_vb hz
      · cases hm
    · cases hm
  case makeSlice ty l c =>
    split at hm
    · split at hm
      · rename_i h2 _ _
        split at hm
        · cases hm
        · cases hm; exact zeroT_vb h2
      · cases hm
    · cases hm
  case makeFunc fn first cap =>
    cases fn <;> simp only [] at hm <;> try (cases hm; done)
    split at hm
    · rename_i h1 h2; cases hm; exact opds_okC h2
    · cases hm
  case pick c x y =>
    split at hm
    · rename_i h1 h2 h3; cases hm; exact ⟨opd_okC h2, opd_okC h3⟩
    · cases hm
  case store ty x y =>
    split at hm
    · rename_i h1 h2 h3
      split at hm
      · cases hm
      · cases hm; exact ⟨opd_okC h2, opd_okC h3⟩
    · cases hm
  case box ty x =>
    split at hm
    · rename_i h1 h2; cases hm; exact opd_okC h1
    · cases hm
  case load ty x =>
    split at hm
    · rename_i h1 h2; cases hm; exact opd_okC h2
    · cases hm
  case fieldAddr ty x f =>
    split at hm
    · rename_i h1 h2
      repeat' split at hm
      all_goals first
        | (cases hm; done)
        | (cases hm; exact opd_okC h2)
    · cases hm
  case slice ty x lo hi mx =>
    split at hm
    · cases hm; trivial
    · rename_i h1 h2 h3 h4 h5
      repeat' split at hm
      all_goals first
        | (cases hm; done)
        | (cases hm; exact opd_okC h2)
    · cases hm
  case index ty x ix =>
    split at hm
    · cases hm; trivial
    · cases hm
  case binOp op ty x y ty' =>
    split at hm
    · cases hm; trivial
    · cases hm
  case convert src dst x =>
    repeat' split at hm
    all_goals first
      | (cases hm; done)
      | (cases hm; trivial)

theorem compX_okC {o : Oper} {m : MOp} (hm : compX P o = m) : m.okC := by
  rcases compX_cases P o with h1 | h1 | h1
  · rw [hm] at h1
    unfold compNil at h1
    split at h1
    · split at h1
      · rename_i hx
        cases h1
        trivial
      · cases h1
    · split at h1
      · rename_i hz hu
        split at h1
        · split at h1
          · rename_i ps hp
            split at h1
            · cases h1
              refine ⟨zeroT_vb hz, mapParts hp fun x y hxy => ?_⟩
              rcases hq : opd x.2 with _ | d <;> simp [hq] at hxy
              subst hxy; exact opd_okC hq
            · cases h1
          · cases h1
        · cases h1
      · cases h1
    · split at h1
      · rename_i h2 h3
        split at h1
        · cases h1; exact opd_okC h2
        · cases h1
      · cases h1
    · split at h1
      · split at h1
        · split at h1
          · cases h1; trivial
          · cases h1
        · cases h1
      · cases h1
    · cases h1
  · rw [hm] at h1; exact compOp_okC h1
  · rw [hm] at h1; subst h1
    exact ⟨VB.undef, fun d hd => by cases hd⟩
theorem ev_vb (hG : GB G) (ht : ∀ v ∈ t, VB n v) {x : Opd} (hx : x.okC) {v : V} (h : ev G t x = some v) : VB n v := by
  cases x with
  | t i => exact ht v (List.mem_of_getElem? h)
  | c u => cases h; exact hx.mono (Nat.zero_le _)
  | g k => exact (hG k v h).mono (Nat.zero_le _)
theorem evs_vb (hG : GB G) (ht : ∀ v ∈ t, VB n v) : ∀ {xs : List Opd} {vs : List V}, AllC xs → evs G t xs = some vs → ∀ v ∈ vs, VB n v
  | [], vs, _, h => by cases h; simp
  | x :: xs, vs, hx, h => by
    unfold evs at h
    split at h
    · rename_i h1 h2; cases h
      intro v hv
      rcases List.mem_cons.1 hv with rfl | hv
      · exact ev_vb hG ht (hx x (by simp)) h1
      · exact evs_vb hG ht (fun y hy => hx y (by simp [hy])) h2 v hv
    · cases h
theorem evP_vb (hG : GB G) (ht : ∀ v ∈ t, VB n v) : ∀ {xs : List (Nat × Nat × Opd)} {vs : List (Nat × Nat × V)}, AllP xs → evP G t xs = some vs → ∀ v ∈ vs, VB n v.2.2
  | [], vs, _, h => by cases h; simp
  | (a, b, x) :: xs, vs, hx, h => by
    unfold evP at h
    split at h
    · rename_i h1 h2; cases h
      intro v hv
      rcases List.mem_cons.1 hv with rfl | hv
      · exact ev_vb hG ht (hx (a, b, x) (by simp)) h1
      · exact evP_vb hG ht (fun y hy => hx y (by simp [hy])) h2 v hv
    · cases h

theorem setFrom_vb {l cs : List V} {o : Nat} (hl : ∀ v ∈ l, VB n v) (hc : ∀ v ∈ cs, VB n v) : ∀ v ∈ setFrom l o cs, VB n v := by
  intro v hv
  simp only [setFrom, List.mem_append] at hv
  rcases hv with (h1 | h1) | h1
  · exact hl v (List.mem_of_mem_take h1)
  · exact hc v h1
  · exact hl v (List.mem_of_mem_drop h1)
theorem fillV_vb : ∀ {ps : List (Nat × Nat × V)} {cells cs : List V}, (∀ v ∈ cells, VB n v) → (∀ p ∈ ps, VB n p.2.2) → fillV cells ps = some cs → ∀ v ∈ cs, VB n v
  | [], cells, cs, hc, _, h => by cases h; exact hc
  | (off, size, v) :: rest, cells, cs, hc, hp, h => by
    unfold fillV at h
    split at h
    · cases h
    · exact fillV_vb (setFrom_vb hc (hp (off, size, v) (by simp)).cells) (fun p h1 => hp p (by simp [h1])) h
theorem chunks_vb {sz : Nat} : ∀ {k : Nat} {l : List V}, (∀ v ∈ l, VB n v) → ∀ el ∈ chunks sz k l, ∀ v ∈ el, VB n v
  | 0, l, _ => by simp [chunks]
  | k + 1, l, hl => by
    intro el hel v hv
    simp only [chunks, List.mem_cons] at hel
    rcases hel with rfl | hel
    · exact hl v (List.mem_of_mem_take hv)
    · exact chunks_vb (fun v hv => hl v (List.mem_of_mem_drop hv)) el hel v hv
theorem rowAt_vb (hh : HB n h) {b v : Nat} {x : Row} (hx : rowAt h b v = some x) : ∀ el ∈ x.els, ∀ y ∈ el, VB n y := by
  unfold rowAt at hx
  split at hx
  · rename_i y hy
    split at hx
    · cases hx; exact hh b _ hy
    · cases hx
  · cases hx
theorem deref_vb (hh : HB n h) {a : V} (ha : VB n a) {cells : List V} {r : List Nat} (hd : deref h a = some (cells, r)) : ∀ y ∈ cells, VB n y := by
  unfold deref at hd
  split at hd
  · cases hd; cases ha; rename_i h1; exact fun y hy => (h1 y hy).up
  · split at hd
    · rename_i x hx
      split at hd
      · rename_i el he; cases hd
        exact fun y hy => rowAt_vb hh hx el (List.mem_of_getElem? he) y (List.mem_of_mem_drop hy)
      · cases hd
    · cases hd
  · cases hd
theorem loadC_vb {cells : List V} (hc : ∀ y ∈ cells, VB n y) {agg : Option Nat} {v : V} (hl : loadC agg cells = some v) : VB n v := by
  unfold loadC at hl
  split at hl
  · split at hl
    · cases hl; exact .agg fun x hx => hc x (List.mem_of_mem_take hx)
    · cases hl
  · exact hc v (List.mem_of_mem_head? hl)
theorem elems_vb (hh : HB n h) {a : V} (ha : VB n a) {sz : Nat} {els : List (List V)} {r : List Nat} (hd : elems h a = some (sz, els, r)) : ∀ el ∈ els, ∀ y ∈ el, VB n y := by
  unfold elems at hd
  split at hd
  · cases hd; cases ha; rename_i h1; exact fun el hel y hy => (h1 el hel y hy).up
  · split at hd
    · rename_i x hx
      split at hd
      · cases hd
        exact fun el hel => rowAt_vb hh hx el (List.mem_of_mem_drop (List.mem_of_mem_take hel))
      · cases hd
    · cases hd
  · cases hd
theorem sources_vb (hh : HB n h) {a : V} (ha : VB n a) {sz : Nat} {els : List (List V)} {r : List Nat} (hd : sources sz h a = some (els, r)) : ∀ el ∈ els, ∀ y ∈ el, VB n y := by
  unfold sources at hd
  split at hd
  · cases hd; simp
  · split at hd
    · cases hd
      intro el hel y hy
      simp only [List.mem_map] at hel
      obtain ⟨c, _, rfl⟩ := hel
      simp at hy; subst hy; exact .int
    · cases hd
  · split at hd
    · rename_i h1
      split at hd
      · cases hd; exact elems_vb hh ha h1
      · cases hd
    · cases hd

theorem storeV_vb (hh : HB n h) {a x : V} (hx : VB n x) {k : Nat} {r : Res} (hr : storeV k h a x = some r) : VB n r.v ∧ HB n r.h := by
  unfold storeV at hr
  split at hr
  · split at hr
    · rename_i y hy
      split at hr
      · split at hr
        · rename_i el he
          split at hr
          · cases hr
            refine ⟨.undef, hh.set fun el' hel' z hz => ?_⟩
            rcases List.mem_or_eq_of_mem_set hel' with h1 | rfl
            · exact rowAt_vb hh hy el' h1 z hz
            · exact setFrom_vb (rowAt_vb hh hy el (List.mem_of_getElem? he)) hx.cells z hz
          · cases hr
        · cases hr
      · cases hr
    · cases hr
  · cases hr

theorem binV_vb {op : BinOp} {cmp : Cmp} {x y v : V} (h : binV op cmp x y = some v) : VB n v := by
  have he : ∀ {op b v}, eqOp op b = some v → VB n v := by
    intro op b v h; unfold eqOp at h; split at h <;> cases h <;> exact .bool
  unfold binV at h
  split at h
  · unfold intV at h
    simp only [forceI_eq, cond_eq_ite] at h
    repeat' split at h
    all_goals first
      | (cases h; done)
      | (cases h; exact .int)
      | (cases h; exact .bool)
  · unfold strV at h
    repeat' split at h
    all_goals first
      | (cases h; done)
      | (cases h; exact .str)
      | (cases h; exact .bool)
  · unfold boolV at h
    split at h
    · exact he h
    · cases h
  · unfold aggV at h
    repeat' split at h
    all_goals first
      | (cases h; done)
      | exact he h
  · unfold nilV at h
    repeat' split at h
    all_goals first
      | (cases h; done)
      | exact he h
theorem unV_vb {op : UnOp} {x v : V} (h : unV op x = some v) : VB n v := by
  unfold unV at h
  simp only [forceI_eq] at h
  repeat' split at h
  all_goals first
    | (cases h; done)
    | (cases h; exact .int)
    | (cases h; exact .bool)
theorem cutV_vb {sz : Nat} {x : V} (hx : VB n x) {lo hi mx : Option Opd} {v : V} (h : cutV G t sz x lo hi mx = some v) : VB n v := by
  unfold cutV at h
  split at h
  · repeat' split at h
    all_goals first
      | (cases h; done)
      | (cases h; exact .nils)
  · cases hx
    rename_i hx
    repeat' split at h
    all_goals first
      | (cases h; done)
      | (cases h; exact .rs fun el hel => hx el (List.mem_of_mem_take (List.mem_of_mem_drop hel)))
  · cases hx
    rename_i hx
    repeat' split at h
    all_goals first
      | (cases h; done)
      | (cases h; exact .os hx)
  · cases h
theorem one_vb {v : Option V} (hv : ∀ u, v = some u → VB n u) (hh : HB n h) {x : Res} (hx : one v h = some x) : VB n x.v ∧ HB n x.h := by
  unfold one at hx
  split at hx
  · cases hx; exact ⟨hv _ rfl, hh⟩
  · cases hx
theorem newRow_len {h : H} {sz : Nat} {els : List (List V)} : (newRow h sz els).length = h.length + 1 := by simp [newRow]
theorem fresh_vb (hh : HB h.length h) {sz : Nat} {els : List (List V)} (hx : ∀ el ∈ els, ∀ y ∈ el, VB h.length y) : HB (newRow h sz els).length (newRow h sz els) :=
  (hh.newRow hx).mono (by simp [newRow])
theorem low_vb {l : List V} (h : All0 l) : ∀ v ∈ l, VB n v := fun v hv => (h v hv).mono (Nat.zero_le _)

/-- calls lead below the heap's length -/
def VbOk (C : FuncId → List V → H → Option Res) : Prop := ∀ f args h x, C f args h = some x → (∀ v ∈ args, VB h.length v) → HB h.length h → VB x.h.length x.v ∧ HB x.h.length x.h

theorem appendV_vb (hh : HB h.length h) {s x : V} (hs : VB h.length s) (hx : VB h.length x) {sz bytes : Nat} {r : Res} (hr : appendV sz bytes h s x = some r) : VB r.h.length r.v ∧ HB r.h.length r.h := by
  unfold appendV at hr
  split at hr
  · rename_i xs rd hsrc
    have hxs := sources_vb hh hx hsrc
    split at hr
    · split at hr
      · cases hr; exact ⟨.nils, hh⟩
      · split at hr
        · cases hr; exact ⟨.os (by simp [newRow]), fresh_vb hh hxs⟩
        · cases hr
    · split at hr
      · cases hr; exact ⟨hs, hh⟩
      · cases hr
    · split at hr
      · cases hr; exact ⟨hs, hh⟩
      · cases hs
        rename_i hb
        split at hr
        · rename_i y hy
          have hy' := rowAt_vb hh hy
          repeat' split at hr
          all_goals first
            | (cases hr; done)
            | (cases hr; refine ⟨.os (by simp [newRow]), fresh_vb hh fun el hel => ?_⟩
               rcases List.mem_append.1 hel with h1 | h1
               · exact hy' el (List.mem_of_mem_drop (List.mem_of_mem_take h1))
               · exact hxs el h1)
            | (cases hr; refine ⟨.os (by simpa using hb), ?_⟩
               simp only [List.length_set]
               refine hh.set fun el hel => ?_
               rcases List.mem_append.1 hel with h1 | h1
               · exact hy' el (List.mem_of_mem_take h1)
               · exact hxs el h1)
        · cases hr
    · cases hr
  · cases hr

theorem opV_vb {C : FuncId → List V → H → Option Res} (hC : VbOk C) (hG : GB G) {m : MOp} (hm : m.okC) (ht : ∀ v ∈ t, VB h.length v) (hh : HB h.length h) {x : Res} (hx : opV G C t m h = some x) : VB x.h.length x.v ∧ HB x.h.length x.h := by
  have ev1 : ∀ {x : Opd} {v}, x.okC → ev G t x = some v → VB h.length v := fun hx h1 => ev_vb hG ht hx h1
  have same : ∀ {v : Option V}, (∀ u, v = some u → VB h.length u) → ∀ {x : Res}, one v h = some x → VB x.h.length x.v ∧ HB x.h.length x.h := by
    intro v hv x hx
    have := one_vb hv hh hx
    unfold one at hx; split at hx
    · cases hx; exact this
    · cases hx
  cases m <;> simp only [opV] at hx
  case mv x0 => exact same (fun u hu => ev1 hm hu) hx
  case pick c a b =>
    unfold op_pick at hx
    split at hx
    · exact same (fun u hu => ev1 hm.1 hu) hx
    · exact same (fun u hu => ev1 hm.2 hu) hx
    · cases hx
  case alloc cells => unfold op_alloc at hx; cases hx; exact ⟨.ptr (by simp [newRow]), fresh_vb hh (by simpa using low_vb hm)⟩
  case box k x0 =>
    unfold op_box at hx
    split at hx
    · rename_i u hu
      split at hx
      · cases hx; exact ⟨.ptr (by simp [newRow]), fresh_vb hh (by simpa using (ev1 hm hu).cells)⟩
      · cases hx
    · cases hx
  case build z ps =>
    unfold op_build at hx
    split at hx
    · rename_i qs hq
      split at hx
      · rename_i cs hc; cases hx; exact ⟨.agg (fillV_vb (low_vb hm.1) (evP_vb hG ht hm.2 hq) hc), hh⟩
      · cases hx
    · cases hx
  case bslice sz len z ps =>
    unfold op_bslice at hx
    split at hx
    · rename_i qs hq
      split at hx
      · rename_i cs hc; cases hx
        refine ⟨.os (by simp [newRow]), fresh_vb hh (chunks_vb (fillV_vb (fun v hv => ?_) (evP_vb hG ht hm.2 hq) hc))⟩
        simp only [List.mem_flatten, List.mem_replicate] at hv
        obtain ⟨l, ⟨_, rfl⟩, hv⟩ := hv
        exact low_vb hm.1 v hv
      · cases hx
    · cases hx
  case load agg a =>
    unfold op_load at hx
    split at hx
    · rename_i u hu
      split at hx
      · rename_i cells r hd
        split at hx
        · rename_i v hv; cases hx; exact ⟨loadC_vb (deref_vb hh (ev1 hm hu) hd) hv, hh⟩
        · cases hx
      · cases hx
    · cases hx
  case store k a x0 =>
    unfold op_store at hx
    split at hx
    · rename_i u v hu hv
      have hl : x.h.length = h.length := by
        unfold storeV at hx
        repeat' split at hx
        all_goals first
          | (cases hx; done)
          | (cases hx; simp)
      rw [hl]; exact storeV_vb hh (ev1 hm.2 hv) hx
    · cases hx
  case nilc x0 =>
    unfold op_nilc at hx
    split at hx
    · rename_i hu; cases hx; exact ⟨ev1 hm hu, hh⟩
    · rename_i hu; cases hx; exact ⟨ev1 hm hu, hh⟩
    · rename_i hu; cases hx; exact ⟨ev1 hm hu, hh⟩
    · cases hx
  case bin op cmp x0 y0 =>
    unfold op_bin at hx
    split at hx
    · exact same (fun u hu => binV_vb hu) hx
    · cases hx
  case un op x0 =>
    unfold op_un at hx
    split at hx
    · exact same (fun u hu => unV_vb hu) hx
    · cases hx
  case convI k x0 =>
    unfold op_convI at hx
    split at hx
    · simp only [forceI_eq] at hx; cases hx; exact ⟨.int, hh⟩
    · cases hx
  case s2b x0 =>
    unfold op_s2b at hx
    split at hx
    · split at hx
      · cases hx
        refine ⟨.os (by simp [newRow]), fresh_vb hh fun el hel y hy => ?_⟩
        simp only [List.mem_map] at hel
        obtain ⟨c, _, rfl⟩ := hel
        simp at hy; subst hy; exact .int
      · cases hx
    · cases hx
  case b2s x0 =>
    unfold op_b2s at hx
    repeat' split at hx
    all_goals first
      | (cases hx; done)
      | (cases hx; exact ⟨.str, hh⟩)
  case mkfn f cs =>
    unfold op_mkfn at hx
    split at hx
    · rename_i hc; cases hx; exact ⟨.fn (evs_vb hG ht hm hc), hh⟩
    · cases hx
  case mkslice sz bytes z l c =>
    unfold op_mkslice at hx
    split at hx
    · split at hx
      · cases hx
      · cases hx
        refine ⟨.os (by simp [newRow]), fresh_vb hh fun el hel y hy => ?_⟩
        obtain ⟨_, rfl⟩ := List.mem_replicate.1 hel
        exact low_vb hm y hy
    · cases hx
  case cut sz x0 lo hi mx =>
    unfold op_cut at hx
    split at hx
    · rename_i hu; exact same (fun u h1 => cutV_vb (ev1 hm hu) h1) hx
    · cases hx
  case cutS x0 lo hi =>
    unfold op_cutS at hx
    repeat' split at hx
    all_goals first
      | (cases hx; done)
      | (cases hx; exact ⟨.str, hh⟩)
  case faddr off x0 =>
    unfold op_faddr at hx
    split at hx
    · rename_i hu; cases hx
      have := ev1 hm hu
      cases this; exact ⟨.ptr ‹_›, hh⟩
    · rename_i hu; cases hx
      have := ev1 hm hu
      cases this; rename_i h1; exact ⟨.rp fun x hx => h1 x (List.mem_of_mem_drop hx), hh⟩
    · cases hx
  case field agg off x0 =>
    unfold op_field at hx
    split at hx
    · rename_i hu
      have := ev1 hm hu
      cases this; rename_i h1
      exact same (fun u h2 => loadC_vb (fun y hy => h1 y (List.mem_of_mem_drop hy)) h2) hx
    · cases hx
  case iaddr s x0 ix =>
    unfold op_iaddr at hx
    split at hx
    · rename_i hu _
      have := ev1 hm hu
      cases this; rename_i h1
      repeat' split at hx
      all_goals first
        | (cases hx; done)
        | (rename_i el he; cases hx; exact ⟨.rp (h1 el (List.mem_of_getElem? he)), hh⟩)
    · rename_i hu _
      have := ev1 hm hu
      cases this
      split at hx
      · cases hx; exact ⟨.ptr ‹_›, hh⟩
      · cases hx
    · cases hx
  case iaddrA len s x0 ix =>
    unfold op_iaddrA at hx
    split at hx
    · rename_i hu _
      have := ev1 hm hu
      cases this; rename_i h1
      split at hx
      · cases hx; exact ⟨.rp fun x hx => h1 x (List.mem_of_mem_drop hx), hh⟩
      · cases hx
    · rename_i hu _
      have := ev1 hm hu
      cases this
      split at hx
      · cases hx; exact ⟨.ptr ‹_›, hh⟩
      · cases hx
    · cases hx
  case idxA l agg s x0 ix =>
    unfold op_idxA at hx
    split at hx
    · rename_i hu _
      have := ev1 hm hu
      cases this; rename_i h1
      split at hx
      · exact same (fun u h2 => loadC_vb (fun y hy => h1 y (List.mem_of_mem_drop hy)) h2) hx
      · cases hx
    · cases hx
  case cntB x0 ix =>
    unfold op_cntB at hx
    repeat' split at hx
    all_goals first
      | (cases hx; done)
      | (cases hx; exact ⟨.int, hh⟩)
  case idxB x0 ix =>
    unfold op_idxB at hx
    repeat' split at hx
    all_goals first
      | (cases hx; done)
      | (cases hx; exact ⟨.int, hh⟩)
  case index x0 ix =>
    unfold op_index at hx
    repeat' split at hx
    all_goals first
      | (cases hx; done)
      | (cases hx; exact ⟨.int, hh⟩)
  case extract x0 i =>
    unfold op_extract at hx
    split at hx
    · rename_i hu
      have := ev1 hm hu
      cases this; rename_i h1
      exact same (fun u h2 => h1 u (List.mem_of_getElem? h2)) hx
    · cases hx
  case len x0 =>
    unfold op_len at hx
    repeat' split at hx
    all_goals first
      | (cases hx; done)
      | (cases hx; exact ⟨.int, hh⟩)
  case lenS x0 =>
    unfold op_lenS at hx
    repeat' split at hx
    all_goals first
      | (cases hx; done)
      | (cases hx; exact ⟨.int, hh⟩)
  case append sz bytes s x0 =>
    unfold op_append at hx
    split at hx
    · rename_i hu hv; exact appendV_vb hh (ev1 hm.1 hu) (ev1 hm.2 hv) hx
    · cases hx
  case minmax mx xs =>
    unfold op_minmax at hx
    repeat' split at hx
    all_goals first
      | (cases hx; done)
      | (cases hx; exact ⟨.int, hh⟩)
  case call f as =>
    unfold op_call at hx
    split at hx
    · rename_i hf has
      have h1 := ev1 hm.1 hf
      cases h1; rename_i h1
      refine hC _ _ _ _ hx (fun v hv => ?_) hh
      rcases List.mem_append.1 hv with h2 | h2
      · exact evs_vb hG ht hm.2 has v h2
      · exact h1 v h2
    · cases hx
end Go.Mini
