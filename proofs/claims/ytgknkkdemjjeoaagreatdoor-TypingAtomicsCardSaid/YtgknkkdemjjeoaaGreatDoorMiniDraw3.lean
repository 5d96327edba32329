/- A part of the proof: MiniDraw3. No condition. -/
import Derived.Test.YtgknkkdemjjeoaaGreatDoorMiniDraw2
set_option linter.all false
set_option maxRecDepth 100000
namespace Go.Mini
set_option linter.unusedVariables false
set_option linter.unusedSimpArgs false
variable {P : Program} {G : Nat → Option V} {D : Nat → Prop} {base : Nat} {C : FuncId → List V → H → Option Res} {n0 : Nat} {all : Array Oper} {ms : List MOper} {ks : List Nat} {S : Nat → St} {X : Nat → Option Res}

/-- operation j writes block b (or makes it) -/
def Wr (S : Nat → St) (X : Nat → Option Res) (j b : Nat) : Prop := ∃ y, X j = some y ∧ b ∈ allW (S j).h y
/-- operation j writes slot d -/
def Ws (ms : List MOper) (j d : Nat) : Prop := ∃ m, ms[j]? = some m ∧ m.dst = some d

theorem allW_mem {h : H} {x : Res} {b : Nat} : b ∈ allW h x ↔ b ∈ x.w ∨ (h.length ≤ b ∧ b < x.h.length) := by
  unfold allW
  rw [List.mem_append, List.mem_range']
  constructor
  · rintro (h1 | ⟨i, h1, h2⟩)
    · exact .inl h1
    · exact .inr ⟨by omega, by omega⟩
  · rintro (h1 | ⟨h1, h2⟩)
    · exact .inl h1
    · exact .inr ⟨b - h.length, by omega, by omega⟩

theorem putV_get {t : List V} {d : Option Nat} {v : V} {e : Nat} (h : d ≠ some e) : (putV t d v)[e]? = t[e]? := by
  cases d with
  | none => rfl
  | some d => simp only [putV]; rw [List.getElem?_set_ne]; intro h1; exact h (by rw [h1])
theorem putV_len {t : List V} {d : Option Nat} {v : V} : (putV t d v).length = t.length := by cases d <;> simp [putV]

/-- what one step does -/
theorem Reg.one (hr : Reg P G C n0 all ms ks S X) (hL : LenOk C) {i : Nat} (hi : i < ms.length) : ∃ m, ms[i]? = some m ∧ (S i).h.length ≤ (S (i + 1)).h.length ∧ (∀ b ∈ (S i).w, b ∈ (S (i + 1)).w) ∧ (∀ b ∈ (S i).r, b ∈ (S (i + 1)).r) ∧ (S (i + 1)).t.length = (S i).t.length ∧
    (∀ d, m.dst ≠ some d → (S (i + 1)).t[d]? = (S i).t[d]?) ∧ (∀ b, ¬ Wr S X i b → (S (i + 1)).h[b]? = (S i).h[b]?) ∧ (∀ y, X i = some y → (S (i + 1)).h = y.h ∧ ∀ b, (b ∈ y.r → b < n0 → b ∈ (S (i + 1)).r) ∧ (b ∈ y.w → b < n0 → b ∈ (S (i + 1)).w)) ∧ (X i = none → (S (i + 1)).h = (S i).h) := by
  have hm : ms[i]? = some ms[i] := by simp [hi]
  have hk : ks[i]? = some (ks[i]'(by rw [hr.klen, ← hr.len]; exact hi)) := by simp [hr.klen, ← hr.len, hi]
  refine ⟨ms[i], hm, ?_⟩
  rcases (hr.step i _ _ hm hk).1 with ⟨h1, y, h2, h3, h4⟩ | ⟨h1, h2, h3⟩
  · have hop := opV_len hL h3
    rw [h4]
    refine ⟨hop.1, fun b hb => uni_mem.2 (.inr hb), fun b hb => uni_mem.2 (.inr hb), putV_len, fun d hd => putV_get hd, fun b hb => ?_, fun y' hy' => ?_, fun hn => by rw [h2] at hn; cases hn⟩
    · have hb' : ¬ (b ∈ y.w ∨ ((S i).h.length ≤ b ∧ b < y.h.length)) := fun h5 => hb ⟨y, h2, allW_mem.2 h5⟩
      simp only [regPut]
      by_cases e : b < (S i).h.length
      · exact hop.2.2 b e fun h5 => hb' (.inl h5)
      · have e2 : ¬ b < y.h.length := fun h5 => hb' (.inr ⟨by omega, h5⟩)
        rw [List.getElem?_eq_none (by omega), List.getElem?_eq_none (by omega)]
    · rw [h2] at hy'; cases hy'
      exact ⟨rfl, fun b => ⟨fun hb hn => uni_mem.2 (.inl ⟨hb, hn⟩), fun hb hn => uni_mem.2 (.inl ⟨hb, hn⟩)⟩⟩
  · rw [h3]
    exact ⟨Nat.le_refl _, fun _ h => h, fun _ h => h, putV_len, fun d hd => putV_get hd, fun _ _ => rfl, (fun y hy => by rw [h2] at hy; cases hy), fun _ => rfl⟩

theorem Reg.mono (hr : Reg P G C n0 all ms ks S X) (hL : LenOk C) {i k : Nat} (hik : i ≤ k) (hk : k ≤ ms.length) : (S i).h.length ≤ (S k).h.length ∧ (∀ b ∈ (S i).w, b ∈ (S k).w) ∧ (∀ b ∈ (S i).r, b ∈ (S k).r) ∧ (S k).t.length = (S i).t.length := by
  induction k with
  | zero => obtain rfl : i = 0 := by omega
            exact ⟨Nat.le_refl _, fun _ h => h, fun _ h => h, rfl⟩
  | succ k ih =>
    by_cases e : i = k + 1
    · subst e; exact ⟨Nat.le_refl _, fun _ h => h, fun _ h => h, rfl⟩
    · obtain ⟨h1, h2, h3, h4⟩ := ih (by omega) (by omega)
      obtain ⟨m, _, g1, g2, g3, g4, _⟩ := hr.one hL (i := k) (by omega)
      exact ⟨Nat.le_trans h1 g1, fun b hb => g2 b (h2 b hb), fun b hb => g3 b (h3 b hb), g4.trans h4⟩

/-- between two places where nothing writes it, a slot holds what it held -/
theorem Reg.slot_same (hr : Reg P G C n0 all ms ks S X) (hL : LenOk C) {d i k : Nat} (hik : i ≤ k) (hk : k ≤ ms.length) (hn : ∀ j, i ≤ j → j < k → ¬ Ws ms j d) : (S k).t[d]? = (S i).t[d]? := by
  induction k with
  | zero => obtain rfl : i = 0 := by omega
            rfl
  | succ k ih =>
    by_cases e : i = k + 1
    · subst e; rfl
    · obtain ⟨m, hm, _, _, _, _, g5, _⟩ := hr.one hL (i := k) (by omega)
      rw [g5 d fun h1 => hn k (by omega) (by omega) ⟨m, hm, h1⟩]
      exact ih (by omega) (by omega) fun j h1 h2 => hn j h1 (by omega)
theorem Reg.blk_same (hr : Reg P G C n0 all ms ks S X) (hL : LenOk C) {b i k : Nat} (hik : i ≤ k) (hk : k ≤ ms.length) (hn : ∀ j, i ≤ j → j < k → ¬ Wr S X j b) : (S k).h[b]? = (S i).h[b]? := by
  induction k with
  | zero => obtain rfl : i = 0 := by omega
            rfl
  | succ k ih =>
    by_cases e : i = k + 1
    · subst e; rfl
    · obtain ⟨m, hm, _, _, _, _, _, g6, _⟩ := hr.one hL (i := k) (by omega)
      rw [g6 b (hn k (by omega) (by omega))]
      exact ih (by omega) (by omega) fun j h1 h2 => hn j h1 (by omega)

/-- In the middle of a region: those of L have been carried out. -/
structure Mid (G : Nat → Option V) (D : Nat → Prop) (base n0 : Nat) (ms : List MOper) (S : Nat → St) (X : Nat → Option Res) (forb0 : Nat → Prop) (φ0 : Phi) (w0 : World) (a0 : Act) (L : Nat → Prop) (forb : Nat → Prop) (φ : Phi) (w : World) (a : Act) : Prop where
  slot : ∀ d k, k ≤ ms.length → (∀ j, j < ms.length → Ws ms j d → (L j ↔ j < k)) → ∀ v, (S k).t[d]? = some v → ∃ c, a.tmps[d]? = some c ∧ VR forb w φ v c
  size : a.tmps.size = (S 0).t.length
  glob : ∀ n v, G n = some v → VR forb w noPhi v (.pointer (some ⟨n, 0, none⟩))
  row : ∀ b k x v l, D b → k ≤ ms.length → (∀ j, j < ms.length → Wr S X j b → (L j ↔ j < k)) → (S k).h[b]? = some (.row x) → x.rd ≤ v → v ≤ x.cur → φ b v = some l → RowOk forb φ w x v l
  new : ∀ b k x v l, D b → k ≤ ms.length → (∀ j, j < ms.length → Wr S X j b → (L j ↔ j < k)) → (S k).h[b]? = some (.row x) → φ b v = some l → v ≤ x.cur
  low : ∀ b v l, φ b v = some l → base ≤ l.cb ∧ l.cb < w.heap.size ∧ forb l.cb
  apart : ∀ b v l b' v' l', φ b v = some l → φ b' v' = some l' → l.cb = l'.cb → b = b' ∧ l.coff = l'.coff ∧ l.sz = l'.sz ∧ l.lo = l'.lo
  top : base ≤ w.heap.size
  fresh : ∀ j, j < ms.length → ¬ L j → ∀ b v, (S j).h.length ≤ b → b < (S (j + 1)).h.length → φ b v = none
  ext : Ext forb0 forb w0 w
  mono : ∀ b v l, φ0 b v = some l → φ b v = some l
  far : ∀ b v, (S ms.length).h.length ≤ b → φ b v = φ0 b v
  loc : ∀ b v l, b < n0 ∨ (S ms.length).h.length ≤ b → φ0 b v = some l → b ∉ (S ms.length).w → w.heap[l.cb]? = w0.heap[l.cb]?
  old : ∀ b v, b < n0 → b ∉ (S ms.length).w → φ b v = φ0 b v
  defers : a.defers = a0.defers

theorem meets_mem {a b : List Nat} : meets a b = true ↔ ∃ x, x ∈ a ∧ x ∈ b := by
  unfold meets; simp [List.any_eq_true]
theorem clash_ww {r w r' w' : List Nat} {b : Nat} (h1 : b ∈ w) (h2 : b ∈ w') : clash r w r' w' = true := by
  simp only [clash, Bool.or_eq_true]; exact .inl (.inr (meets_mem.2 ⟨b, h1, h2⟩))
theorem clash_wr {r w r' w' : List Nat} {b : Nat} (h1 : b ∈ w) (h2 : b ∈ r') : clash r w r' w' = true := by
  simp only [clash, Bool.or_eq_true]; exact .inl (.inl (meets_mem.2 ⟨b, h1, h2⟩))
theorem clash_rw {r w r' w' : List Nat} {b : Nat} (h1 : b ∈ r) (h2 : b ∈ w') : clash r w r' w' = true := by
  simp only [clash, Bool.or_eq_true]; exact .inr (meets_mem.2 ⟨b, h1, h2⟩)

/-- an earlier operation that bears on a later one's blocks comes before it -/
theorem Reg.clash_pred (hr : Reg P G C n0 all ms ks S X) {L : Nat → Prop} (hc : Closed all L) {j q : Nat} {o : Oper} {y z : Res} (hj : j < ms.length) (ho : all[j]? = some o) (hLj : ∀ e ∈ o.after.toList, Region.binds .any e = true → L e.on) (hq : q < j) (hy : X j = some y) (hz : X q = some z) (hcl : clash y.r (allW (S j).h y) z.r (allW (S q).h z) = true) : L q := by
  have hm : ms[j]? = some ms[j] := by simp [hj]
  have hk : ks[j]? = some (ks[j]'(by rw [hr.klen, ← hr.len]; exact hj)) := by simp [hr.klen, ← hr.len, hj]
  exact hr.preds hc j o _ ho hk hLj q ((hr.step j _ _ hm hk).2 y hy q z hq hz hcl)
theorem Reg.slot_pred (hr : Reg P G C n0 all ms ks S X) {L : Nat → Prop} (hc : Closed all L) {j q : Nat} {o : Oper} {n m : MOper} (hj : ms[j]? = some n) (ho : all[j]? = some o) (hLj : ∀ e ∈ o.after.toList, Region.binds .any e = true → L e.on) (hq : q < j) (hm : ms[q]? = some m) (hh : m.hits n = true ∨ n.hits m = true) : L q := by
  have hjl := (List.getElem?_eq_some_iff.1 hj).1
  have hk : ks[j]? = some (ks[j]'(by rw [hr.klen, ← hr.len]; exact hjl)) := by simp [hr.klen, ← hr.len, hjl]
  exact hr.preds hc j o _ ho hk hLj q (hr.slot j q n m _ hj hk hq hm hh)

theorem args_congr {t t' : List V} {n : Nat} {m : MOp} (h : ∀ d ∈ m.slots, t'[d]? = t[d]?) (k : ArgsVB G n t m) : ArgsVB G n t' m := by
  intro df das e f cap as h1 h2
  subst e
  rw [ev_congr fun d hd => h d (by simp [MOp.slots, hd])] at h1
  rw [evs_congr fun d hd => h d (by simp [MOp.slots, hd])] at h2
  exact k df das rfl f cap as h1 h2

/-- One more operation. -/
theorem Mid.step {P : Program} (hC : CallOk P G C) (hL : LenOk C) (hr : Reg P G C n0 all ms ks S X) {forb0 : Nat → Prop} {φ0 : Phi} {w0 : World} {a0 : Act} {L : Nat → Prop} {forb : Nat → Prop} {φ : Phi} {w : World} {a : Act}
    (hM : Mid G D base n0 ms S X forb0 φ0 w0 a0 L forb φ w a) (hc : Closed all L) (hD0 : ∀ b, n0 ≤ b → D b) (hDf : ∀ b, (b ∈ (S ms.length).r ∨ b ∈ (S ms.length).w) → D b)
    {i : Nat} {o : Oper} (ho : all[i]? = some o) (hLi : ¬ L i) (hpre : ∀ e ∈ o.after.toList, Region.binds .any e = true → L e.on) (Q : Exit → Act → World → Prop) (K : Act → World → Prop)
    (hK : ∀ forb' φ' a' w', Mid G D base n0 ms S X forb0 φ0 w0 a0 (fun j => L j ∨ j = i) forb' φ' w' a' → K a' w') : wpOp P all Q i K a w := by
  have hi : i < ms.length := by rw [hr.len]; exact (Array.getElem?_eq_some_iff.1 ho).1
  obtain ⟨m, hm, hcomp⟩ := hr.comp i o ho
  have hk : ks[i]? = some (ks[i]'(by rw [hr.klen, ← hr.len]; exact hi)) := by simp [hr.klen, ← hr.len, hi]
  obtain ⟨hstep, hfree⟩ := hr.step i m _ hm hk
  obtain ⟨m', hm', o1, o2, o3, o4, o5, o6, o7, o8⟩ := hr.one hL hi
  rw [hm] at hm'; cases hm'
  have hmonoF := hr.mono hL (i := i + 1) (k := ms.length) (by omega) (Nat.le_refl _)
  have allAt : ∀ j, j < ms.length → ∃ oj, all[j]? = some oj := by
    intro j hj
    have hj2 : j < all.size := by rw [← hr.len]; exact hj
    exact ⟨all[j], by simp [hj2]⟩
  -- whoever comes later and bears on i has not come
  have later : ∀ j, i < j → j < ms.length → (∀ oj, all[j]? = some oj → (∀ L' : Nat → Prop, Closed all L' → (∀ e ∈ oj.after.toList, Region.binds .any e = true → L' e.on) → L' i)) → ¬ L j := by
    intro j hij hj hpj hLj
    obtain ⟨oj, hoj⟩ := allAt j hj
    exact hLi (hpj _ hoj L hc (fun e he hb => hc j _ hLj hoj e he hb))
  have laterW : ∀ j b, i < j → j < ms.length → Wr S X i b → Wr S X j b → ¬ L j := by
    intro j b hij hj ⟨y, hy1, hy2⟩ ⟨z, hz1, hz2⟩
    exact later j hij hj fun oj hoj L' hc' hp' => hr.clash_pred hc' hj hoj hp' hij hz1 hy1 (clash_ww hz2 hy2)
  have laterS : ∀ j mj, i < j → ms[j]? = some mj → (m.hits mj = true ∨ mj.hits m = true) → ¬ L j := by
    intro j mj hij hj hh
    exact later j hij (List.getElem?_eq_some_iff.1 hj).1 fun oj hoj L' hc' hp' => hr.slot_pred hc' hj hoj hp' hij hm hh
  have earlierW : ∀ j y z, j < i → X i = some y → X j = some z → clash y.r (allW (S i).h y) z.r (allW (S j).h z) = true → L j := fun j y z hji hy hz hcl => hr.clash_pred hc hi ho hpre hji hy hz hcl
  have earlierS : ∀ j mj, j < i → ms[j]? = some mj → (mj.hits m = true ∨ m.hits mj = true) → L j := fun j mj hji hj hh => hr.slot_pred hc hm ho hpre hji hj hh
  -- the slots, as the operation sees them
  have hreads : ∀ d, d ∈ m.reads → ∀ j, j < ms.length → Ws ms j d → (L j ↔ j < i) := by
    intro d hd j hj ⟨mj, hmj, hdj⟩
    have hit : mj.hits m = true := by simp only [MOper.hits, hdj, Bool.or_eq_true]; left; simpa using hd
    constructor
    · intro hLj
      rcases Nat.lt_trichotomy j i with h1 | h1 | h1
      · exact h1
      · subst h1; exact (hLi hLj).elim
      · exact (laterS j mj h1 hmj (.inr hit) hLj).elim
    · intro hji; exact earlierS j mj hji hmj (.inl hit)
  have prefS : ∀ d j1 j2, j1 < j2 → j2 < ms.length → Ws ms j1 d → Ws ms j2 d → L j2 → L j1 := by
    intro d j1 j2 h12 h2 ⟨m1, p1, p2⟩ ⟨m2, q1, q2⟩ hL2
    obtain ⟨oj, hoj⟩ := allAt j2 h2
    exact hr.slot_pred hc q1 hoj (fun e he hb => hc j2 _ hL2 hoj e he hb) h12 p1 (.inl (by simp only [MOper.hits, p2, Bool.or_eq_true]; right; simp [q2]))
  obtain ⟨t', ht1, ht2⟩ := build_list (fun d v => (d ∈ m.reads → (S i).t[d]? = some v) ∧ ∃ c, a.tmps[d]? = some c ∧ VR forb w φ v c) (S 0).t.length (fun d hd => by
    by_cases e : d ∈ m.reads
    · have hlen := (hr.mono hL (i := 0) (k := i) (by omega) (by omega)).2.2.2
      have hv : (S i).t[d]? = some ((S i).t[d]'(by omega)) := by simp [show d < (S i).t.length by omega]
      obtain ⟨c, h1, h2⟩ := hM.slot d i (by omega) (hreads d e) _ hv
      exact ⟨_, fun _ => hv, c, h1, h2⟩
    · obtain ⟨k, hk1, hk2⟩ := exK L (fun j => Ws ms j d) ms.length (prefS d)
      have hlen := (hr.mono hL (i := 0) (k := k) (by omega) hk1).2.2.2
      have hv : (S k).t[d]? = some ((S k).t[d]'(by omega)) := by simp [show d < (S k).t.length by omega]
      obtain ⟨c, h1, h2⟩ := hM.slot d k hk1 hk2 _ hv
      exact ⟨_, fun h => (e h).elim, c, h1, h2⟩)
  have hTm : Tm G forb φ w t' a := ⟨by rw [hM.size, ht1], fun d v hv => (ht2 d v hv).2, hM.glob⟩
  have hagree : ∀ d ∈ m.reads, t'[d]? = (S i).t[d]? := by
    intro d hd
    have hlen := (hr.mono hL (i := 0) (k := i) (by omega) (by omega)).2.2.2
    by_cases e : d < t'.length
    · have hv : t'[d]? = some t'[d] := by simp [e]
      rw [hv, (ht2 d _ hv).1 hd]
    · rw [List.getElem?_eq_none (by omega), List.getElem?_eq_none (by omega)]
  have hsl : ∀ d ∈ m.op.slots, t'[d]? = (S i).t[d]? := fun d hd => hagree d (by unfold MOper.reads; split <;> simp [hd])
  have hgd : ∀ d b, m.guard = some (d, b) → t'[d]? = (S i).t[d]? := fun d b hg => hagree d (by unfold MOper.reads; rw [hg]; simp)
  obtain ⟨e1, e2, e3⟩ := wanted_ok hTm hcomp
  rw [wantedV_congr hgd] at e1
  -- what the new set means
  have newS : ∀ d k, k ≤ ms.length → (∀ j, j < ms.length → Ws ms j d → ((L j ∨ j = i) ↔ j < k)) → (m.dst = some d → i < k ∧ (S k).t[d]? = (S (i + 1)).t[d]?) ∧ (m.dst ≠ some d → ∀ j, j < ms.length → Ws ms j d → (L j ↔ j < k)) := by
    intro d k hk hcond
    refine ⟨fun hd => ?_, fun hd j hj hW => ?_⟩
    · have hik : i < k := (hcond i hi ⟨m, hm, hd⟩).1 (.inr rfl)
      refine ⟨hik, hr.slot_same hL (by omega) hk fun j h1 h2 hW => ?_⟩
      obtain ⟨mj, p1, p2⟩ := hW
      have := (hcond j (by omega) ⟨mj, p1, p2⟩).2 h2
      rcases this with h3 | h3
      · exact laterS j mj (by omega) p1 (.inl (by simp only [MOper.hits, hd, Bool.or_eq_true]; right; simp [p2])) h3
      · omega
    · rw [← hcond j hj hW]
      constructor
      · exact .inl
      · rintro (h1 | rfl)
        · exact h1
        · obtain ⟨mj, p1, p2⟩ := hW; rw [hm] at p1; cases p1; exact (hd p2).elim
  have newB : ∀ b k, k ≤ ms.length → (∀ j, j < ms.length → Wr S X j b → ((L j ∨ j = i) ↔ j < k)) → (Wr S X i b → (S k).h[b]? = (S (i + 1)).h[b]?) ∧ (¬ Wr S X i b → ∀ j, j < ms.length → Wr S X j b → (L j ↔ j < k)) := by
    intro b k hk hcond
    refine ⟨fun hd => ?_, fun hd j hj hW => ?_⟩
    · have hik : i < k := (hcond i hi hd).1 (.inr rfl)
      refine hr.blk_same hL (by omega) hk fun j h1 h2 hW => ?_
      have := (hcond j (by omega) hW).2 h2
      rcases this with h3 | h3
      · exact laterW j b (by omega) (by omega) hd hW h3
      · omega
    · rw [← hcond j hj hW]
      constructor
      · exact .inl
      · rintro (h1 | rfl)
        · exact h1
        · exact (hd hW).elim
  unfold wpOp
  simp only [ho]
  rcases hstep with ⟨h1, y, h2, h3, h4⟩ | ⟨h1, h2, h3⟩
  · rw [if_pos (by rw [← e1]; exact h1)]
    left
    obtain ⟨o71, o72⟩ := o7 y h2
    have hop := opV_len hL h3
    have hcl : ∀ b, (b ∈ y.r ∨ b ∈ y.w) → ∀ j, j < ms.length → Wr S X j b → (L j ↔ j < i) := by
      intro b hb j hj ⟨z, hz1, hz2⟩
      constructor
      · intro hLj
        rcases Nat.lt_trichotomy j i with g | g | g
        · exact g
        · subst g; exact (hLi hLj).elim
        · refine ((later j g hj fun oj hoj L' hc' hp' => hr.clash_pred hc' hj hoj hp' g hz1 h2 ?_) hLj).elim
          rcases hb with hb | hb
          · exact clash_wr hz2 hb
          · exact clash_ww hz2 (allW_mem.2 (.inl hb))
      · intro hji
        refine earlierW j y z hji h2 hz1 ?_
        rcases hb with hb | hb
        · exact clash_rw hb hz2
        · exact clash_ww (allW_mem.2 (.inl hb)) hz2
    have hyD : ∀ b, (b ∈ y.r ∨ b ∈ y.w) → D b := by
      intro b hb
      by_cases e : n0 ≤ b
      · exact hD0 b e
      · refine hDf b ?_
        rcases hb with hb | hb
        · exact .inl (hmonoF.2.2.1 b ((o72 b).1 hb (by omega)))
        · exact .inr (hmonoF.2.1 b ((o72 b).2 hb (by omega)))
    have hRi : Rel forb φ (fun b => b ∈ y.r ∨ b ∈ y.w) base (S i).h w :=
      ⟨fun b x v l hb hx => hM.row b i x v l (hyD b hb) (by omega) (hcl b hb) hx, hM.low, hM.apart, hM.top, fun b x v l hb hx => hM.new b i x v l (hyD b hb) (by omega) (hcl b hb) hx⟩
    have hg := opV_okX hC hTm hRi e3 (args_congr hsl (args_vb hTm.gb (compX_okC e3) (hr.vb i (by omega)).1)) (hr.vb i (by omega)).2 (by rw [opV_congr hsl]; exact h3) (fun b hb => hb) (fun b v hb1 hb2 => hM.fresh i hi hLi b v hb1 (by rw [o71]; exact hb2))
    refine hg.wp fun c w' hP => ?_
    obtain ⟨forb', φ', p1, p2, p3, p4, p5, p6, p7, p8⟩ := hP
    have hnoW : ∀ b, ¬ Wr S X i b → ∀ v, φ' b v = φ b v := by
      intro b hb v
      have hb' : ¬ (b ∈ y.w ∨ ((S i).h.length ≤ b ∧ b < y.h.length)) := fun h5 => hb ⟨y, h2, allW_mem.2 h5⟩
      by_cases e : b < (S i).h.length
      · exact p7 b v e fun h5 => hb' (.inl h5)
      · exact p5 b v (by have : ¬ b < y.h.length := fun h5 => hb' (.inr ⟨by omega, h5⟩); omega)
    have hnoW2 : ∀ b, ¬ Wr S X i b → b ∉ y.w := fun b hb h5 => hb ⟨y, h2, allW_mem.2 (.inl h5)⟩
    have hDi : ∀ b, Wr S X i b → ((b ∈ y.r ∨ b ∈ y.w) ∨ ((S i).h.length ≤ b ∧ b < y.h.length)) := by
      rintro b ⟨z, hz1, hz2⟩
      rw [h2] at hz1; cases hz1
      rcases allW_mem.1 hz2 with h5 | h5
      · exact .inl (.inr h5)
      · exact .inr h5
    refine hK forb' φ' _ w' ⟨fun d k hk hcond v hv => ?_, ?_, fun n v hv => (hM.glob n v hv).ext p3 noPhi (fun _ _ _ h => h), fun b k x v l hb hk hcond hx r1 r2 hl => ?_, fun b k x v l hb hk hcond hx hl => ?_, p2.low, p2.apart, p2.top, fun j hj hLj b v hb1 hb2 => ?_, hM.ext.trans p3, fun b v l hl => p4 _ _ _ (hM.mono _ _ _ hl), fun b v hb => ?_, fun b v l hb hl hn => ?_, fun b v hb hn => ?_, ?_⟩
    · obtain ⟨q1, q2⟩ := newS d k hk hcond
      rw [← e2]
      by_cases e : m.dst = some d
      · obtain ⟨q3, q4⟩ := q1 e
        rw [q4, h4] at hv
        simp only [regPut, e, putV] at hv
        have hdl : d < (S i).t.length := by have := (List.getElem?_eq_some_iff.1 hv).1; simpa using this
        rw [List.getElem?_set_self hdl] at hv
        cases hv
        have hlen := (hr.mono hL (i := 0) (k := i) (by omega) (by omega)).2.2.2
        refine ⟨c, ?_, p1⟩
        simp only [Act.put, e]
        rw [Array.getElem?_setIfInBounds, if_pos rfl, if_pos (by rw [hM.size]; omega)]
      · obtain ⟨u, g1, g2⟩ := hM.slot d k hk (q2 e) v hv
        refine ⟨u, ?_, g2.ext p3 φ' p4⟩
        cases hdst : m.dst with
        | none => simpa [Act.put] using g1
        | some d' =>
          simp only [Act.put]
          rw [Array.getElem?_setIfInBounds, if_neg (by rintro rfl; exact e hdst)]
          exact g1
    · rw [← hM.size]; cases o.dst <;> simp [Act.put]
    · obtain ⟨q1, q2⟩ := newB b k hk hcond
      by_cases e : Wr S X i b
      · rw [q1 e, o71] at hx
        exact p2.row b x v l (hDi b e) hx r1 r2 hl
      · rw [hnoW b e v] at hl
        exact (hM.row b k x v l hb hk (q2 e) hx r1 r2 hl).ext p3 p4 (p6 b v l hl (hnoW2 b e))
    · obtain ⟨q1, q2⟩ := newB b k hk hcond
      by_cases e : Wr S X i b
      · rw [q1 e, o71] at hx
        exact p2.new b x v l (hDi b e) hx hl
      · rw [hnoW b e v] at hl
        exact hM.new b k x v l hb hk (q2 e) hx hl
    · simp only [not_or] at hLj
      have hnW : ¬ Wr S X i b := by
        rintro ⟨z, hz1, hz2⟩
        rw [h2] at hz1; cases hz1
        rcases Nat.lt_or_gt_of_ne hLj.2 with g | g
        · -- j before i
          obtain ⟨mj, _, _, _, _, _, _, g6, g7, g8⟩ := hr.one hL hj
          rcases hXj : X j with _ | z
          · rw [g8 hXj] at hb2; omega
          · have hWj : b ∈ allW (S j).h z := allW_mem.2 (.inr ⟨hb1, by rw [← (g7 z hXj).1]; exact hb2⟩)
            exact hLj.1 (earlierW j y z g h2 hXj (clash_ww hz2 hWj))
        · have := (hr.mono hL (i := i + 1) (k := j) (by omega) (by omega)).1
          rcases allW_mem.1 hz2 with h5 | h5
          · have := hop.2.1 b h5; omega
          · rw [← o71] at h5; omega
      rw [hnoW b hnW v]
      exact hM.fresh j hj hLj.1 b v hb1 hb2
    · have : (S (i + 1)).h.length ≤ (S ms.length).h.length := hmonoF.1
      rw [o71] at this
      rw [p5 b v (by omega), hM.far b v hb]
    · have hyw : b ∉ y.w := by
        intro h5
        rcases hb with hb | hb
        · exact hn (hmonoF.2.1 b ((o72 b).2 h5 hb))
        · have := hop.2.1 b h5
          have := hmonoF.1
          omega
      rw [p6 b v l (hM.mono _ _ _ hl) hyw, hM.loc b v l hb hl hn]
    · have hyw : b ∉ y.w := fun h5 => hn (hmonoF.2.1 b ((o72 b).2 h5 hb))
      have hb2 : b < (S i).h.length := by
        have := (hr.mono hL (i := 0) (k := i) (by omega) (by omega)).1
        have := hr.pos
        omega
      rw [p7 b v hb2 hyw, hM.old b v hb hn]
    · rw [← hM.defers]; cases o.dst <;> rfl
  · rw [if_neg (by rw [← e1, h1]; simp)]
    have hnW : ∀ b, ¬ Wr S X i b := by rintro b ⟨z, hz1, _⟩; rw [h2] at hz1; cases hz1
    refine hK forb φ _ w ⟨fun d k hk hcond v hv => ?_, ?_, hM.glob, fun b k x v l hb hk hcond => hM.row b k x v l hb hk ((newB b k hk hcond).2 (hnW b)), fun b k x v l hb hk hcond => hM.new b k x v l hb hk ((newB b k hk hcond).2 (hnW b)), hM.low, hM.apart, hM.top, fun j hj hLj b v hb1 hb2 => ?_, hM.ext, hM.mono, hM.far, hM.loc, hM.old, ?_⟩
    · obtain ⟨q1, q2⟩ := newS d k hk hcond
      rw [← e2]
      by_cases e : m.dst = some d
      · obtain ⟨q3, q4⟩ := q1 e
        rw [q4, h3] at hv
        simp only [e, putV] at hv
        have hdl : d < (S i).t.length := by have := (List.getElem?_eq_some_iff.1 hv).1; simpa using this
        rw [List.getElem?_set_self hdl] at hv
        cases hv
        have hlen := (hr.mono hL (i := 0) (k := i) (by omega) (by omega)).2.2.2
        refine ⟨Go.undef, ?_, .undef⟩
        simp only [Act.put, e]
        rw [Array.getElem?_setIfInBounds, if_pos rfl, if_pos (by rw [hM.size]; omega)]
      · obtain ⟨u, g1, g2⟩ := hM.slot d k hk (q2 e) v hv
        refine ⟨u, ?_, g2⟩
        cases hdst : m.dst with
        | none => simpa [Act.put] using g1
        | some d' =>
          simp only [Act.put]
          rw [Array.getElem?_setIfInBounds, if_neg (by rintro rfl; exact e hdst)]
          exact g1
    · rw [← hM.size]; cases o.dst <;> simp [Act.put]
    · simp only [not_or] at hLj
      exact hM.fresh j hj hLj.1 b v hb1 hb2
    · rw [← hM.defers]; cases o.dst <;> rfl
end Go.Mini
