/- A part of the proof: MiniDraw2. No condition. -/
import Derived.Test.YtgknkkdemjjeoaaGreatDoorMiniDraw
set_option linter.all false
set_option maxRecDepth 100000
namespace Go.Mini
set_option linter.unusedVariables false
set_option linter.unusedSimpArgs false
variable {P : Program} {G : Nat → Option V} {forb : Nat → Prop} {φ : Phi} {w : World} {t : List V} {a : Act} {D : Nat → Prop} {base : Nat} {h : H} {o : Oper}

/-! ### What the masks say -/
theorem maskOf_ok {acc : List Nat} : ∀ {es : List Edge} {m : Nat}, maskOf acc es = some m → (∀ e ∈ es, Region.binds .any e = true → e.on < acc.length) ∧ ∀ i, m.testBit i = true → ∃ e ∈ es, Region.binds .any e = true ∧ (e.on = i ∨ (acc.getD e.on 0).testBit i = true)
  | [], m, h => by cases h; simp
  | e :: es, m, h => by
    simp only [maskOf] at h
    split at h
    · rename_i m' hm
      obtain ⟨h1, h2⟩ := maskOf_ok hm
      split at h
      · rename_i hb
        split at h
        · rename_i hl
          cases h
          refine ⟨fun x hx hbx => ?_, fun i hi => ?_⟩
          · rcases List.mem_cons.1 hx with rfl | hx
            · exact hl
            · exact h1 x hx hbx
          · rw [Nat.testBit_or, Nat.testBit_or, Bool.or_eq_true, Bool.or_eq_true] at hi
            rcases hi with (hi | hi) | hi
            · rw [Nat.one_shiftLeft, Nat.testBit_two_pow] at hi
              exact ⟨e, by simp, hb, .inl (by simpa using hi)⟩
            · exact ⟨e, by simp, hb, .inr hi⟩
            · obtain ⟨x, hx, h3⟩ := h2 i hi
              exact ⟨x, by simp [hx], h3⟩
        · cases h
      · rename_i hb
        cases h
        refine ⟨fun x hx hbx => ?_, fun i hi => ?_⟩
        · rcases List.mem_cons.1 hx with rfl | hx
          · exact (hb hbx).elim
          · exact h1 x hx hbx
        · obtain ⟨x, hx, h3⟩ := h2 i hi
          exact ⟨x, by simp [hx], h3⟩
    · cases h

theorem masksOf_ok : ∀ {ops : List Oper} {acc ks : List Nat}, masksOf acc ops = some ks → ks.length = acc.length + ops.length ∧ (∀ i, i < acc.length → ks[i]? = acc[i]?) ∧
    ∀ i o, ops[i]? = some o → ∃ m, ks[acc.length + i]? = some m ∧ (∀ e ∈ o.after.toList, Region.binds .any e = true → e.on < acc.length + i) ∧ ∀ q, m.testBit q = true → ∃ e ∈ o.after.toList, Region.binds .any e = true ∧ (e.on = q ∨ (ks.getD e.on 0).testBit q = true)
  | [], acc, ks, h => by cases h; simp
  | o :: ops, acc, ks, h => by
    simp only [masksOf] at h
    split at h
    · rename_i m hm
      obtain ⟨h1, h2⟩ := maskOf_ok hm
      obtain ⟨g1, g2, g3⟩ := masksOf_ok h
      refine ⟨by simp at g1 ⊢; omega, fun i hi => ?_, fun i o' ho' => ?_⟩
      · rw [g2 i (by simp; omega), List.getElem?_append_left hi]
      · cases i with
        | zero =>
          simp at ho'; subst ho'
          refine ⟨m, by rw [Nat.add_zero, g2 acc.length (by simp)]; simp, fun e he hb => by have := h1 e he hb; omega, fun q hq => ?_⟩
          obtain ⟨e, he, hb, h3⟩ := h2 q hq
          refine ⟨e, he, hb, ?_⟩
          rcases h3 with h3 | h3
          · exact .inl h3
          · right
            have hl := h1 e he hb
            have : ks.getD e.on 0 = acc.getD e.on 0 := by
              simp only [List.getD_eq_getElem?_getD]
              rw [g2 e.on (by simp; omega), List.getElem?_append_left hl]
            rw [this]; exact h3
        | succ i =>
          obtain ⟨m', p1, p2, p3⟩ := g3 i o' (by simpa using ho')
          refine ⟨m', by rw [← p1]; congr 1; simp; omega, fun e he hb => by have := p2 e he hb; simp at this; omega, p3⟩
    · cases h

theorem slotsOk1_ok {n : MOper} {mask : Nat} : ∀ {ms : List MOper} {i : Nat}, slotsOk1 n mask ms i = true → ∀ q m, ms[q]? = some m → (m.hits n = true ∨ n.hits m = true) → mask.testBit (i + q) = true
  | [], i, h, q, m, hm, _ => by simp at hm
  | m0 :: ms, i, h, q, m, hm, hh => by
    simp only [slotsOk1, Bool.and_eq_true, Bool.or_eq_true, Bool.not_eq_true', Bool.or_eq_false_iff] at h
    cases q with
    | zero =>
      simp at hm; subst hm
      rcases h.1 with h1 | h1
      · rcases hh with hh | hh
        · rw [h1.1] at hh; cases hh
        · rw [h1.2] at hh; cases hh
      · exact h1
    | succ q =>
      have := slotsOk1_ok h.2 q m (by simpa using hm) hh
      rwa [show i + 1 + q = i + (q + 1) by omega] at this

theorem slotsOk_ok : ∀ {ns : List MOper} {ks : List Nat} {done : List MOper}, slotsOk done ns ks = true → ks.length = ns.length ∧ ∀ (j q : Nat) n m k, ns[j]? = some n → ks[j]? = some k → q < done.length + j → (done ++ ns)[q]? = some m → (m.hits n = true ∨ n.hits m = true) → k.testBit q = true
  | [], [], done, _ => by simp
  | [], _ :: _, done, h => by simp [slotsOk] at h
  | _ :: _, [], done, h => by simp [slotsOk] at h
  | n :: ns, k :: ks, done, h => by
    simp only [slotsOk, Bool.and_eq_true] at h
    obtain ⟨h1, h2⟩ := h
    obtain ⟨g1, g2⟩ := slotsOk_ok h2
    refine ⟨by simp [g1], fun j q n' m k' hn hk hq hm hh => ?_⟩
    cases j with
    | zero =>
      simp at hn hk; subst hn hk
      rw [List.getElem?_append_left (by omega)] at hm
      have := slotsOk1_ok h1 q m hm hh
      simpa using this
    | succ j =>
      refine g2 j q n' m k' (by simpa using hn) (by simpa using hk) (by simp; omega) ?_ hh
      rw [List.append_assoc]; exact hm

/-! ### A region in whatever order -/
theorem exK (L W : Nat → Prop) : ∀ n, (∀ j1 j2, j1 < j2 → j2 < n → W j1 → W j2 → L j2 → L j1) → ∃ k, k ≤ n ∧ ∀ j, j < n → W j → (L j ↔ j < k) := by
  intro n
  induction n with
  | zero => intro _; exact ⟨0, Nat.le_refl _, fun j hj => by omega⟩
  | succ n ih =>
    intro hp
    obtain ⟨k, hk, h⟩ := ih fun j1 j2 h1 h2 => hp j1 j2 h1 (by omega)
    by_cases e : W n ∧ L n
    · refine ⟨n + 1, Nat.le_refl _, fun j hj hW => ⟨fun _ => hj, fun _ => ?_⟩⟩
      by_cases e2 : j = n
      · subst e2; exact e.2
      · exact hp j n (by omega) (by omega) hW e.1 e.2
    · refine ⟨k, by omega, fun j hj hW => ?_⟩
      by_cases e2 : j = n
      · subst e2
        exact ⟨fun h1 => (e ⟨hW, h1⟩).elim, fun h1 => by omega⟩
      · exact h j (by omega) hW

theorem build_list {α : Type} (Pd : Nat → α → Prop) : ∀ n, (∀ d, d < n → ∃ v, Pd d v) → ∃ t : List α, t.length = n ∧ ∀ d v, t[d]? = some v → Pd d v := by
  intro n
  induction n with
  | zero => intro _; exact ⟨[], rfl, by simp⟩
  | succ n ih =>
    intro h
    obtain ⟨t, h1, h2⟩ := ih fun d hd => h d (by omega)
    obtain ⟨v, hv⟩ := h n (by omega)
    refine ⟨t ++ [v], by simp [h1], fun d u hu => ?_⟩
    by_cases e : d < t.length
    · rw [List.getElem?_append_left e] at hu; exact h2 d u hu
    · have : d < (t ++ [v]).length := (List.getElem?_eq_some_iff.1 hu).1
      simp at this
      obtain rfl : d = t.length := by omega
      simp at hu; subst hu
      rw [h1]; exact hv

/-- All that is known of a region: its operations, their order, its trace. -/
structure Reg (P : Program) (G : Nat → Option V) (C : FuncId → List V → H → Option Res) (n0 : Nat) (all : Array Oper) (ms : List MOper) (ks : List Nat) (S : Nat → St) (X : Nat → Option Res) : Prop where
  comp : ∀ (i : Nat) o, all[i]? = some o → ∃ m, ms[i]? = some m ∧ compOper P all.toList o = some m
  len : ms.length = all.size
  klen : ks.length = all.size
  mask : ∀ (i : Nat) o, all[i]? = some o → ∃ k, ks[i]? = some k ∧ (∀ e ∈ o.after.toList, Region.binds .any e = true → e.on < i) ∧ ∀ q, k.testBit q = true → ∃ e ∈ o.after.toList, Region.binds .any e = true ∧ (e.on = q ∨ (ks.getD e.on 0).testBit q = true)
  slot : ∀ (j q : Nat) n m k, ms[j]? = some n → ks[j]? = some k → q < j → ms[q]? = some m → (m.hits n = true ∨ n.hits m = true) → k.testBit q = true
  step : ∀ (i : Nat) m k, ms[i]? = some m → ks[i]? = some k → Step G C n0 m (S i) (S (i + 1)) (X i) ∧ ∀ y, X i = some y → ∀ q z, q < i → X q = some z → clash y.r (allW (S i).h y) z.r (allW (S q).h z) = true → k.testBit q = true
  pos : n0 ≤ (S 0).h.length
  vb : ∀ i, i ≤ ms.length → (∀ v ∈ (S i).t, VB (S i).h.length v) ∧ HB (S i).h.length (S i).h

/-- a set of operations that holds what must come before -/
def Closed (all : Array Oper) (L : Nat → Prop) : Prop := ∀ (j : Nat) o, L j → all[j]? = some o → ∀ e ∈ o.after.toList, Region.binds .any e = true → L e.on

variable {C : FuncId → List V → H → Option Res} {n0 : Nat} {all : Array Oper} {ms : List MOper} {ks : List Nat} {S : Nat → St} {X : Nat → Option Res}

/-- What an operation's mask holds has come if all that binds it has. -/
theorem Reg.preds (hr : Reg P G C n0 all ms ks S X) {L : Nat → Prop} (hc : Closed all L) : ∀ (j : Nat) (o : Oper) (k : Nat), all[j]? = some o → ks[j]? = some k → (∀ e ∈ o.after.toList, Region.binds .any e = true → L e.on) → ∀ q, k.testBit q = true → L q := by
  intro j
  induction j using Nat.strongRecOn with
  | _ j ih =>
    intro o k ho hk hL q hq
    obtain ⟨k', h1, h2, h3⟩ := hr.mask j o ho
    rw [hk] at h1; cases h1
    obtain ⟨e, he, hb, h4⟩ := h3 q hq
    have hLe := hL e he hb
    rcases h4 with h4 | h4
    · rw [← h4]; exact hLe
    · have hej := h2 e he hb
      have hel : e.on < all.size := by have := (Array.getElem?_eq_some_iff.1 ho).1; omega
      have hk2 : ks[e.on]? = some (ks.getD e.on 0) := by
        have : e.on < ks.length := by rw [hr.klen]; exact hel
        simp [List.getD_eq_getElem?_getD, this]
      exact ih e.on hej all[e.on] _ (by simp [hel]) hk2 (fun e' he' hb' => hc e.on _ hLe (by simp [hel]) e' he' hb') q h4
end Go.Mini
