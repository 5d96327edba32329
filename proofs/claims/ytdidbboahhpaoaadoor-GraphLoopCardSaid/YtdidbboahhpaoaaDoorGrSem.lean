/- A part of the proof: GrSem. No condition. -/
import Derived.Test.YtdidbboahhpaoaaDoorGrMath
set_option linter.all false
set_option maxRecDepth 100000
namespace Go.GrMath
open Go.Mini
set_option linter.all false
def ofB (acc : List Bool) (e : Int) : Bool := (acc.getD (e.toNat / 2) false) != (e.toNat % 2 == 1)
def stepB (M : List Bool) (s : List Bool × Nat) (p : Int × Int) : List Bool × Nat := if p.1 = -1 ∧ p.2 = -1 then (s.1 ++ [M.getD s.2 false], s.2 + 1) else (s.1 ++ [ofB s.1 p.1 && ofB s.1 p.2], s.2)
def runB (M : List Bool) (L : List (Int × Int)) : List Bool × Nat := (L.drop 1).foldl (stepB M) ([false], 0)
def valE (M : List Bool) (L : List (Int × Int)) (e : Int) : Bool := ofB (runB M L).1 e
theorem runB_snoc (M : List Bool) {L : List (Int × Int)} (h : 0 < L.length) (p : Int × Int) : runB M (L ++ [p]) = stepB M (runB M L) p := by
  unfold runB
  rw [List.drop_append_of_le_length (by omega), List.foldl_append]; rfl
theorem stepB_len (M : List Bool) (s : List Bool × Nat) (p : Int × Int) : (stepB M s p).1.length = s.1.length + 1 ∧ ∃ b, (stepB M s p).1 = s.1 ++ [b] := by
  unfold stepB; split <;> simp
theorem foldB_len (M : List Bool) : ∀ (l : List (Int × Int)) (s : List Bool × Nat), (l.foldl (stepB M) s).1.length = s.1.length + l.length
  | [], s => by simp
  | p :: l, s => by
    have := (stepB_len M s p).1
    rw [List.foldl_cons, foldB_len M l, this]; simp; omega
theorem runB_len (M : List Bool) {L : List (Int × Int)} (h : 0 < L.length) : (runB M L).1.length = L.length := by
  unfold runB
  rw [foldB_len]; simp; omega
theorem ofB_app {acc : List Bool} {e : Int} (h0 : 0 ≤ e) (h1 : e < 2 * (acc.length : Int)) (x : List Bool) : ofB (acc ++ x) e = ofB acc e := by
  unfold ofB
  have : e.toNat / 2 < acc.length := by omega
  rw [List.getD_eq_getElem?_getD, List.getD_eq_getElem?_getD, List.getElem?_append_left this]
theorem valE_snoc (M : List Bool) {L : List (Int × Int)} (h : 0 < L.length) (p : Int × Int) {e : Int} (h0 : 0 ≤ e) (h1 : e < 2 * (L.length : Int)) : valE M (L ++ [p]) e = valE M L e := by
  unfold valE
  rw [runB_snoc M h]
  obtain ⟨b, hb⟩ := (stepB_len M (runB M L) p).2
  rw [hb]
  exact ofB_app h0 (by rw [runB_len M h]; exact h1) _
theorem valE_app (M : List Bool) : ∀ (x : List (Int × Int)) {L : List (Int × Int)} (h : 0 < L.length) {e : Int} (h0 : 0 ≤ e) (h1 : e < 2 * (L.length : Int)), valE M (L ++ x) e = valE M L e
  | [], L, h, e, h0, h1 => by rw [List.append_nil]
  | p :: x, L, h, e, h0, h1 => by
    have h2 := valE_app M x (L := L ++ [p]) (by simp) h0 (by simp; omega)
    rw [List.append_assoc] at h2
    rw [show L ++ p :: x = L ++ ([p] ++ x) from rfl, h2, valE_snoc M h p h0 h1]
theorem ofB_not (acc : List Bool) {e : Int} (h0 : 0 ≤ e) (h1 : e < 2000000) : ofB acc (notG e) = !ofB acc e := by
  obtain ⟨k, rfl⟩ : ∃ k : Nat, e = (k : Int) := ⟨e.toNat, by omega⟩
  rw [notG_nat (by omega)]
  unfold ofB
  split
  · have e1 : ((k + 1 : Nat) : Int).toNat = k + 1 := by omega
    have e2 : ((k : Nat) : Int).toNat = k := by omega
    have e3 : (k + 1) / 2 = k / 2 := by omega
    have e4 : ((k + 1) % 2 == 1) = true := by simp; omega
    have e5 : (k % 2 == 1) = false := by simp; omega
    rw [e1, e2, e3, e4, e5]
    cases acc.getD (k / 2) false <;> rfl
  · have e1 : ((k - 1 : Nat) : Int).toNat = k - 1 := by omega
    have e2 : ((k : Nat) : Int).toNat = k := by omega
    have e3 : (k - 1) / 2 = k / 2 := by omega
    have e4 : ((k - 1) % 2 == 1) = false := by simp; omega
    have e5 : (k % 2 == 1) = true := by simp; omega
    rw [e1, e2, e3, e4, e5]
    cases acc.getD (k / 2) false <;> rfl
theorem foldB_head (M : List Bool) : ∀ (l : List (Int × Int)) (s : List Bool × Nat) (b : Bool), s.1.head? = some b → (l.foldl (stepB M) s).1.head? = some b
  | [], s, b, h => h
  | p :: l, s, b, h => by
    obtain ⟨c, hc⟩ := (stepB_len M s p).2
    rw [List.foldl_cons]
    refine foldB_head M l _ b ?_
    rw [hc]
    rcases hs : s.1 with _ | ⟨x, xs⟩
    · rw [hs] at h; cases h
    · rw [hs] at h; exact h
theorem val0 (M : List Bool) (L : List (Int × Int)) : valE M L 0 = false := by
  have := foldB_head M (L.drop 1) ([false], 0) false rfl
  unfold valE ofB
  have h2 : (runB M L).1.getD ((0 : Int).toNat / 2) false = false := by
    show (runB M L).1.getD 0 false = false
    rw [List.getD_eq_getElem?_getD, ← List.head?_eq_getElem?]
    unfold runB; rw [this]; rfl
  rw [h2]; rfl
theorem val1 (M : List Bool) (L : List (Int × Int)) : valE M L 1 = true := by
  have h := ofB_not (runB M L).1 (e := 0) (by omega) (by omega)
  have e1 : notG 0 = 1 := by decide
  rw [e1] at h
  have := val0 M L
  unfold valE at this ⊢
  rw [h, this]; rfl
/-- all pairs are inputs or of edges ahead of them -/
def Lok (L : List (Int × Int)) : Prop := ∀ (n : Nat) (p : Int × Int), 0 < n → L[n]? = some p → (p.1 = -1 ∧ p.2 = -1) ∨ ((0 ≤ p.1 ∧ p.1 < 2 * (n : Int)) ∧ (0 ≤ p.2 ∧ p.2 < 2 * (n : Int)))
/-- what the map says is so -/
structure SemG (M : List Bool) (L : List (Int × Int)) (K : Ky) : Prop where
  pos : 0 < L.length
  big : L.length ≤ 900
  ok : KOk L.length K
  rng : ∀ p ∈ K, (0 ≤ p.1.1 ∧ p.1.1 < 2 * (L.length : Int)) ∧ (0 ≤ p.1.2 ∧ p.1.2 < 2 * (L.length : Int))
  val : ∀ p ∈ K, valE M L p.2 = (valE M L p.1.1 && valE M L p.1.2)
  lok : Lok L
theorem lookK_mem2 {a b e : Int} : ∀ {K : Ky}, lookK a b K = some e → ((a, b), e) ∈ K
  | [], h => by cases h
  | p :: K, h => by
    simp only [lookK] at h
    split at h
    · rename_i hc
      cases h
      obtain ⟨⟨x, y⟩, z⟩ := p
      obtain ⟨rfl, rfl⟩ := hc
      simp
    · exact List.mem_cons_of_mem _ (lookK_mem2 h)
theorem and_sem {M : List Bool} {L : List (Int × Int)} {K : Ky} (s : SemG M L K) (hb1 : L.length ≤ 899) {a b : Int} (ha : 0 ≤ a ∧ a < 2 * (L.length : Int)) (hb : 0 ≤ b ∧ b < 2 * (L.length : Int)) :
    ∃ e L' K' x, andG L K a b = (e, L', K') ∧ L' = L ++ x ∧ x.length ≤ 1 ∧ SemG M L' K' ∧ (0 ≤ e ∧ e < 2 * (L'.length : Int)) ∧ valE M L' e = (valE M L a && valE M L b) := by
  have hlo : 0 ≤ lo a b ∧ lo a b < 2 * (L.length : Int) := by unfold lo; split <;> omega
  have hhi : 0 ≤ hi a b ∧ hi a b < 2 * (L.length : Int) := by unfold hi; split <;> omega
  have hcomm : (valE M L a && valE M L b) = (valE M L (lo a b) && valE M L (hi a b)) := by
    unfold lo hi; split
    · exact Bool.and_comm _ _
    · rfl
  rw [hcomm]
  unfold andG
  generalize lo a b = p at *
  generalize hi a b = q at *
  unfold andP
  have hpos := s.pos
  by_cases h1 : p = 0 ∨ p = notG q
  · refine ⟨0, L, K, [], by rw [if_pos h1], by simp, by simp, s, by omega, ?_⟩
    rw [val0]
    rcases h1 with rfl | h1
    · rw [val0]; rfl
    · have : valE M L p = !valE M L q := by rw [h1]; exact ofB_not _ hhi.1 (by have := s.big; omega)
      rw [this]; cases valE M L q <;> rfl
  · rw [if_neg h1]
    by_cases h2 : p = 1 ∨ p = q
    · refine ⟨q, L, K, [], by rw [if_pos h2], by simp, by simp, s, hhi, ?_⟩
      rcases h2 with rfl | rfl
      · rw [val1]; simp
      · simp
    · rw [if_neg h2]
      rcases hq : lookK p q K with _ | e
      · refine ⟨2 * (L.length : Int), L ++ [(p, q)], _, [(p, q)], rfl, rfl, by simp, ?_, by simp; omega, ?_⟩
        · have hv : valE M (L ++ [(p, q)]) (2 * (L.length : Int)) = (valE M L p && valE M L q) := by
            unfold valE
            rw [runB_snoc M hpos]
            unfold stepB
            rw [if_neg (by simp; omega)]
            have hl := runB_len M hpos
            show ofB _ _ = _
            unfold ofB
            have e1 : (2 * (L.length : Int)).toNat / 2 = (runB M L).1.length := by rw [hl]; omega
            have e2 : ((2 * (L.length : Int)).toNat % 2 == 1) = false := by simp; omega
            rw [e1, e2]
            simp [List.getD_eq_getElem?_getD]
          refine ⟨by simp, by simp; omega, ?_, fun z hz => ?_, fun z hz => ?_, fun n z hn hz => ?_⟩
          · intro z hz
            rcases List.mem_append.1 hz with hz | hz
            · have := s.ok z hz; simp; omega
            · simp at hz; subst hz; simp; omega
          · rcases List.mem_append.1 hz with hz | hz
            · have := s.rng z hz; simp; omega
            · simp at hz; subst hz; simp; omega
          · rcases List.mem_append.1 hz with hz | hz
            · have hr := s.rng z hz
              have ho := s.ok z hz
              rw [valE_snoc M hpos _ ho.1 ho.2, valE_snoc M hpos _ hr.1.1 hr.1.2, valE_snoc M hpos _ hr.2.1 hr.2.2]
              exact s.val z hz
            · simp at hz; subst hz
              rw [valE_snoc M hpos _ hlo.1 hlo.2, valE_snoc M hpos _ hhi.1 hhi.2]
              exact hv
          · by_cases hlt : n < L.length
            · rw [List.getElem?_append_left hlt] at hz; exact s.lok n z hn hz
            · rw [List.getElem?_append_right (by omega)] at hz
              have := (List.getElem?_eq_some_iff.1 hz).1
              have : n = L.length := by simp at this; omega
              subst this
              simp at hz; subst hz
              exact .inr ⟨hlo, hhi⟩
        · unfold valE
          rw [runB_snoc M hpos]
          unfold stepB
          rw [if_neg (by simp; omega)]
          have hl := runB_len M hpos
          show ofB _ _ = _
          unfold ofB
          have e1 : (2 * (L.length : Int)).toNat / 2 = (runB M L).1.length := by rw [hl]; omega
          have e2 : ((2 * (L.length : Int)).toNat % 2 == 1) = false := by simp; omega
          rw [e1, e2]
          simp [List.getD_eq_getElem?_getD]
      · have hm := lookK_mem2 hq
        exact ⟨e, L, K, [], rfl, by simp, by simp, s, s.ok _ hm, s.val _ hm⟩
end Go.GrMath
