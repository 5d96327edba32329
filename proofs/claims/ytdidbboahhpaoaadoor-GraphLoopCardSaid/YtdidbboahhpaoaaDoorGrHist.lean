/- A part of the proof: GrHist. No condition. -/
import Derived.Test.YtdidbboahhpaoaaDoorGrOnce2
set_option linter.all false
set_option maxRecDepth 100000
namespace Go.Proofs.YtdidbboahhpaoaaDoor.Code
open Go.Mini Go.GrMath Go.HeapRun Go.HeapMath
set_option linter.all false
def cap (x : Int) : Nat := (if x < 0 then 0 else x).toNat
theorem cap_eq (x : Int) : (if x < 0 then 0 else x) = ((cap x : Nat) : Int) := by unfold cap; split <;> omega
theorem gI_mem {E : List Int} {i : Nat} (h : i < E.length) : gI E i ∈ E := List.mem_of_getElem? (gI_get h)
theorem gI_app {E : List Int} {x : Int} {i : Nat} (h : i < E.length) : gI (E ++ [x]) i = gI E i := by
  have a := gI_get h
  have b := gI_get (L := E ++ [x]) (i := i) (by simp; omega)
  rw [List.getElem?_append_left h, a] at b
  exact (Option.some.inj b).symm
theorem gI_last {E : List Int} {x : Int} : gI (E ++ [x]) E.length = x := by
  have b := gI_get (L := E ++ [x]) (i := E.length) (by simp)
  rw [List.getElem?_append_right (Nat.le_refl _)] at b
  simpa using b.symm
theorem edgeL_range {E : List Int} {n : Nat} (hE : ∀ e ∈ E, 0 ≤ e ∧ e < 2 * (n : Int)) (h0 : 0 < E.length) (hn : n < 1000000) (k : Nat) : 0 ≤ edgeL E k ∧ edgeL E k < 2 * (n : Int) := by
  have h1 := hE _ (gI_mem (Nat.mod_lt (k / 2) h0))
  unfold edgeL
  split
  · exact notG_range hn h1.1 h1.2
  · exact h1
structure Hist (A B : Nat → Int) (i : Nat) (E : List Int) (L : List (Int × Int)) (K : Ky) : Prop where
  len : E.length = 3 + i
  nodes : L.length ≤ 3 + i
  pos : 0 < L.length
  ok : KOk L.length K
  rng : ∀ e ∈ E, 0 ≤ e ∧ e < 2 * (L.length : Int)
  set : ∀ j, j < i → Set' K (edgeL (E.take (3 + j)) (cap (A j))) (edgeL (E.take (3 + j)) (cap (B j))) (gI E (3 + j))
  beg : E.take 3 = [0, 2, 4]
theorem Hist.step {A B : Nat → Int} {i : Nat} {E : List Int} {L : List (Int × Int)} {K : Ky} (a : Hist A B i E L K) (hi : i ≤ 1000) :
    edgeG L.length (edgeL E (cap (A i))) = edgeL E (cap (A i)) ∧ edgeG L.length (edgeL E (cap (B i))) = edgeL E (cap (B i)) ∧
    Hist A B (i + 1) (E ++ [(andG L K (edgeL E (cap (A i))) (edgeL E (cap (B i)))).1]) (andG L K (edgeL E (cap (A i))) (edgeL E (cap (B i)))).2.1 (andG L K (edgeL E (cap (A i))) (edgeL E (cap (B i)))).2.2 := by
  obtain ⟨h1, h2, h3, h4, h5, h6, h7⟩ := a
  have hx := edgeL_range h5 (by omega) (by omega) (cap (A i))
  have hy := edgeL_range h5 (by omega) (by omega) (cap (B i))
  refine ⟨edgeG_in hx.1 hx.2, edgeG_in hy.1 hy.2, ?_⟩
  have hs := andG_set L K (edgeL E (cap (A i))) (edgeL E (cap (B i)))
  have ho := andG_ok h4 h3 hx hy
  obtain ⟨p, q, g1, g2, g3⟩ := andG_grow L K (edgeL E (cap (A i))) (edgeL E (cap (B i)))
  generalize hz : andG L K (edgeL E (cap (A i))) (edgeL E (cap (B i))) = z at *
  obtain ⟨e, L', K'⟩ := z
  simp only at *
  subst g1 g2
  have hE3 : E.take (3 + i) = E := List.take_of_length_le (by omega)
  refine ⟨by simp; omega, by simp; omega, by simp; omega, ho.1, fun x hx => ?_, fun j hj => ?_, ?_⟩
  · rcases List.mem_append.1 hx with hx | hx
    · have := h5 x hx; simp; omega
    · simp at hx; subst hx; exact ho.2
  · by_cases hji : j = i
    · subst hji
      have e1 : (E ++ [e]).take (3 + j) = E := by rw [List.take_append_of_le_length (by omega)]; exact hE3
      have e2 : gI (E ++ [e]) (3 + j) = e := by rw [← h1]; exact gI_last
      rw [e1, e2]; exact hs
    · have e1 : (E ++ [e]).take (3 + j) = E.take (3 + j) := List.take_append_of_le_length (by omega)
      have e2 : gI (E ++ [e]) (3 + j) = gI E (3 + j) := gI_app (by omega)
      rw [e1, e2]
      exact set_app (h6 j (by omega)) q
  · rw [List.take_append_of_le_length (by omega)]; exact h7
theorem Hist.again {A B : Nat → Int} {n i : Nat} {E : List Int} {L : List (Int × Int)} {K : Ky} (a : Hist A B n E L K) (hn : n ≤ 1000) (hi : i < n) :
    edgeG L.length (edgeL (E.take (3 + i)) (cap (A i))) = edgeL (E.take (3 + i)) (cap (A i)) ∧ edgeG L.length (edgeL (E.take (3 + i)) (cap (B i))) = edgeL (E.take (3 + i)) (cap (B i)) ∧
    andG L K (edgeL (E.take (3 + i)) (cap (B i))) (edgeL (E.take (3 + i)) (cap (A i))) = (gI E (3 + i), L, K) ∧ E.take (3 + i) ++ [gI E (3 + i)] = E.take (3 + i + 1) := by
  obtain ⟨h1, h2, h3, h4, h5, h6, h7⟩ := a
  have h8 : ∀ e ∈ E.take (3 + i), 0 ≤ e ∧ e < 2 * (L.length : Int) := fun e he => h5 e (List.mem_of_mem_take he)
  have hl : (E.take (3 + i)).length = 3 + i := by simp; omega
  have hx := edgeL_range h8 (by omega) (by omega) (cap (A i))
  have hy := edgeL_range h8 (by omega) (by omega) (cap (B i))
  refine ⟨edgeG_in hx.1 hx.2, edgeG_in hy.1 hy.2, ?_, ?_⟩
  · rw [andG_comm]; exact h6 i hi L
  · have := gI_get (L := E) (i := 3 + i) (by omega)
    rw [List.take_succ, this]; rfl
end Go.Proofs.YtdidbboahhpaoaaDoor.Code
