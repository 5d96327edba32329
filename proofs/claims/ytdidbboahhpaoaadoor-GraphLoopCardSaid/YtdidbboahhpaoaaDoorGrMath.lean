/- A part of the proof: GrMath. No condition. -/
import Derived.Test.YtdidbboahhpaoaaDoorHeapD
set_option linter.all false
set_option maxRecDepth 100000
namespace Go.GrMath
open Go.Mini
set_option linter.all false
def notG (e : Int) : Int := wrapF .i64 (BitVec.ofInt 64 e ^^^ BitVec.ofInt 64 1).toNat
theorem xor_one (n : Nat) : n ^^^ 1 = if n % 2 = 0 then n + 1 else n - 1 := by
  have h1 : (n ^^^ 1) / 2 = n / 2 := by rw [Nat.xor_div_two]; simp
  have h2 : (n ^^^ 1) % 2 = (n + 1) % 2 := by
    have a := Nat.testBit_xor n 1 0
    simp only [Nat.testBit_zero] at a
    by_cases hn : n % 2 = 1
    · have : decide ((n ^^^ 1) % 2 = 1) = false := by rw [a]; simp [hn]
      have := of_decide_eq_false this
      omega
    · have : decide ((n ^^^ 1) % 2 = 1) = true := by rw [a]; simp [hn]
      have := of_decide_eq_true this
      omega
  split <;> omega
theorem notG_nat {n : Nat} (h : n < 4611686018427387904) : notG (n : Int) = if n % 2 = 0 then ((n + 1 : Nat) : Int) else ((n - 1 : Nat) : Int) := by
  have e : (BitVec.ofInt 64 (n : Int) ^^^ BitVec.ofInt 64 1).toNat = n ^^^ 1 := by
    rw [BitVec.toNat_xor]
    have a1 : (BitVec.ofInt 64 (n : Int)).toNat = n := by simp; omega
    have a2 : (BitVec.ofInt 64 1).toNat = 1 := by decide
    rw [a1, a2]
  unfold notG
  rw [e, xor_one]
  split
  · exact wrapF_i64 (by omega) (by omega)
  · exact wrapF_i64 (by omega) (by omega)
theorem notG_range {n : Nat} {e : Int} (hn : n < 1000000) (h0 : 0 ≤ e) (h1 : e < 2 * n) : 0 ≤ notG e ∧ notG e < 2 * n := by
  obtain ⟨k, rfl⟩ : ∃ k : Nat, e = (k : Int) := ⟨e.toNat, by omega⟩
  rw [notG_nat (by omega)]
  split <;> omega
/-- one of the graph's n nodes, or false -/
def edgeG (n : Nat) (e : Int) : Int := if e < 0 ∨ (n : Int) ≤ e.tdiv 2 then 0 else e
theorem edgeG_in {n : Nat} {e : Int} (h0 : 0 ≤ e) (h1 : e < 2 * n) : edgeG n e = e := by
  unfold edgeG
  rw [if_neg]
  rw [Int.tdiv_eq_ediv_of_nonneg h0]; omega
abbrev Ky := List ((Int × Int) × Int)
def ent (p : (Int × Int) × Int) : List (IntKind × Int) × (IntKind × Int) := ([(.i64, p.1.1), (.i64, p.1.2)], (.i64, p.2))
def lookK (a b : Int) : Ky → Option Int
  | [] => none
  | p :: K => if p.1.1 = a ∧ p.1.2 = b then some p.2 else lookK a b K
theorem lookE_ent (a b : Int) : ∀ K : Ky, lookE [.i, .i] [(.i64, a), (.i64, b)] (K.map ent) = some ((lookK a b K).map fun e => (.i64, e))
  | [] => rfl
  | p :: K => by
    have ih := lookE_ent a b K
    have h1 : eqCs [.i, .i] ([(IntKind.i64, a), (.i64, b)].map toV) ((ent p).1.map toV) = some (decide (p.1.1 = a ∧ p.1.2 = b)) := by
      simp only [ent, List.map_cons, List.map_nil, toV, eqCs, eqC, kindEq, cond_true, beqI]
      by_cases h : a = p.1.1
      · by_cases h' : b = p.1.2
        · simp [h, h']
        · simp [h, h']; intro e; exact h' e.symm
      · simp [h]; intro e; exact absurd e.symm h
    by_cases h : p.1.1 = a ∧ p.1.2 = b
    · rw [decide_eq_true h] at h1
      rw [List.map_cons]
      unfold lookE
      rw [h1]
      simp only [lookK, if_pos h]; rfl
    · rw [decide_eq_false h] at h1
      rw [List.map_cons]
      unfold lookE
      rw [h1]
      simp only [lookK, if_neg h]; exact ih
theorem lookK_app {a b e : Int} {x : Ky} : ∀ {K : Ky}, lookK a b K = some e → lookK a b (K ++ x) = some e
  | [], h => by cases h
  | p :: K, h => by
    simp only [List.cons_append, lookK] at h ⊢
    split at h
    · rename_i hc; rw [if_pos hc]; exact h
    · rename_i hc; rw [if_neg hc]; exact lookK_app h
theorem lookK_new {a b e : Int} : ∀ {K : Ky}, lookK a b K = none → lookK a b (K ++ [((a, b), e)]) = some e
  | [], h => by simp [lookK]
  | p :: K, h => by
    simp only [List.cons_append, lookK] at h ⊢
    split at h
    · cases h
    · rename_i hc; rw [if_neg hc]; exact lookK_new h
def lo (a b : Int) : Int := if b < a then b else a
def hi (a b : Int) : Int := if b < a then a else b
/-- an and, of edges of the graph, the less one first -/
def andP (L : List (Int × Int)) (K : Ky) (p q : Int) : Int × List (Int × Int) × Ky :=
  if p = 0 ∨ p = notG q then (0, L, K)
  else if p = 1 ∨ p = q then (q, L, K)
  else match lookK p q K with
    | some e => (e, L, K)
    | none => (2 * (L.length : Int), L ++ [(p, q)], K ++ [((p, q), 2 * (L.length : Int))])
def andG (L : List (Int × Int)) (K : Ky) (a b : Int) : Int × List (Int × Int) × Ky := andP L K (lo a b) (hi a b)
theorem lo_comm (a b : Int) : lo a b = lo b a := by unfold lo; split <;> split <;> omega
theorem hi_comm (a b : Int) : hi a b = hi b a := by unfold hi; split <;> split <;> omega
theorem andG_comm (L : List (Int × Int)) (K : Ky) (a b : Int) : andG L K a b = andG L K b a := by unfold andG; rw [lo_comm a b, hi_comm a b]
/-- what has been laid -/
def Set' (K : Ky) (a b e : Int) : Prop := ∀ L, andG L K a b = (e, L, K)
theorem andG_set (L : List (Int × Int)) (K : Ky) (a b : Int) : Set' (andG L K a b).2.2 a b (andG L K a b).1 := by
  intro L'
  unfold andG andP
  by_cases h1 : lo a b = 0 ∨ lo a b = notG (hi a b)
  · simp only [if_pos h1]
  · simp only [if_neg h1]
    by_cases h2 : lo a b = 1 ∨ lo a b = hi a b
    · simp only [if_pos h2]
    · simp only [if_neg h2]
      rcases hq : lookK (lo a b) (hi a b) K with _ | e
      · simp only [lookK_new hq]
      · simp only [hq]
theorem set_app {K : Ky} {a b e : Int} (h : Set' K a b e) (x : Ky) : Set' (K ++ x) a b e := by
  intro L
  have := h L
  unfold andG andP at this ⊢
  by_cases h1 : lo a b = 0 ∨ lo a b = notG (hi a b)
  · simp only [if_pos h1] at this ⊢
    rw [(Prod.mk.inj this).1]
  · simp only [if_neg h1] at this ⊢
    by_cases h2 : lo a b = 1 ∨ lo a b = hi a b
    · simp only [if_pos h2] at this ⊢
      rw [(Prod.mk.inj this).1]
    · simp only [if_neg h2] at this ⊢
      rcases hq : lookK (lo a b) (hi a b) K with _ | e'
      · rw [hq] at this
        simp only [Prod.mk.injEq] at this
        have h3 := congrArg List.length this.2.1
        simp at h3
      · rw [hq] at this
        rw [lookK_app hq]
        simp only [Prod.mk.injEq] at this
        rw [this.1]
theorem andG_grow (L : List (Int × Int)) (K : Ky) (a b : Int) : ∃ x y, (andG L K a b).2.1 = L ++ x ∧ (andG L K a b).2.2 = K ++ y ∧ x.length ≤ 1 := by
  unfold andG andP
  split
  · exact ⟨[], [], by simp, by simp, by simp⟩
  · split
    · exact ⟨[], [], by simp, by simp, by simp⟩
    · split
      · exact ⟨[], [], by simp, by simp, by simp⟩
      · exact ⟨_, _, rfl, rfl, by simp⟩
/-- all that the map holds are edges of the graph -/
def KOk (n : Nat) (K : Ky) : Prop := ∀ p ∈ K, 0 ≤ p.2 ∧ p.2 < 2 * n
theorem lookK_mem {a b e : Int} : ∀ {K : Ky}, lookK a b K = some e → ∃ p ∈ K, p.2 = e
  | [], h => by cases h
  | p :: K, h => by
    simp only [lookK] at h
    split at h
    · cases h; exact ⟨p, by simp, rfl⟩
    · obtain ⟨q, h1, h2⟩ := lookK_mem h; exact ⟨q, by simp [h1], h2⟩
theorem andG_ok {L : List (Int × Int)} {K : Ky} {a b : Int} (hK : KOk L.length K) (hn : 0 < L.length) (ha : 0 ≤ a ∧ a < 2 * L.length) (hb : 0 ≤ b ∧ b < 2 * L.length) :
    KOk (andG L K a b).2.1.length (andG L K a b).2.2 ∧ 0 ≤ (andG L K a b).1 ∧ (andG L K a b).1 < 2 * (andG L K a b).2.1.length := by
  have hhi : 0 ≤ hi a b ∧ hi a b < 2 * L.length := by unfold hi; split <;> omega
  unfold andG andP
  split
  · exact ⟨hK, by simp, by simp; omega⟩
  · split
    · exact ⟨hK, hhi⟩
    · split
      · rename_i e he
        obtain ⟨p, h1, h2⟩ := lookK_mem he
        have := hK p h1
        exact ⟨hK, by simp only; omega, by simp only; omega⟩
      · refine ⟨fun p hp => ?_, by simp only; omega, by simp; omega⟩
        simp only [List.length_append, List.length_cons, List.length_nil]
        rcases List.mem_append.1 hp with hp | hp
        · have := hK p hp; omega
        · simp at hp; subst hp; simp only; omega
end Go.GrMath
