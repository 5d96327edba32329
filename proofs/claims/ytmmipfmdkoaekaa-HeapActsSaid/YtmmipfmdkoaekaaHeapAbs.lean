/- A part of the proof: HeapAbs. No condition. -/
import Derived.Test.YtmmipfmdkoaekaaHeapRun9
set_option linter.all false
set_option maxRecDepth 100000
namespace Go.Proofs.Ytmmipfmdkoaekaa.Code
open Go.Mini Go.HeapMath Go.HeapRun
set_option linter.all false
set_option maxHeartbeats 4000000
def upd {α : Type} (f : Nat → α) (v : Nat) (a : α) : Nat → α := fun u => if u = v then a else f u
/-- a heap of n variables: m of them in it, those of S; their activities F -/
def Hv (h : H) (b bL bP bA n m : Nat) (S : Nat → Bool) (F : Nat → Int) : Prop :=
  ∃ L P A, HeapAt h b bL bP bA L P A ∧ HSt n L P A ∧ L.length = m ∧ (∀ u, 1 ≤ u → u ≤ n → (S u = true ↔ gI P u ≠ -1)) ∧ (∀ u, 1 ≤ u → u ≤ n → gI A u = F u) ∧ ∀ x, 0 ≤ gI A x ∧ gI A x ≤ 1152921504606846976
theorem Hv.frame {h h' : H} {b bL bP bA n m : Nat} {S : Nat → Bool} {F : Nat → Int} {bs : List Nat} (a : Hv h b bL bP bA n m S F) (f : Keeps h h' bs) (h1 : b ∉ bs) (h2 : bL ∉ bs) (h3 : bP ∉ bs) (h4 : bA ∉ bs) : Hv h' b bL bP bA n m S F := by
  obtain ⟨L, P, A, a1, a2⟩ := a
  exact ⟨L, P, A, a1.frame f h1 h2 h3 h4, a2⟩
section
variable {h : H} {b bL bP bA n m : Nat} {S : Nat → Bool} {F : Nat → Int}
theorem hv_new {h : H} {n : Nat} (hn : n ≤ 100000) : Does EH 9 [.int .i64 n] h (.tup [.ptr (h.length + 1 + 1) 0 0 0, .int .i64 0]) fun h' => ∃ bL, Hv h' (h.length + 1 + 1) bL h.length (h.length + 1) n n (fun _ => true) (fun _ => 0) ∧ Keeps h h' [] ∧ h.length ≤ bL := by
  obtain ⟨r, w, h', k1, bL, L, P, A, a1, a2, a3, a4, a5, a6, a7⟩ := new_run (h := h) hn
  refine ⟨r, w, h', k1, bL, ⟨L, P, A, a1, a2, a3, fun u h1 h2 => ?_, fun u h1 h2 => a5 u, fun x => by rw [a5]; omega⟩, a6, a7⟩
  simp [a4 u h1 h2]
theorem hv_len (hv : Hv h b bL bP bA n m S F) : ∃ r, Calls' EH 13 [.ptr b 0 0 0] h ⟨.int .i64 (m : Nat), h, r, []⟩ := by
  obtain ⟨L, P, A, a1, a2, rfl, _⟩ := hv
  exact len_run a1
theorem hv_has (hv : Hv h b bL bP bA n m S F) {u : Nat} (h1 : 1 ≤ u) (h2 : u ≤ n) : ∃ r, Calls' EH 12 [.ptr b 0 0 0, .int .i64 u] h ⟨.bool (S u), h, r, []⟩ := by
  obtain ⟨L, P, A, a1, a2, a3, a4, a5, a6⟩ := hv
  refine has_yes a1 (by omega) (by rw [a2.pl]; omega) ?_
  have := a4 u h1 h2
  cases hs : S u
  · rw [hs] at this
    by_cases hp : gI P u = -1
    · simp [hp]
    · exact absurd (this.2 hp) (by simp)
  · have := this.1 hs
    simp [this]
theorem hv_has_no (hv : Hv h b bL bP bA n m S F) {v : Int} (h1 : ¬ (1 ≤ v ∧ v ≤ n)) : ∃ r, Calls' EH 12 [.ptr b 0 0 0, .int .i64 v] h ⟨.bool false, h, r, []⟩ := by
  obtain ⟨L, P, A, a1, a2, _⟩ := hv
  exact has_no a1 (by rw [a2.pl]; omega)
theorem hv_act (hv : Hv h b bL bP bA n m S F) {u : Nat} (h1 : 1 ≤ u) (h2 : u ≤ n) : ∃ r, Calls' EH 14 [.ptr b 0 0 0, .int .i64 u] h ⟨.int .i64 (F u), h, r, []⟩ := by
  obtain ⟨L, P, A, a1, a2, a3, a4, a5, a6⟩ := hv
  rw [← a5 u h1 h2]
  exact act_yes a1 (by omega) (by rw [a2.pl]; omega) (by rw [a2.al]; omega)
theorem hv_act_no (hv : Hv h b bL bP bA n m S F) {v : Int} (h1 : ¬ (1 ≤ v ∧ v ≤ n)) : ∃ r, Calls' EH 14 [.ptr b 0 0 0, .int .i64 v] h ⟨.int .i64 0, h, r, []⟩ := by
  obtain ⟨L, P, A, a1, a2, _⟩ := hv
  exact act_no a1 (by rw [a2.pl]; omega)
theorem hst_lt {L : List Nat} {P A : List Int} (a : HSt n L P A) : ∀ x, x < L.length → gN L x < A.length := fun x hx => by
  have := (a.at_.fst x hx).2.1
  have := a.al; omega
theorem hv_bump_no (hv : Hv h b bL bP bA n m S F) {v y : Int} (h1 : ¬ (1 ≤ v ∧ v ≤ n) ∨ y < 0) : ∃ r, Calls' EH 10 [.ptr b 0 0 0, .int .i64 v, .int .i64 y] h ⟨.bool false, h, r, []⟩ := by
  obtain ⟨L, P, A, a1, a2, _⟩ := hv
  exact bump_no a1 (by rw [a2.pl]; omega)
theorem hv_bump (hv : Hv h b bL bP bA n m S F) (hm : m ≤ 1000000) {u : Nat} {y : Int} (h1 : 1 ≤ u) (h2 : u ≤ n) (hy : 0 ≤ y) :
    Does EH 10 [.ptr b 0 0 0, .int .i64 u, .int .i64 y] h (.bool true) fun h' => Hv h' b bL bP bA n m S (upd F u (if 1152921504606846976 - F u < y then 1152921504606846976 else F u + y)) ∧ Keeps h h' [bL, bP, bA] := by
  obtain ⟨L, P, A, a1, a2, rfl, a4, a5, a6⟩ := hv
  have hPl := a2.pl
  have hAl := a2.al
  have e5 := a5 u h1 h2
  obtain ⟨d, hd⟩ : ∃ d, (if 1152921504606846976 - gI A u < y then 1152921504606846976 - gI A u else y) = d := ⟨_, rfl⟩
  have hF : (if 1152921504606846976 - F u < y then 1152921504606846976 else F u + y) = gI A u + d := by
    rw [← hd, ← e5]; split <;> omega
  have hd0 : 0 ≤ d ∧ gI A u + d ≤ 1152921504606846976 := by
    have := a6 u
    rw [← hd]; split <;> omega
  have eA : ∀ x, gI (A.set u (gI A u + d)) x = if x = u then gI A u + d else gI A x := fun x => gI_set (by omega) _ x
  have f1 : ∀ x, 1 ≤ x → x ≤ n → gI (A.set u (gI A u + d)) x = upd F u (if 1152921504606846976 - F u < y then 1152921504606846976 else F u + y) x := fun x hx1 hx2 => by
    rw [eA, hF]; unfold upd
    by_cases hx : x = u
    · rw [if_pos hx, if_pos hx]
    · rw [if_neg hx, if_neg hx]; exact a5 x hx1 hx2
  have f2 : ∀ x, 0 ≤ gI (A.set u (gI A u + d)) x ∧ gI (A.set u (gI A u + d)) x ≤ 1152921504606846976 := fun x => by
    rw [eA]
    by_cases hx : x = u
    · rw [if_pos hx]; have := a6 u; omega
    · rw [if_neg hx]; exact a6 x
  refine bump_yes a1 (by omega) (by omega) (by omega) hy (a6 u).1 (a6 u).2 hd rfl hm (hst_lt a2) ?_ ?_ ?_
  · intro hu h' b1 b2
    exact ⟨⟨L, P, _, b1, bump_out a2 h2 hu, rfl, a4, f1, f2⟩, b2⟩
  · intro i hu
    rcases a2.at_.snd u h1 h2 with h3 | ⟨i', hi', h3, h4⟩
    · rw [h3] at hu; omega
    · have : i' = i := by rw [h3] at hu; omega
      subst this
      refine ⟨hi', h4, fun h' b1 b2 => ?_⟩
      have hdn := bump_in (k := i') a2 hi' h4 (a := gI A u + d) (by omega) (Nat.le_refl _)
      exact ⟨⟨_, _, _, b1, hdn.hst (by simp [hAl]), hdn.ll, fun x hx1 hx2 => by rw [a4 x hx1 hx2]; exact not_congr (hdn.same x).symm, f1, f2⟩, b2⟩
  · rcases a2.at_.snd u h1 h2 with h3 | ⟨i', hi', h3, h4⟩
    · exact .inl h3
    · exact .inr ⟨i', h3⟩
theorem hv_pos (hv : Hv h b bL bP bA n m S F) {u : Nat} (h1 : 1 ≤ u) (h2 : u ≤ n) (hs : S u = true) : 0 < m := by
  obtain ⟨L, P, A, a1, a2, rfl, a4, a5, a6⟩ := hv
  exact (a2.best h1 h2 ((a4 u h1 h2).1 hs)).1
theorem hv_next_no (hv : Hv h b bL bP bA n 0 S F) : ∃ r, Calls' EH 11 [.ptr b 0 0 0] h ⟨.tup [.int .i64 0, .bool false], h, r, []⟩ := by
  obtain ⟨L, P, A, a1, a2, a3, _⟩ := hv
  exact next_no a1 (List.length_eq_zero_iff.1 a3)
theorem hv_next (hv : Hv h b bL bP bA n m S F) (hm0 : 0 < m) (hm : m ≤ 1000000) :
    ∃ v, 1 ≤ v ∧ v ≤ n ∧ S v = true ∧ (∀ u, 1 ≤ u → u ≤ n → S u = true → ¬ Ah F u v) ∧ Does EH 11 [.ptr b 0 0 0] h (.tup [.int .i64 (v : Nat), .bool true]) fun h' => Hv h' b bL bP bA n (m - 1) (upd S v false) F ∧ Keeps h h' [b, bL, bP] := by
  obtain ⟨L, P, A, a1, a2, rfl, a4, a5, a6⟩ := hv
  have hPl := a2.pl
  have hAl := a2.al
  obtain ⟨c1, c2, c3⟩ := a2.at_.fst 0 hm0
  have hS : ∀ (P' : List Int), (∀ u, gI P' u = -1 ↔ put (gI P) (gN L 0) (-1) u = -1) → ∀ u, 1 ≤ u → u ≤ n → (upd S (gN L 0) false u = true ↔ gI P' u ≠ -1) := by
    intro P' hP' u hu1 hu2
    have := hP' u
    unfold put at this
    unfold upd
    by_cases hu : u = gN L 0
    · rw [if_pos hu]; rw [if_pos hu] at this
      simp [this.2 rfl]
    · rw [if_neg hu]; rw [if_neg hu] at this
      rw [a4 u hu1 hu2]; exact not_congr this.symm
  refine ⟨gN L 0, c1, c2, (a4 _ c1 c2).2 (by rw [c3]; omega), fun u h1 h2 hs => ?_, ?_⟩
  · have := (a2.best h1 h2 ((a4 u h1 h2).1 hs)).2
    unfold Ah at this ⊢
    rw [a5 u h1 h2, a5 _ c1 c2] at this; exact this
  · refine next_yes (k := L.length) a1 hm0 hm (by omega) (hst_lt a2) (by omega) ?_ ?_
    · intro hl h' b1 b2
      refine ⟨⟨_, _, _, b1, next_last a2 hl, by simp, ?_, a5, a6⟩, b2⟩
      refine hS _ fun u => ?_
      rw [gI_set (by omega)]; rfl
    · intro hl h' b1 b2
      have hdn := next_spec (k := L.length) a2 hl (by omega)
      exact ⟨⟨_, _, _, b1, hdn.hst hAl, hdn.ll, hS _ hdn.same, a5, a6⟩, b2⟩
theorem hv_put_no (hv : Hv h b bL bP bA n m S F) {v : Int} (h1 : ¬ (1 ≤ v ∧ v ≤ n) ∨ ∃ u : Nat, v = u ∧ 1 ≤ u ∧ u ≤ n ∧ S u = true) : ∃ r, Calls' EH 15 [.ptr b 0 0 0, .int .i64 v] h ⟨.bool false, h, r, []⟩ := by
  obtain ⟨L, P, A, a1, a2, a3, a4, a5, a6⟩ := hv
  have hPl := a2.pl
  refine put_no a1 ?_
  rcases h1 with h1 | ⟨u, e, u1, u2, hs⟩
  · left; omega
  · right; exact ⟨u, e, by omega, by omega, (a4 u u1 u2).1 hs⟩
theorem hv_put (hv : Hv h b bL bP bA n m S F) (hm : m < 1000000) {u : Nat} (h1 : 1 ≤ u) (h2 : u ≤ n) (hs : S u = false) :
    Does EH 15 [.ptr b 0 0 0, .int .i64 u] h (.bool true) fun h' => Hv h' b bL bP bA n (m + 1) (upd S u true) F ∧ Keeps h h' [b, bL, bP] := by
  obtain ⟨L, P, A, a1, a2, rfl, a4, a5, a6⟩ := hv
  have hPl := a2.pl
  have hAl := a2.al
  have hu : gI P u = -1 := by
    by_cases hp : gI P u = -1
    · exact hp
    · exact absurd ((a4 u h1 h2).2 hp) (by simp [hs])
  refine put_yes (k := L.length) a1 (by omega) (by omega) hu hm (by omega) (hst_lt a2) (Nat.le_refl _) ?_
  intro h' b1 b2
  have hdn := put_spec (k := L.length) a2 h1 h2 hu (Nat.le_refl _)
  refine ⟨⟨_, _, _, b1, hdn.hst hAl, hdn.ll, fun x hx1 hx2 => ?_, a5, a6⟩, b2⟩
  have := hdn.same x
  unfold put at this
  unfold upd
  by_cases hx : x = u
  · rw [if_pos hx]; rw [if_pos hx] at this
    simp; intro e; have := this.1 e; omega
  · rw [if_neg hx]; rw [if_neg hx] at this
    rw [a4 x hx1 hx2]; exact not_congr this.symm
theorem hv_halve (hv : Hv h b bL bP bA n m S F) (hm : m ≤ 1000000) (hn : n ≤ 1000000) :
    Does EH 16 [.ptr b 0 0 0] h (.tup []) fun h' => Hv h' b bL bP bA n m S (fun u => (F u).tdiv 2) ∧ Keeps h h' [bL, bP, bA] := by
  obtain ⟨L, P, A, a1, a2, rfl, a4, a5, a6⟩ := hv
  obtain ⟨r, w, h', k1, L', P', A', b1, b2, b3, b4, b5, b6⟩ := halve_run a1 a2 hm hn a6
  refine ⟨r, w, h', k1, ⟨L', P', A', b1, b2, b3, fun u h1 h2 => by rw [a4 u h1 h2]; exact not_congr (b4 u).symm, fun u h1 h2 => by rw [b5, a5 u h1 h2], fun x => ?_⟩, b6⟩
  rw [b5]
  have := a6 x
  exact ⟨Int.tdiv_nonneg this.1 (by omega), by rw [Int.tdiv_eq_ediv_of_nonneg this.1]; omega⟩
theorem awake8 {h : H} : ∃ r, Calls' EH 8 [] h ⟨.bool true, h, r, []⟩ := ⟨_, calls_pure (by rfl) (by rfl) (by rfl) (by rfl) (pures_memo (by rfl)) (by rfl)⟩
end
end Go.Proofs.Ytmmipfmdkoaekaa.Code
