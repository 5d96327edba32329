/- A part of the proof: HeapPair. No condition. -/
import Derived.Test.YtmmipfmdkoaekaaHeapRunW
import Derived.Test.YtmmipfmdkoaekaaHeapRef3
set_option linter.all false
set_option maxRecDepth 100000
namespace Go.Proofs.Ytmmipfmdkoaekaa.Code
open Go.Mini Go.HeapMath Go.HeapRun
set_option linter.all false
set_option maxHeartbeats 4000000
/-- the document's heap of n variables -/
def Rv (h : H) (b bI bJ n m : Nat) (S : Nat → Bool) (F : Nat → Int) : Prop :=
  ∃ T A, RefAt h b bI bJ T A ∧ T.length = n ∧ A.length = n ∧ m = cn T n ∧ (∀ u, 1 ≤ u → u ≤ n → gB T (u - 1) = S u) ∧ (∀ u, 1 ≤ u → u ≤ n → gI A (u - 1) = F u) ∧ ∀ x, 0 ≤ gI A x ∧ gI A x ≤ 1152921504606846976
theorem Rv.frame {h h' : H} {b bI bJ n m : Nat} {S : Nat → Bool} {F : Nat → Int} {bs : List Nat} (a : Rv h b bI bJ n m S F) (f : Keeps h h' bs) (h1 : b ∉ bs) (h2 : bI ∉ bs) (h3 : bJ ∉ bs) : Rv h' b bI bJ n m S F := by
  obtain ⟨T, A, a1, a2⟩ := a
  exact ⟨T, A, a1.frame f h1 h2 h3, a2⟩
def Dj (xs ys : List Nat) : Prop := ∀ x ∈ xs, x ∉ ys
/-- both -/
def Pr (h : H) (b bL bP bA d bI bJ n : Nat) : Prop := Dj [b, bL, bP, bA] [d, bI, bJ] ∧ ∃ m S F, Hv h b bL bP bA n m S F ∧ Rv h d bI bJ n m S F
section
variable {h h' : H} {b bL bP bA d bI bJ n : Nat}
theorem Pr.push (a : Pr h b bL bP bA d bI bJ n) (f : Keeps h h' []) : Pr h' b bL bP bA d bI bJ n := by
  obtain ⟨a0, m, S, F, a1, a2⟩ := a
  exact ⟨a0, m, S, F, a1.frame f (by simp) (by simp) (by simp) (by simp), a2.frame f (by simp) (by simp) (by simp)⟩
theorem hv_lt {m : Nat} {S : Nat → Bool} {F : Nat → Int} (hv : Hv h b bL bP bA n m S F) (hn : 1 ≤ n) : ∀ x ∈ [b, bL, bP, bA], x < h.length := by
  obtain ⟨L, P, A, ⟨⟨lv, pv, av, p1, p2, p3, p4, p5⟩, _⟩, q2, q3, _⟩ := hv
  have p1 := (List.getElem?_eq_some_iff.1 p1).1
  have p3 := p3.lt
  have p4 := p4.lt
  have p2 : bL < h.length := by
    rcases p2 with ⟨_, _, p2⟩ | p2
    · have := q2.pl; omega
    · exact p2.lt
  intro x hx
  simp only [List.mem_cons, List.not_mem_nil, or_false] at hx
  rcases hx with rfl | rfl | rfl | rfl <;> assumption
theorem dj_hv (a0 : Dj [b, bL, bP, bA] [d, bI, bJ]) {x : Nat} (hx : x ∈ [d, bI, bJ]) : b ≠ x ∧ bL ≠ x ∧ bP ≠ x ∧ bA ≠ x := by
  refine ⟨?_, ?_, ?_, ?_⟩ <;> (rintro rfl; exact a0 _ (by simp) hx)
theorem hv_ref {h h' : H} {m x : Nat} {S : Nat → Bool} {F : Nat → Int} (a0 : Dj [b, bL, bP, bA] [d, bI, bJ]) (hv : Hv h b bL bP bA n m S F) (k : Keeps h h' [x]) (hx : x ∈ [d, bI, bJ]) : Hv h' b bL bP bA n m S F := by
  obtain ⟨e1, e2, e3, e4⟩ := dj_hv a0 hx
  exact hv.frame k (by simpa using e1) (by simpa using e2) (by simpa using e3) (by simpa using e4)
theorem rv_heap {h h' : H} {m : Nat} {S : Nat → Bool} {F : Nat → Int} {bs : List Nat} (a0 : Dj [b, bL, bP, bA] [d, bI, bJ]) (a : Rv h d bI bJ n m S F) (k : Keeps h h' bs) (hx : ∀ x ∈ bs, x ∈ [b, bL, bP, bA]) : Rv h' d bI bJ n m S F :=
  a.frame k (fun hc => a0 _ (hx _ hc) (by simp)) (fun hc => a0 _ (hx _ hc) (by simp)) (fun hc => a0 _ (hx _ hc) (by simp))
theorem ref_heap {h h' : H} {T : List Bool} {A : List Int} {bs : List Nat} (a0 : Dj [b, bL, bP, bA] [d, bI, bJ]) (a : RefAt h d bI bJ T A) (k : Keeps h h' bs) (hx : ∀ x ∈ bs, x ∈ [b, bL, bP, bA]) : RefAt h' d bI bJ T A :=
  a.frame k (fun hc => a0 _ (hx _ hc) (by simp)) (fun hc => a0 _ (hx _ hc) (by simp)) (fun hc => a0 _ (hx _ hc) (by simp))
theorem put_step {h0 : H} (a' : Pr h0 b bL bP bA d bI bJ n) (kk : Keeps h0 h []) (hn : n ≤ 60) (v : Int) : ∃ c bs, DoesW EH 15 [.ptr b 0 0 0, .int .i64 v] h (.bool c) bs (fun h1 => Keeps h h1 bs ∧ Does EH 18 [.ptr d 0 0 0, .int .i64 v] h1 (.bool c) fun h2 => Pr h2 b bL bP bA d bI bJ n) ∧ ∀ x ∈ bs, x < h0.length := by
  have a := a'.push kk
  have lt0 : 1 ≤ n → ∀ x ∈ [b, bL, bP, bA], x < h0.length := fun hn1 => by
    obtain ⟨_, m, S, F, a1, _⟩ := a'
    exact hv_lt a1 hn1
  obtain ⟨a0, m, S, F, a1, ⟨T, A, r1, r2, r3, r4, r5, r6, r7⟩⟩ := a
  by_cases h1 : 1 ≤ v ∧ v ≤ n
  · obtain ⟨u, rfl⟩ : ∃ u : Nat, v = u := ⟨v.toNat, by omega⟩
    have u1 : 1 ≤ u := by omega
    have u2 : u ≤ n := by omega
    cases hs : S u
    · have hm : m < 1000000 := by rw [r4]; have := cn_le (T := T) n; omega
      obtain ⟨r, w, h', k1, k2, k3, k4⟩ := hv_putW a1 hm u1 u2 hs
      refine ⟨true, [b, bL, bP, bA], ⟨r, w, h', k1, k2, k4.mono (by simp), ?_⟩, lt0 (by omega)⟩
      have f1 : RefAt h' d bI bJ T A := ref_heap a0 r1 k4 (by simp)
      have hg : gB T (u - 1) = false := by rw [r5 u u1 u2, hs]
      obtain ⟨r', w', h2, q1, q2, q3⟩ := rput_yes f1 u1 (by omega) (by omega) hg
      refine ⟨r', w', h2, q1, a0, m + 1, upd S u true, F, hv_ref a0 k3 q3 (by simp), T.set (u - 1) true, A, q2, by simpa using r2, r3, ?_, ?_, r6, r7⟩
      · have := cn_set (T := T) (i := u - 1) (by omega) true n
        rw [if_neg (by simp [hg]), if_pos ⟨by omega, rfl⟩] at this
        omega
      · intro x x1 x2
        rw [gB_set (by omega)]
        unfold upd
        by_cases hx : x = u
        · rw [if_pos (by omega), if_pos hx]
        · rw [if_neg (by omega), if_neg hx]; exact r5 x x1 x2
    · refine ⟨false, [], doesW_read (hv_put_no a1 (.inr ⟨u, rfl, u1, u2, hs⟩)) ⟨Keeps.refl _ _, ?_⟩, by simp⟩
      exact does_read (rput_no r1 (by omega) (.inr ⟨u, rfl, u1, by omega, by rw [r5 u u1 u2, hs]⟩)) ⟨a0, m, S, F, a1, T, A, r1, r2, r3, r4, r5, r6, r7⟩
  · refine ⟨false, [], doesW_read (hv_put_no a1 (.inl h1)) ⟨Keeps.refl _ _, ?_⟩, by simp⟩
    exact does_read (rput_no r1 (by omega) (.inl (by rw [r2]; exact h1))) ⟨a0, m, S, F, a1, T, A, r1, r2, r3, r4, r5, r6, r7⟩
theorem bump_step {h0 : H} (a' : Pr h0 b bL bP bA d bI bJ n) (kk : Keeps h0 h []) (hn : n ≤ 60) (v y : Int) : ∃ c bs, DoesW EH 10 [.ptr b 0 0 0, .int .i64 v, .int .i64 y] h (.bool c) bs (fun h1 => Keeps h h1 bs ∧ Does EH 20 [.ptr d 0 0 0, .int .i64 v, .int .i64 y] h1 (.bool c) fun h2 => Pr h2 b bL bP bA d bI bJ n) ∧ ∀ x ∈ bs, x < h0.length := by
  have a := a'.push kk
  have lt0 : 1 ≤ n → ∀ x ∈ [b, bL, bP, bA], x < h0.length := fun hn1 => by
    obtain ⟨_, m, S, F, a1, _⟩ := a'
    exact hv_lt a1 hn1
  obtain ⟨a0, m, S, F, a1, ⟨T, A, r1, r2, r3, r4, r5, r6, r7⟩⟩ := a
  by_cases h1 : ¬ (1 ≤ v ∧ v ≤ n) ∨ y < 0
  · refine ⟨false, [], doesW_read (hv_bump_no a1 h1) ⟨Keeps.refl _ _, ?_⟩, by simp⟩
    exact does_read (rbump_no r1 (by rw [r2]; exact h1)) ⟨a0, m, S, F, a1, T, A, r1, r2, r3, r4, r5, r6, r7⟩
  · obtain ⟨u, rfl⟩ : ∃ u : Nat, v = u := ⟨v.toNat, by omega⟩
    have u1 : 1 ≤ u := by omega
    have u2 : u ≤ n := by omega
    have hy : 0 ≤ y := by omega
    have hm : m ≤ 1000000 := by rw [r4]; have := cn_le (T := T) n; omega
    obtain ⟨r, w, h', k1, k2, k3, k4⟩ := hv_bumpW a1 hm u1 u2 hy
    refine ⟨true, [b, bL, bP, bA], ⟨r, w, h', k1, k2, k4.mono (by simp), ?_⟩, lt0 (by omega)⟩
    have f1 : RefAt h' d bI bJ T A := ref_heap a0 r1 k4 (by simp)
    obtain ⟨r', w', h2, q1, q2, q3⟩ := rbump_yes f1 u1 (by omega) (by omega) (by omega) hy (r7 (u - 1))
    refine ⟨r', w', h2, q1, a0, m, S, _, hv_ref a0 k3 q3 (by simp), T, _, q2, r2, by simpa using r3, r4, r5, ?_, ?_⟩
    · intro x x1 x2
      rw [gI_set (by omega)]
      unfold upd
      by_cases hx : x = u
      · rw [if_pos (by omega), if_pos hx, r6 u u1 u2]
      · rw [if_neg (by omega), if_neg hx]; exact r6 x x1 x2
    · intro x
      rw [gI_set (by omega)]
      have e1 := r7 (u - 1)
      have e2 := r7 x
      split
      · split <;> omega
      · exact e2
theorem cn_zero {T : List Bool} : ∀ {k}, cn T k = 0 → ∀ j, j < k → gB T j = false
  | 0, _, j, hj => by omega
  | k + 1, h, j, hj => by
    simp only [cn] at h
    by_cases he : j = k
    · subst he
      cases hg : gB T j
      · rfl
      · rw [hg] at h; simp at h
    · exact cn_zero (T := T) (k := k) (by omega) j (by omega)
theorem cn_pos {T : List Bool} {k j : Nat} (hj : j < k) (hg : gB T j = true) : 0 < cn T k := by
  rcases Nat.eq_zero_or_pos (cn T k) with h | h
  · rw [cn_zero h j hj] at hg; cases hg
  · exact h
theorem next_step (a : Pr h b bL bP bA d bI bJ n) (hn : n ≤ 60) : ∃ v c, Does EH 11 [.ptr b 0 0 0] h (.tup [.int .i64 v, .bool c]) fun h1 => Does EH 19 [.ptr d 0 0 0] h1 (.tup [.int .i64 v, .bool c]) fun h2 => Pr h2 b bL bP bA d bI bJ n := by
  obtain ⟨a0, m, S, F, a1, ⟨T, A, r1, r2, r3, r4, r5, r6, r7⟩⟩ := a
  by_cases hm : m = 0
  · subst hm
    refine ⟨0, false, does_read (hv_next_no a1) ?_⟩
    rcases rnext_run r1 (by omega) (by omega) with ⟨q1, q2⟩ | ⟨k, q1, q2, _⟩
    · obtain ⟨r, w, h', k1, rfl⟩ := q2
      exact ⟨r, w, h', k1, a0, 0, S, F, a1, T, A, r1, r2, r3, r4, r5, r6, r7⟩
    · have := cn_zero r4.symm k (by omega)
      rw [this] at q2; cases q2
  · have hm2 : m ≤ 1000000 := by rw [r4]; have := cn_le (T := T) n; omega
    obtain ⟨v, v1, v2, v3, v4, r, w, h', k1, k2, k3⟩ := hv_next a1 (by omega) hm2
    refine ⟨(v : Nat), true, ⟨r, w, h', k1, ?_⟩⟩
    have f1 : RefAt h' d bI bJ T A := ref_heap a0 r1 k3 (by simp)
    have hgv : gB T (v - 1) = true := by rw [r5 v v1 v2, v3]
    rcases rnext_run f1 (by omega) (by omega) with ⟨q1, q2⟩ | ⟨k, q1, q2, q3, r', w', h2, q4, q5, q6⟩
    · rw [q1 (v - 1) (by omega)] at hgv; cases hgv
    · have hkv : k + 1 = v := by
        have e1 := q3 (v - 1) (by omega) hgv
        have e2 := v4 (k + 1) (by omega) (by omega) (by rw [← r5 (k + 1) (by omega) (by omega)]; exact q2)
        unfold Ah at e2
        rw [← r6 v v1 v2, ← r6 (k + 1) (by omega) (by omega)] at e2
        have e3 : k + 1 - 1 = k := by omega
        rw [e3] at e2
        omega
      subst hkv
      refine ⟨r', w', h2, q4, a0, m - 1, upd S (k + 1) false, F, hv_ref a0 k2 q6 (by simp), T.set k false, A, q5, by simpa using r2, r3, ?_, ?_, r6, r7⟩
      · have := cn_set (T := T) (i := k) (by omega) false n
        rw [if_pos ⟨by omega, q2⟩, if_neg (by simp)] at this
        omega
      · intro x x1 x2
        rw [gB_set (by omega)]
        unfold upd
        by_cases hx : x = k + 1
        · rw [if_pos (by omega), if_pos hx]
        · rw [if_neg (by omega), if_neg hx]; exact r5 x x1 x2
theorem halve_step (a : Pr h b bL bP bA d bI bJ n) (hn : n ≤ 60) : Does EH 16 [.ptr b 0 0 0] h (.tup []) fun h1 => Does EH 21 [.ptr d 0 0 0] h1 (.tup []) fun h2 => Pr h2 b bL bP bA d bI bJ n := by
  obtain ⟨a0, m, S, F, a1, ⟨T, A, r1, r2, r3, r4, r5, r6, r7⟩⟩ := a
  have hm : m ≤ 1000000 := by rw [r4]; have := cn_le (T := T) n; omega
  obtain ⟨r, w, h', k1, k2, k3⟩ := hv_halve a1 hm (by omega)
  refine ⟨r, w, h', k1, ?_⟩
  have f1 : RefAt h' d bI bJ T A := ref_heap a0 r1 k3 (by simp)
  obtain ⟨r', w', h2, q1, A', q2, q3, q4, q5⟩ := rhalve_run f1 (by omega) r7
  refine ⟨r', w', h2, q1, a0, m, S, _, hv_ref a0 k2 q5 (by simp), T, A', q2, r2, by omega, r4, r5, ?_, ?_⟩
  · intro x x1 x2
    rw [q4, r6 x x1 x2]
  · intro x
    have := r7 x
    rw [q4]
    exact ⟨Int.tdiv_nonneg this.1 (by omega), by rw [Int.tdiv_eq_ediv_of_nonneg this.1]; omega⟩
theorem len_step (a : Pr h b bL bP bA d bI bJ n) (hn : n ≤ 60) : ∃ m : Nat, (∃ r, Calls' EH 13 [.ptr b 0 0 0] h ⟨.int .i64 (m : Nat), h, r, []⟩) ∧ Does EH 22 [.ptr d 0 0 0] h (.int .i64 (m : Nat)) fun h' => h' = h := by
  obtain ⟨a0, m, S, F, a1, ⟨T, A, r1, r2, r3, r4, r5, r6, r7⟩⟩ := a
  refine ⟨m, hv_len a1, ?_⟩
  have := rlen_run r1 (by omega)
  rw [r2, ← r4] at this
  exact this
theorem hv_relabel {bL2 m : Nat} {S : Nat → Bool} {F : Nat → Int} (hv : Hv h b bL bP bA n m S F) (h1 : ¬ bL < h.length) (h2 : bL2 ∉ [b, bP, bA]) : Hv h b bL2 bP bA n m S F := by
  obtain ⟨L, P, A, ⟨⟨lv, pv, av, p1, p2, p3, p4, p5⟩, n1, n2, n3, n4, n5, n6⟩, q2⟩ := hv
  simp only [List.mem_cons, List.not_mem_nil, or_false, not_or] at h2
  refine ⟨L, P, A, ⟨⟨lv, pv, av, p1, ?_, p3, p4, p5⟩, Ne.symm h2.1, n2, n3, h2.2.1, h2.2.2, n6⟩, q2⟩
  rcases p2 with p2 | p2
  · exact .inl p2
  · exact absurd p2.lt h1
/-- both new -/
theorem pr_new {h1 h2 : H} {m : Nat} {bL : Nat} (hn : n ≤ 60) (a1 : Hv h1 b bL bP bA n n (fun _ => true) (fun _ => 0)) (r1 : RefAt h2 h1.length bI bJ (List.replicate n true) (List.replicate n 0)) (k : Keeps h1 h2 []) (l1 : h1.length ≤ bI) (l2 : h1.length ≤ bJ) : ∃ bL', Pr h2 b bL' bP bA h1.length bI bJ n := by
  have hb : b < h1.length ∧ bP < h1.length ∧ bA < h1.length := by
    obtain ⟨L, P, A, ⟨⟨lv, pv, av, p1, p2, p3, p4, p5⟩, _⟩, q2, q3, _⟩ := a1
    exact ⟨(List.getElem?_eq_some_iff.1 p1).1, p3.lt, p4.lt⟩
  have key : ∃ bL', Hv h1 b bL' bP bA n n (fun _ => true) (fun _ => 0) ∧ bL' ∉ [h1.length, bI, bJ] := by
    by_cases hl : bL < h1.length
    · exact ⟨bL, a1, by simp only [List.mem_cons, List.not_mem_nil, or_false]; omega⟩
    · refine ⟨bI + bJ + h1.length + 1, hv_relabel a1 hl ?_, ?_⟩ <;> (simp only [List.mem_cons, List.not_mem_nil, or_false]; omega)
  obtain ⟨bL', k1, k2⟩ := key
  refine ⟨bL', ?_, n, fun _ => true, fun _ => 0, k1.frame k (by simp) (by simp) (by simp) (by simp), List.replicate n true, List.replicate n 0, r1, by simp, by simp, (cn_rep n (Nat.le_refl _)).symm, ?_, ?_, ?_⟩
  · intro x hx
    simp only [List.mem_cons, List.not_mem_nil, or_false] at hx k2 ⊢
    rcases hx with rfl | rfl | rfl | rfl
    · omega
    · exact k2
    · omega
    · omega
  · intro u u1 u2
    unfold gB; rw [List.getD_eq_getElem?_getD, List.getElem?_replicate, if_pos (by omega)]; rfl
  · intro u u1 u2; exact gI_rep
  · intro x; rw [gI_rep]; omega
end
end Go.Proofs.Ytmmipfmdkoaekaa.Code
