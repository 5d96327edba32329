/- A part of the proof: HeapRun2. No condition. -/
import Derived.Test.YtmmipfmdkoaekaaHeapRun1
import Derived.Test.YtmmipfmdkoaekaaHeapD
set_option linter.all false
set_option maxRecDepth 100000
namespace Go.Proofs.Ytmmipfmdkoaekaa.Code
open Go.Mini Go.HeapMath Go.HeapRun
set_option linter.all false
set_option maxHeartbeats 1000000
def upLoop : MCode := (.loop (.seq (.seq (.reg [⟨(some 12), .mv (.t 1), none⟩, ⟨(some 13), .bin .gtr .no (.t 12) (.c (.int .i64 0)), none⟩, ⟨(some 14), .mv (.t 13), none⟩, ⟨(some 15), .mv (.t 0), (some (14, true))⟩, ⟨(some 16), .mv (.t 4), (some (14, true))⟩, ⟨(some 17), .mv (.t 0), (some (14, true))⟩, ⟨(some 18), .nilc (.t 17), (some (14, true))⟩, ⟨(some 19), .faddr 0 (.t 18), (some (14, true))⟩, ⟨(some 20), .load none (.t 19), (some (14, true))⟩, ⟨(some 21), .mv (.t 1), (some (14, true))⟩, ⟨(some 22), .bin .sub .no (.t 21) (.c (.int .i64 1)), (some (14, true))⟩, ⟨(some 23), .bin .quo .no (.t 22) (.c (.int .i64 2)), (some (14, true))⟩, ⟨(some 24), .iaddr 1 (.t 20) (.t 23), (some (14, true))⟩, ⟨(some 25), .load none (.t 24), (some (14, true))⟩, ⟨(some 26), .call (.c (.fn 28 [])) [(.t 15), (.t 16), (.t 25)], (some (14, true))⟩, ⟨(some 27), .pick (.t 14) (.t 26) (.c (.bool false)), none⟩])
   (.cond (.t 27)
     .skip
     (.exit 0)))
   (.block 1 (.seq (.reg [⟨(some 28), .mv (.t 0), none⟩, ⟨(some 29), .mv (.t 0), none⟩, ⟨(some 30), .nilc (.t 29), none⟩, ⟨(some 31), .faddr 0 (.t 30), none⟩, ⟨(some 32), .load none (.t 31), none⟩, ⟨(some 33), .mv (.t 1), none⟩, ⟨(some 34), .bin .sub .no (.t 33) (.c (.int .i64 1)), none⟩, ⟨(some 35), .bin .quo .no (.t 34) (.c (.int .i64 2)), none⟩, ⟨(some 36), .iaddr 1 (.t 32) (.t 35), none⟩, ⟨(some 37), .load none (.t 36), none⟩, ⟨(some 38), .mv (.t 1), none⟩, ⟨(some 39), .call (.c (.fn 29 [])) [(.t 28), (.t 37), (.t 38)], none⟩])
    (.reg [⟨(some 40), .mv (.t 1), none⟩, ⟨(some 41), .bin .sub .no (.t 40) (.c (.int .i64 1)), none⟩, ⟨(some 42), .bin .quo .no (.t 41) (.c (.int .i64 2)), none⟩, ⟨(some 1), .mv (.t 42), none⟩])))))
theorem upL_stop {A : Nat → Int} {L : List Nat} {P : List Int} {v i : Nat} (h : ¬ (0 < i ∧ Ah A v (gN L (par i)))) : ∀ k, upL A k L P v i = (L.set i v, P.set v i)
  | 0 => rfl
  | k + 1 => by unfold upL; rw [if_neg h]
theorem up_loop {n0 b bL bP bA v : Nat} {A : List Int} (hA : ∀ L P h, HeapAt h b bL bP bA L P A → True) (Q : Ex → St → Prop) : ∀ (k i : Nat) (L : List Nat) (P : List Int) (h : H) (r w : List Nat) (j2 j3 j5 j6 j7 j8 j9 j10 j11 j12 j13 j14 j15 j16 j17 j18 j19 j20 j21 j22 j23 j24 j25 j26 j27 j28 j29 j30 j31 j32 j33 j34 j35 j36 j37 j38 j39 j40 j41 j42 j43 j44 j45 j46 : V), i ≤ k → i < L.length → L.length ≤ 1000000 → v < A.length → P.length = A.length → (∀ x, x < L.length → gN L x < A.length) → HeapAt h b bL bP bA L P A →
    (∀ (i' : Nat) (L' : List Nat) (P' : List Int) (h' : H) (r' w' : List Nat) (k2 k3 k5 k6 k7 k8 k9 k10 k11 k12 k13 k14 k15 k16 k17 k18 k19 k20 k21 k22 k23 k24 k25 k26 k27 k28 k29 k30 k31 k32 k33 k34 k35 k36 k37 k38 k39 k40 k41 k42 k43 k44 k45 k46 : V), HeapAt h' b bL bP bA L' P' A → Keeps h h' [bL, bP] → i' < L'.length → L'.length = L.length → P'.length = P.length → (L'.set i' v, P'.set v i') = upL (gI A) k L P v i → Q (.exit 0) ⟨[(.ptr b 0 0 0), (.int .i64 (i' : Nat)), k2, k3, (.int .i64 (v : Nat)), k5, k6, k7, k8, k9, k10, k11, k12, k13, k14, k15, k16, k17, k18, k19, k20, k21, k22, k23, k24, k25, k26, k27, k28, k29, k30, k31, k32, k33, k34, k35, k36, k37, k38, k39, k40, k41, k42, k43, k44, k45, k46], h', r', w'⟩) →
    RQ EH n0 upLoop ⟨[(.ptr b 0 0 0), (.int .i64 (i : Nat)), j2, j3, (.int .i64 (v : Nat)), j5, j6, j7, j8, j9, j10, j11, j12, j13, j14, j15, j16, j17, j18, j19, j20, j21, j22, j23, j24, j25, j26, j27, j28, j29, j30, j31, j32, j33, j34, j35, j36, j37, j38, j39, j40, j41, j42, j43, j44, j45, j46], h, r, w⟩ Q
  | k, i, L, P, h, r, w, j2, j3, j5, j6, j7, j8, j9, j10, j11, j12, j13, j14, j15, j16, j17, j18, j19, j20, j21, j22, j23, j24, j25, j26, j27, j28, j29, j30, j31, j32, j33, j34, j35, j36, j37, j38, j39, j40, j41, j42, j43, j44, j45, j46, hk, hi, hL, hv, hP, hx, hH, hQ => by
    have hH0 := hH
    obtain ⟨⟨lv, pv, av, hb, hl, hp, ha, hcl⟩, n1, n2, n3, n4, n5, n6⟩ := hH
    rcases hl with ⟨_, hl, _⟩ | hl
    · subst hl; simp at hi
    obtain ⟨cL, rL, jL, eL, hL', sL, oL, lL⟩ := hl
    subst eL
    have lN := nats_len L
    unfold upLoop
    apply q_loop
    by_cases h0 : 0 < i
    · have hc : decide ((0 : Int) < (i : Int)) = true := by simpa using h0
      have e0 : (i : Int) - 1 = ((i - 1 : Nat) : Int) := by omega
      have e1 : ((i - 1 : Nat) : Int).tdiv 2 = ((par i : Nat) : Int) := rfl
      have hpi : par i < i := by unfold par; omega
      have hu := hx (par i) (by omega)
      by_cases hah : Ah (gI A) v (gN L (par i))
      · have hd : ∃ r, Calls' EH 28 [.ptr b 0 0 0, .int .i64 v, .int .i64 (gN L (par i) : Nat)] h ⟨.bool true, h, r, []⟩ := by
          have := ahead_run hH0 hv hu
          rw [decide_eq_true hah] at this; exact this
        have hy := lay_run hH0 (v := gN L (par i)) (i := i) hi (by omega)
        repeat (first
        | with_reducible apply q_seq
        | with_reducible apply q_reg
        | with_reducible apply q_draw
        | with_reducible apply q_ret
        | with_reducible apply q_skip
        | with_reducible apply q_exit
        | with_reducible apply q_block
        | with_reducible apply k_norm
        | with_reducible apply k_ret
        | with_reducible apply k_exit
        | with_reducible apply b_norm
        | with_reducible apply b_ret
        | with_reducible apply b_leave
        | ((with_reducible apply b_exit); decide)
        | with_reducible apply g_nil
        | with_reducible apply d_nil
        | ((with_reducible apply q_true); rfl)
        | ((with_reducible apply q_false); rfl)
        | ((with_reducible apply g_skip)
           · rfl
           · dsimp only [putV, List.set]; try rfl)
        | ((with_reducible apply d_skip)
           · rfl
           · dsimp only [putV, List.set]; try rfl)
        | ((with_reducible apply g_read)
           · rfl
           · rfl
           · rfl
           · exact hd
           · dsimp only [putV, List.set]; try rfl
           intro _)
        | ((with_reducible apply d_read)
           · rfl
           · rfl
           · rfl
           · exact hd
           · rfl
           · dsimp only [putV, List.set]; try rfl
           intro _ _)
        | ((with_reducible apply g_call)
           · rfl
           · rfl
           · rfl
           · exact hy
           · dsimp only [putV, List.set]; try rfl)
        | ((with_reducible apply g_go)
           · rfl
           · first
             | ((with_reducible apply ops_add); rfl; rfl; (first | assumption | rfl); omega; omega)
             | ((with_reducible apply ops_sub); rfl; rfl; (first | assumption | rfl); omega; omega)
             | ((with_reducible apply ops_mul); rfl; rfl; (first | assumption | rfl); omega; omega)
             | ((with_reducible apply ops_quo); rfl; rfl; decide; (first | assumption | rfl); omega; omega)
             | ((with_reducible apply ops_rem); rfl; rfl; omega; (first | assumption | rfl))
             | ((with_reducible apply ops_lss); rfl; rfl; (first | assumption | rfl))
             | ((with_reducible apply ops_gtr); rfl; rfl; (first | assumption | rfl))
             | ((with_reducible apply ops_leq); rfl; rfl; (first | assumption | rfl))
             | ((with_reducible apply ops_geq); rfl; rfl; (first | assumption | rfl))
             | ((with_reducible apply ops_eql); rfl; rfl; (first | assumption | rfl))
             | ((with_reducible apply ops_neq); rfl; rfl; (first | assumption | rfl))
             | ((with_reducible apply ops_min2); rfl; (first | assumption | rfl))
             | ((with_reducible apply ops_max2); rfl; (first | assumption | rfl))
             | ((with_reducible apply ops_iaddrN); rfl; rfl; omega; rfl)
             | ((with_reducible apply ops_iaddr); rfl; rfl; omega; omega; rfl; rfl)
             | ((with_reducible apply ops_load); rfl; exact rowAt_of (by first | assumption) (Nat.zero_le _) (Nat.zero_le _); rfl; rfl)
             | ((with_reducible apply arr_loadN); rfl; (first | assumption); assumption; assumption; (first | assumption | (apply ints_get; omega) | (apply nats_get; omega)); rfl)
             | ((with_reducible apply arr_storeN); rfl; rfl; (first | assumption); assumption; assumption; (first | assumption | (apply ints_get; omega) | (apply nats_get; omega)); rfl; rfl; rfl; rfl; rfl)
             | ((with_reducible apply ops_struct); rfl; rfl; (first | assumption); rfl; rfl; rfl; rfl; rfl; exact Nat.le_of_ble_eq_true rfl; rfl)
             | ((with_reducible apply ops_bslice1); rfl; rfl; rfl)
             | ((with_reducible apply ops_push); rfl; rfl; (first | assumption); (first | assumption); assumption; assumption; assumption; assumption; omega; rfl)
             | ((with_reducible apply ops_cutN); rfl; rfl; omega)
             | exact ops_of rfl
           · dsimp only [putV, List.set]; try rfl)
        | ((with_reducible apply d_go)
           · rfl
           · first
             | ((with_reducible apply ops_add); rfl; rfl; (first | assumption | rfl); omega; omega)
             | ((with_reducible apply ops_sub); rfl; rfl; (first | assumption | rfl); omega; omega)
             | ((with_reducible apply ops_mul); rfl; rfl; (first | assumption | rfl); omega; omega)
             | ((with_reducible apply ops_quo); rfl; rfl; decide; (first | assumption | rfl); omega; omega)
             | ((with_reducible apply ops_rem); rfl; rfl; omega; (first | assumption | rfl))
             | ((with_reducible apply ops_lss); rfl; rfl; (first | assumption | rfl))
             | ((with_reducible apply ops_gtr); rfl; rfl; (first | assumption | rfl))
             | ((with_reducible apply ops_leq); rfl; rfl; (first | assumption | rfl))
             | ((with_reducible apply ops_geq); rfl; rfl; (first | assumption | rfl))
             | ((with_reducible apply ops_eql); rfl; rfl; (first | assumption | rfl))
             | ((with_reducible apply ops_neq); rfl; rfl; (first | assumption | rfl))
             | ((with_reducible apply ops_min2); rfl; (first | assumption | rfl))
             | ((with_reducible apply ops_max2); rfl; (first | assumption | rfl))
             | ((with_reducible apply ops_iaddrN); rfl; rfl; omega; rfl)
             | ((with_reducible apply ops_iaddr); rfl; rfl; omega; omega; rfl; rfl)
             | ((with_reducible apply ops_load); rfl; exact rowAt_of (by first | assumption) (Nat.zero_le _) (Nat.zero_le _); rfl; rfl)
             | ((with_reducible apply arr_loadN); rfl; (first | assumption); assumption; assumption; (first | assumption | (apply ints_get; omega) | (apply nats_get; omega)); rfl)
             | ((with_reducible apply arr_storeN); rfl; rfl; (first | assumption); assumption; assumption; (first | assumption | (apply ints_get; omega) | (apply nats_get; omega)); rfl; rfl; rfl; rfl; rfl)
             | ((with_reducible apply ops_struct); rfl; rfl; (first | assumption); rfl; rfl; rfl; rfl; rfl; exact Nat.le_of_ble_eq_true rfl; rfl)
             | ((with_reducible apply ops_bslice1); rfl; rfl; rfl)
             | ((with_reducible apply ops_push); rfl; rfl; (first | assumption); (first | assumption); assumption; assumption; assumption; assumption; omega; rfl)
             | ((with_reducible apply ops_cutN); rfl; rfl; omega)
             | exact ops_of rfl
           · (first | with_reducible exact free_empty | rw [allW_same] | rw [allW_set] | rw [allW_push]) <;> (repeat (first | with_reducible exact free_nil | with_reducible exact free_empty | ((with_reducible apply free_mask); rfl) | ((with_reducible apply free_ne); first | rfl | (simp [clash, meets, *]; done))))
           · first | exact note_same | exact note_read | exact note_set | exact note_push
           · dsimp only [putV, List.set]; try rfl))
        intro r1 w1 h1 hD
        obtain ⟨hH1, hK1⟩ := hD
        repeat (first
        | with_reducible apply q_seq
        | with_reducible apply q_reg
        | with_reducible apply q_draw
        | with_reducible apply q_ret
        | with_reducible apply q_skip
        | with_reducible apply q_exit
        | with_reducible apply q_block
        | with_reducible apply k_norm
        | with_reducible apply k_ret
        | with_reducible apply k_exit
        | with_reducible apply b_norm
        | with_reducible apply b_ret
        | with_reducible apply b_leave
        | ((with_reducible apply b_exit); decide)
        | with_reducible apply g_nil
        | with_reducible apply d_nil
        | ((with_reducible apply q_true); rfl)
        | ((with_reducible apply q_false); rfl)
        | ((with_reducible apply g_skip)
           · rfl
           · dsimp only [putV, List.set]; try rfl)
        | ((with_reducible apply d_skip)
           · rfl
           · dsimp only [putV, List.set]; try rfl)
        | ((with_reducible apply g_go)
           · rfl
           · first
             | ((with_reducible apply ops_add); rfl; rfl; (first | assumption | rfl); omega; omega)
             | ((with_reducible apply ops_sub); rfl; rfl; (first | assumption | rfl); omega; omega)
             | ((with_reducible apply ops_mul); rfl; rfl; (first | assumption | rfl); omega; omega)
             | ((with_reducible apply ops_quo); rfl; rfl; decide; (first | assumption | rfl); omega; omega)
             | ((with_reducible apply ops_rem); rfl; rfl; omega; (first | assumption | rfl))
             | ((with_reducible apply ops_lss); rfl; rfl; (first | assumption | rfl))
             | ((with_reducible apply ops_gtr); rfl; rfl; (first | assumption | rfl))
             | ((with_reducible apply ops_leq); rfl; rfl; (first | assumption | rfl))
             | ((with_reducible apply ops_geq); rfl; rfl; (first | assumption | rfl))
             | ((with_reducible apply ops_eql); rfl; rfl; (first | assumption | rfl))
             | ((with_reducible apply ops_neq); rfl; rfl; (first | assumption | rfl))
             | ((with_reducible apply ops_min2); rfl; (first | assumption | rfl))
             | ((with_reducible apply ops_max2); rfl; (first | assumption | rfl))
             | ((with_reducible apply ops_iaddrN); rfl; rfl; omega; rfl)
             | ((with_reducible apply ops_iaddr); rfl; rfl; omega; omega; rfl; rfl)
             | ((with_reducible apply ops_load); rfl; exact rowAt_of (by first | assumption) (Nat.zero_le _) (Nat.zero_le _); rfl; rfl)
             | ((with_reducible apply arr_loadN); rfl; (first | assumption); assumption; assumption; (first | assumption | (apply ints_get; omega) | (apply nats_get; omega)); rfl)
             | ((with_reducible apply arr_storeN); rfl; rfl; (first | assumption); assumption; assumption; (first | assumption | (apply ints_get; omega) | (apply nats_get; omega)); rfl; rfl; rfl; rfl; rfl)
             | ((with_reducible apply ops_struct); rfl; rfl; (first | assumption); rfl; rfl; rfl; rfl; rfl; exact Nat.le_of_ble_eq_true rfl; rfl)
             | ((with_reducible apply ops_bslice1); rfl; rfl; rfl)
             | ((with_reducible apply ops_push); rfl; rfl; (first | assumption); (first | assumption); assumption; assumption; assumption; assumption; omega; rfl)
             | ((with_reducible apply ops_cutN); rfl; rfl; omega)
             | exact ops_of rfl
           · dsimp only [putV, List.set]; try rfl)
        | ((with_reducible apply d_go)
           · rfl
           · first
             | ((with_reducible apply ops_add); rfl; rfl; (first | assumption | rfl); omega; omega)
             | ((with_reducible apply ops_sub); rfl; rfl; (first | assumption | rfl); omega; omega)
             | ((with_reducible apply ops_mul); rfl; rfl; (first | assumption | rfl); omega; omega)
             | ((with_reducible apply ops_quo); rfl; rfl; decide; (first | assumption | rfl); omega; omega)
             | ((with_reducible apply ops_rem); rfl; rfl; omega; (first | assumption | rfl))
             | ((with_reducible apply ops_lss); rfl; rfl; (first | assumption | rfl))
             | ((with_reducible apply ops_gtr); rfl; rfl; (first | assumption | rfl))
             | ((with_reducible apply ops_leq); rfl; rfl; (first | assumption | rfl))
             | ((with_reducible apply ops_geq); rfl; rfl; (first | assumption | rfl))
             | ((with_reducible apply ops_eql); rfl; rfl; (first | assumption | rfl))
             | ((with_reducible apply ops_neq); rfl; rfl; (first | assumption | rfl))
             | ((with_reducible apply ops_min2); rfl; (first | assumption | rfl))
             | ((with_reducible apply ops_max2); rfl; (first | assumption | rfl))
             | ((with_reducible apply ops_iaddrN); rfl; rfl; omega; rfl)
             | ((with_reducible apply ops_iaddr); rfl; rfl; omega; omega; rfl; rfl)
             | ((with_reducible apply ops_load); rfl; exact rowAt_of (by first | assumption) (Nat.zero_le _) (Nat.zero_le _); rfl; rfl)
             | ((with_reducible apply arr_loadN); rfl; (first | assumption); assumption; assumption; (first | assumption | (apply ints_get; omega) | (apply nats_get; omega)); rfl)
             | ((with_reducible apply arr_storeN); rfl; rfl; (first | assumption); assumption; assumption; (first | assumption | (apply ints_get; omega) | (apply nats_get; omega)); rfl; rfl; rfl; rfl; rfl)
             | ((with_reducible apply ops_struct); rfl; rfl; (first | assumption); rfl; rfl; rfl; rfl; rfl; exact Nat.le_of_ble_eq_true rfl; rfl)
             | ((with_reducible apply ops_bslice1); rfl; rfl; rfl)
             | ((with_reducible apply ops_push); rfl; rfl; (first | assumption); (first | assumption); assumption; assumption; assumption; assumption; omega; rfl)
             | ((with_reducible apply ops_cutN); rfl; rfl; omega)
             | exact ops_of rfl
           · (first | with_reducible exact free_empty | rw [allW_same] | rw [allW_set] | rw [allW_push]) <;> (repeat (first | with_reducible exact free_nil | with_reducible exact free_empty | ((with_reducible apply free_mask); rfl) | ((with_reducible apply free_ne); first | rfl | (simp [clash, meets, *]; done))))
           · first | exact note_same | exact note_read | exact note_set | exact note_push
           · dsimp only [putV, List.set]; try rfl))
        match k, hk with
        | 0, hk => omega
        | k + 1, hk =>
          refine up_loop hA Q k (par i) _ _ h1 _ _ _ _ _ _ _ _ _ _ _ _ _ _ _ _ _ _ _ _ _ _ _ _ _ _ _ _ _ _ _ _ _ _ _ _ _ _ _ _ _ _ _ _ _ _ (by omega) (by simp; omega) (by simp; omega) hv (by simp [hP]) ?_ hH1 ?_
          · intro x hxl
            rw [List.length_set] at hxl
            rw [gN_set hi]
            split
            · exact hu
            · exact hx x hxl
          · intro i' L' P' h' r' w' k2 k3 k5 k6 k7 k8 k9 k10 k11 k12 k13 k14 k15 k16 k17 k18 k19 k20 k21 k22 k23 k24 k25 k26 k27 k28 k29 k30 k31 k32 k33 k34 k35 k36 k37 k38 k39 k40 k41 k42 k43 k44 k45 k46 a1 a2 a3 a4 a5 a6
            refine hQ i' L' P' h' r' w' k2 k3 k5 k6 k7 k8 k9 k10 k11 k12 k13 k14 k15 k16 k17 k18 k19 k20 k21 k22 k23 k24 k25 k26 k27 k28 k29 k30 k31 k32 k33 k34 k35 k36 k37 k38 k39 k40 k41 k42 k43 k44 k45 k46 a1 (hK1.trans a2) a3 (by simpa using a4) (by simpa using a5) ?_
            rw [a6]; conv => rhs; unfold upL
            rw [if_pos ⟨h0, hah⟩]
      · have hd : ∃ r, Calls' EH 28 [.ptr b 0 0 0, .int .i64 v, .int .i64 (gN L (par i) : Nat)] h ⟨.bool false, h, r, []⟩ := by
          have := ahead_run hH0 hv hu
          rw [decide_eq_false hah] at this; exact this
        repeat (first
        | with_reducible apply q_seq
        | with_reducible apply q_reg
        | with_reducible apply q_draw
        | with_reducible apply q_ret
        | with_reducible apply q_skip
        | with_reducible apply q_exit
        | with_reducible apply q_block
        | with_reducible apply k_norm
        | with_reducible apply k_ret
        | with_reducible apply k_exit
        | with_reducible apply b_norm
        | with_reducible apply b_ret
        | with_reducible apply b_leave
        | ((with_reducible apply b_exit); decide)
        | with_reducible apply g_nil
        | with_reducible apply d_nil
        | ((with_reducible apply q_true); rfl)
        | ((with_reducible apply q_false); rfl)
        | ((with_reducible apply g_skip)
           · rfl
           · dsimp only [putV, List.set]; try rfl)
        | ((with_reducible apply d_skip)
           · rfl
           · dsimp only [putV, List.set]; try rfl)
        | ((with_reducible apply g_read)
           · rfl
           · rfl
           · rfl
           · exact hd
           · dsimp only [putV, List.set]; try rfl
           intro _)
        | ((with_reducible apply d_read)
           · rfl
           · rfl
           · rfl
           · exact hd
           · rfl
           · dsimp only [putV, List.set]; try rfl
           intro _ _)
        | ((with_reducible apply g_go)
           · rfl
           · first
             | ((with_reducible apply ops_add); rfl; rfl; (first | assumption | rfl); omega; omega)
             | ((with_reducible apply ops_sub); rfl; rfl; (first | assumption | rfl); omega; omega)
             | ((with_reducible apply ops_mul); rfl; rfl; (first | assumption | rfl); omega; omega)
             | ((with_reducible apply ops_quo); rfl; rfl; decide; (first | assumption | rfl); omega; omega)
             | ((with_reducible apply ops_rem); rfl; rfl; omega; (first | assumption | rfl))
             | ((with_reducible apply ops_lss); rfl; rfl; (first | assumption | rfl))
             | ((with_reducible apply ops_gtr); rfl; rfl; (first | assumption | rfl))
             | ((with_reducible apply ops_leq); rfl; rfl; (first | assumption | rfl))
             | ((with_reducible apply ops_geq); rfl; rfl; (first | assumption | rfl))
             | ((with_reducible apply ops_eql); rfl; rfl; (first | assumption | rfl))
             | ((with_reducible apply ops_neq); rfl; rfl; (first | assumption | rfl))
             | ((with_reducible apply ops_min2); rfl; (first | assumption | rfl))
             | ((with_reducible apply ops_max2); rfl; (first | assumption | rfl))
             | ((with_reducible apply ops_iaddrN); rfl; rfl; omega; rfl)
             | ((with_reducible apply ops_iaddr); rfl; rfl; omega; omega; rfl; rfl)
             | ((with_reducible apply ops_load); rfl; exact rowAt_of (by first | assumption) (Nat.zero_le _) (Nat.zero_le _); rfl; rfl)
             | ((with_reducible apply arr_loadN); rfl; (first | assumption); assumption; assumption; (first | assumption | (apply ints_get; omega) | (apply nats_get; omega)); rfl)
             | ((with_reducible apply arr_storeN); rfl; rfl; (first | assumption); assumption; assumption; (first | assumption | (apply ints_get; omega) | (apply nats_get; omega)); rfl; rfl; rfl; rfl; rfl)
             | ((with_reducible apply ops_struct); rfl; rfl; (first | assumption); rfl; rfl; rfl; rfl; rfl; exact Nat.le_of_ble_eq_true rfl; rfl)
             | ((with_reducible apply ops_bslice1); rfl; rfl; rfl)
             | ((with_reducible apply ops_push); rfl; rfl; (first | assumption); (first | assumption); assumption; assumption; assumption; assumption; omega; rfl)
             | ((with_reducible apply ops_cutN); rfl; rfl; omega)
             | exact ops_of rfl
           · dsimp only [putV, List.set]; try rfl)
        | ((with_reducible apply d_go)
           · rfl
           · first
             | ((with_reducible apply ops_add); rfl; rfl; (first | assumption | rfl); omega; omega)
             | ((with_reducible apply ops_sub); rfl; rfl; (first | assumption | rfl); omega; omega)
             | ((with_reducible apply ops_mul); rfl; rfl; (first | assumption | rfl); omega; omega)
             | ((with_reducible apply ops_quo); rfl; rfl; decide; (first | assumption | rfl); omega; omega)
             | ((with_reducible apply ops_rem); rfl; rfl; omega; (first | assumption | rfl))
             | ((with_reducible apply ops_lss); rfl; rfl; (first | assumption | rfl))
             | ((with_reducible apply ops_gtr); rfl; rfl; (first | assumption | rfl))
             | ((with_reducible apply ops_leq); rfl; rfl; (first | assumption | rfl))
             | ((with_reducible apply ops_geq); rfl; rfl; (first | assumption | rfl))
             | ((with_reducible apply ops_eql); rfl; rfl; (first | assumption | rfl))
             | ((with_reducible apply ops_neq); rfl; rfl; (first | assumption | rfl))
             | ((with_reducible apply ops_min2); rfl; (first | assumption | rfl))
             | ((with_reducible apply ops_max2); rfl; (first | assumption | rfl))
             | ((with_reducible apply ops_iaddrN); rfl; rfl; omega; rfl)
             | ((with_reducible apply ops_iaddr); rfl; rfl; omega; omega; rfl; rfl)
             | ((with_reducible apply ops_load); rfl; exact rowAt_of (by first | assumption) (Nat.zero_le _) (Nat.zero_le _); rfl; rfl)
             | ((with_reducible apply arr_loadN); rfl; (first | assumption); assumption; assumption; (first | assumption | (apply ints_get; omega) | (apply nats_get; omega)); rfl)
             | ((with_reducible apply arr_storeN); rfl; rfl; (first | assumption); assumption; assumption; (first | assumption | (apply ints_get; omega) | (apply nats_get; omega)); rfl; rfl; rfl; rfl; rfl)
             | ((with_reducible apply ops_struct); rfl; rfl; (first | assumption); rfl; rfl; rfl; rfl; rfl; exact Nat.le_of_ble_eq_true rfl; rfl)
             | ((with_reducible apply ops_bslice1); rfl; rfl; rfl)
             | ((with_reducible apply ops_push); rfl; rfl; (first | assumption); (first | assumption); assumption; assumption; assumption; assumption; omega; rfl)
             | ((with_reducible apply ops_cutN); rfl; rfl; omega)
             | exact ops_of rfl
           · (first | with_reducible exact free_empty | rw [allW_same] | rw [allW_set] | rw [allW_push]) <;> (repeat (first | with_reducible exact free_nil | with_reducible exact free_empty | ((with_reducible apply free_mask); rfl) | ((with_reducible apply free_ne); first | rfl | (simp [clash, meets, *]; done))))
           · first | exact note_same | exact note_read | exact note_set | exact note_push
           · dsimp only [putV, List.set]; try rfl))
        exact hQ i L P h _ _ _ _ _ _ _ _ _ _ _ _ _ _ _ _ _ _ _ _ _ _ _ _ _ _ _ _ _ _ _ _ _ _ _ _ _ _ _ _ _ _ _ _ _ _ hH0 (Keeps.refl _ _) hi rfl rfl (upL_stop (fun h => hah h.2) k).symm
    · have hc : decide ((0 : Int) < (i : Int)) = false := by simpa using h0
      repeat (first
        | with_reducible apply q_seq
        | with_reducible apply q_reg
        | with_reducible apply q_draw
        | with_reducible apply q_ret
        | with_reducible apply q_skip
        | with_reducible apply q_exit
        | with_reducible apply q_block
        | with_reducible apply k_norm
        | with_reducible apply k_ret
        | with_reducible apply k_exit
        | with_reducible apply b_norm
        | with_reducible apply b_ret
        | with_reducible apply b_leave
        | ((with_reducible apply b_exit); decide)
        | with_reducible apply g_nil
        | with_reducible apply d_nil
        | ((with_reducible apply q_true); rfl)
        | ((with_reducible apply q_false); rfl)
        | ((with_reducible apply g_skip)
           · rfl
           · dsimp only [putV, List.set]; try rfl)
        | ((with_reducible apply d_skip)
           · rfl
           · dsimp only [putV, List.set]; try rfl)
        | ((with_reducible apply g_read)
           · rfl
           · rfl
           · rfl
           · exact hd
           · dsimp only [putV, List.set]; try rfl
           intro _)
        | ((with_reducible apply d_read)
           · rfl
           · rfl
           · rfl
           · exact hd
           · rfl
           · dsimp only [putV, List.set]; try rfl
           intro _ _)
        | ((with_reducible apply g_go)
           · rfl
           · first
             | ((with_reducible apply ops_add); rfl; rfl; (first | assumption | rfl); omega; omega)
             | ((with_reducible apply ops_sub); rfl; rfl; (first | assumption | rfl); omega; omega)
             | ((with_reducible apply ops_mul); rfl; rfl; (first | assumption | rfl); omega; omega)
             | ((with_reducible apply ops_quo); rfl; rfl; decide; (first | assumption | rfl); omega; omega)
             | ((with_reducible apply ops_rem); rfl; rfl; omega; (first | assumption | rfl))
             | ((with_reducible apply ops_lss); rfl; rfl; (first | assumption | rfl))
             | ((with_reducible apply ops_gtr); rfl; rfl; (first | assumption | rfl))
             | ((with_reducible apply ops_leq); rfl; rfl; (first | assumption | rfl))
             | ((with_reducible apply ops_geq); rfl; rfl; (first | assumption | rfl))
             | ((with_reducible apply ops_eql); rfl; rfl; (first | assumption | rfl))
             | ((with_reducible apply ops_neq); rfl; rfl; (first | assumption | rfl))
             | ((with_reducible apply ops_min2); rfl; (first | assumption | rfl))
             | ((with_reducible apply ops_max2); rfl; (first | assumption | rfl))
             | ((with_reducible apply ops_iaddrN); rfl; rfl; omega; rfl)
             | ((with_reducible apply ops_iaddr); rfl; rfl; omega; omega; rfl; rfl)
             | ((with_reducible apply ops_load); rfl; exact rowAt_of (by first | assumption) (Nat.zero_le _) (Nat.zero_le _); rfl; rfl)
             | ((with_reducible apply arr_loadN); rfl; (first | assumption); assumption; assumption; (first | assumption | (apply ints_get; omega) | (apply nats_get; omega)); rfl)
             | ((with_reducible apply arr_storeN); rfl; rfl; (first | assumption); assumption; assumption; (first | assumption | (apply ints_get; omega) | (apply nats_get; omega)); rfl; rfl; rfl; rfl; rfl)
             | ((with_reducible apply ops_struct); rfl; rfl; (first | assumption); rfl; rfl; rfl; rfl; rfl; exact Nat.le_of_ble_eq_true rfl; rfl)
             | ((with_reducible apply ops_bslice1); rfl; rfl; rfl)
             | ((with_reducible apply ops_push); rfl; rfl; (first | assumption); (first | assumption); assumption; assumption; assumption; assumption; omega; rfl)
             | ((with_reducible apply ops_cutN); rfl; rfl; omega)
             | exact ops_of rfl
           · dsimp only [putV, List.set]; try rfl)
        | ((with_reducible apply d_go)
           · rfl
           · first
             | ((with_reducible apply ops_add); rfl; rfl; (first | assumption | rfl); omega; omega)
             | ((with_reducible apply ops_sub); rfl; rfl; (first | assumption | rfl); omega; omega)
             | ((with_reducible apply ops_mul); rfl; rfl; (first | assumption | rfl); omega; omega)
             | ((with_reducible apply ops_quo); rfl; rfl; decide; (first | assumption | rfl); omega; omega)
             | ((with_reducible apply ops_rem); rfl; rfl; omega; (first | assumption | rfl))
             | ((with_reducible apply ops_lss); rfl; rfl; (first | assumption | rfl))
             | ((with_reducible apply ops_gtr); rfl; rfl; (first | assumption | rfl))
             | ((with_reducible apply ops_leq); rfl; rfl; (first | assumption | rfl))
             | ((with_reducible apply ops_geq); rfl; rfl; (first | assumption | rfl))
             | ((with_reducible apply ops_eql); rfl; rfl; (first | assumption | rfl))
             | ((with_reducible apply ops_neq); rfl; rfl; (first | assumption | rfl))
             | ((with_reducible apply ops_min2); rfl; (first | assumption | rfl))
             | ((with_reducible apply ops_max2); rfl; (first | assumption | rfl))
             | ((with_reducible apply ops_iaddrN); rfl; rfl; omega; rfl)
             | ((with_reducible apply ops_iaddr); rfl; rfl; omega; omega; rfl; rfl)
             | ((with_reducible apply ops_load); rfl; exact rowAt_of (by first | assumption) (Nat.zero_le _) (Nat.zero_le _); rfl; rfl)
             | ((with_reducible apply arr_loadN); rfl; (first | assumption); assumption; assumption; (first | assumption | (apply ints_get; omega) | (apply nats_get; omega)); rfl)
             | ((with_reducible apply arr_storeN); rfl; rfl; (first | assumption); assumption; assumption; (first | assumption | (apply ints_get; omega) | (apply nats_get; omega)); rfl; rfl; rfl; rfl; rfl)
             | ((with_reducible apply ops_struct); rfl; rfl; (first | assumption); rfl; rfl; rfl; rfl; rfl; exact Nat.le_of_ble_eq_true rfl; rfl)
             | ((with_reducible apply ops_bslice1); rfl; rfl; rfl)
             | ((with_reducible apply ops_push); rfl; rfl; (first | assumption); (first | assumption); assumption; assumption; assumption; assumption; omega; rfl)
             | ((with_reducible apply ops_cutN); rfl; rfl; omega)
             | exact ops_of rfl
           · (first | with_reducible exact free_empty | rw [allW_same] | rw [allW_set] | rw [allW_push]) <;> (repeat (first | with_reducible exact free_nil | with_reducible exact free_empty | ((with_reducible apply free_mask); rfl) | ((with_reducible apply free_ne); first | rfl | (simp [clash, meets, *]; done))))
           · first | exact note_same | exact note_read | exact note_set | exact note_push
           · dsimp only [putV, List.set]; try rfl))
      exact hQ i L P h _ _ _ _ _ _ _ _ _ _ _ _ _ _ _ _ _ _ _ _ _ _ _ _ _ _ _ _ _ _ _ _ _ _ _ _ _ _ _ _ _ _ _ _ _ _ hH0 (Keeps.refl _ _) hi rfl rfl (upL_stop (fun h => h0 h.1) k).symm
/-- up -/
theorem up_run {h : H} {b bL bP bA i k : Nat} {L : List Nat} {P A : List Int} (hH : HeapAt h b bL bP bA L P A) (hi : i < L.length) (hk : i ≤ k) (hL : L.length ≤ 1000000) (hP : P.length = A.length) (hx : ∀ x, x < L.length → gN L x < A.length) :
    Does EH 25 [.ptr b 0 0 0, .int .i64 i] h (.tup []) fun h' => HeapAt h' b bL bP bA (upL (gI A) k L P (gN L i) i).1 (upL (gI A) k L P (gN L i) i).2 A ∧ Keeps h h' [bL, bP] := by
  have hH0 := hH
  obtain ⟨⟨lv, pv, av, hb, hl, hp, ha, hcl⟩, n1, n2, n3, n4, n5, n6⟩ := hH
  rcases hl with ⟨_, hl, _⟩ | hl
  · subst hl; simp at hi
  obtain ⟨cL, rL, jL, eL, hL', sL, oL, lL⟩ := hl
  subst eL
  have lN := nats_len L
  apply does_keep (by rfl) (by rfl) (by simp only [List.length_cons, List.length_nil, List.replicate, List.cons_append, List.nil_append]; try rfl)
  repeat (first
      | with_reducible apply q_seq
      | with_reducible apply q_reg
      | with_reducible apply q_draw
      | with_reducible apply q_ret
      | with_reducible apply q_skip
      | with_reducible apply q_exit
      | with_reducible apply q_block
      | with_reducible apply k_norm
      | with_reducible apply k_ret
      | with_reducible apply k_exit
      | with_reducible apply b_norm
      | with_reducible apply b_ret
      | with_reducible apply b_leave
      | ((with_reducible apply b_exit); decide)
      | with_reducible apply g_nil
      | with_reducible apply d_nil
      | ((with_reducible apply q_true); rfl)
      | ((with_reducible apply q_false); rfl)
      | ((with_reducible apply g_skip)
         · rfl
         · dsimp only [putV, List.set]; try rfl)
      | ((with_reducible apply d_skip)
         · rfl
         · dsimp only [putV, List.set]; try rfl)
      | ((with_reducible apply g_go)
         · rfl
         · first
           | ((with_reducible apply ops_add); rfl; rfl; (first | assumption | rfl); omega; omega)
           | ((with_reducible apply ops_sub); rfl; rfl; (first | assumption | rfl); omega; omega)
           | ((with_reducible apply ops_mul); rfl; rfl; (first | assumption | rfl); omega; omega)
           | ((with_reducible apply ops_quo); rfl; rfl; decide; (first | assumption | rfl); omega; omega)
           | ((with_reducible apply ops_rem); rfl; rfl; omega; (first | assumption | rfl))
           | ((with_reducible apply ops_lss); rfl; rfl; (first | assumption | rfl))
           | ((with_reducible apply ops_gtr); rfl; rfl; (first | assumption | rfl))
           | ((with_reducible apply ops_leq); rfl; rfl; (first | assumption | rfl))
           | ((with_reducible apply ops_geq); rfl; rfl; (first | assumption | rfl))
           | ((with_reducible apply ops_eql); rfl; rfl; (first | assumption | rfl))
           | ((with_reducible apply ops_neq); rfl; rfl; (first | assumption | rfl))
           | ((with_reducible apply ops_min2); rfl; (first | assumption | rfl))
           | ((with_reducible apply ops_max2); rfl; (first | assumption | rfl))
           | ((with_reducible apply ops_iaddrN); rfl; rfl; omega; rfl)
           | ((with_reducible apply ops_iaddr); rfl; rfl; omega; omega; rfl; rfl)
           | ((with_reducible apply ops_load); rfl; exact rowAt_of (by first | assumption) (Nat.zero_le _) (Nat.zero_le _); rfl; rfl)
           | ((with_reducible apply arr_loadN); rfl; (first | assumption); assumption; assumption; (first | assumption | (apply ints_get; omega) | (apply nats_get; omega)); rfl)
           | ((with_reducible apply arr_storeN); rfl; rfl; (first | assumption); assumption; assumption; (first | assumption | (apply ints_get; omega) | (apply nats_get; omega)); rfl; rfl; rfl; rfl; rfl)
           | ((with_reducible apply ops_struct); rfl; rfl; (first | assumption); rfl; rfl; rfl; rfl; rfl; exact Nat.le_of_ble_eq_true rfl; rfl)
           | ((with_reducible apply ops_bslice1); rfl; rfl; rfl)
           | ((with_reducible apply ops_push); rfl; rfl; (first | assumption); (first | assumption); assumption; assumption; assumption; assumption; omega; rfl)
           | ((with_reducible apply ops_cutN); rfl; rfl; omega)
           | exact ops_of rfl
         · dsimp only [putV, List.set]; try rfl)
      | ((with_reducible apply d_go)
         · rfl
         · first
           | ((with_reducible apply ops_add); rfl; rfl; (first | assumption | rfl); omega; omega)
           | ((with_reducible apply ops_sub); rfl; rfl; (first | assumption | rfl); omega; omega)
           | ((with_reducible apply ops_mul); rfl; rfl; (first | assumption | rfl); omega; omega)
           | ((with_reducible apply ops_quo); rfl; rfl; decide; (first | assumption | rfl); omega; omega)
           | ((with_reducible apply ops_rem); rfl; rfl; omega; (first | assumption | rfl))
           | ((with_reducible apply ops_lss); rfl; rfl; (first | assumption | rfl))
           | ((with_reducible apply ops_gtr); rfl; rfl; (first | assumption | rfl))
           | ((with_reducible apply ops_leq); rfl; rfl; (first | assumption | rfl))
           | ((with_reducible apply ops_geq); rfl; rfl; (first | assumption | rfl))
           | ((with_reducible apply ops_eql); rfl; rfl; (first | assumption | rfl))
           | ((with_reducible apply ops_neq); rfl; rfl; (first | assumption | rfl))
           | ((with_reducible apply ops_min2); rfl; (first | assumption | rfl))
           | ((with_reducible apply ops_max2); rfl; (first | assumption | rfl))
           | ((with_reducible apply ops_iaddrN); rfl; rfl; omega; rfl)
           | ((with_reducible apply ops_iaddr); rfl; rfl; omega; omega; rfl; rfl)
           | ((with_reducible apply ops_load); rfl; exact rowAt_of (by first | assumption) (Nat.zero_le _) (Nat.zero_le _); rfl; rfl)
           | ((with_reducible apply arr_loadN); rfl; (first | assumption); assumption; assumption; (first | assumption | (apply ints_get; omega) | (apply nats_get; omega)); rfl)
           | ((with_reducible apply arr_storeN); rfl; rfl; (first | assumption); assumption; assumption; (first | assumption | (apply ints_get; omega) | (apply nats_get; omega)); rfl; rfl; rfl; rfl; rfl)
           | ((with_reducible apply ops_struct); rfl; rfl; (first | assumption); rfl; rfl; rfl; rfl; rfl; exact Nat.le_of_ble_eq_true rfl; rfl)
           | ((with_reducible apply ops_bslice1); rfl; rfl; rfl)
           | ((with_reducible apply ops_push); rfl; rfl; (first | assumption); (first | assumption); assumption; assumption; assumption; assumption; omega; rfl)
           | ((with_reducible apply ops_cutN); rfl; rfl; omega)
           | exact ops_of rfl
         · (first | with_reducible exact free_empty | rw [allW_same] | rw [allW_set] | rw [allW_push]) <;> (repeat (first | with_reducible exact free_nil | with_reducible exact free_empty | ((with_reducible apply free_mask); rfl) | ((with_reducible apply free_ne); first | rfl | (simp [clash, meets, *]; done))))
         · first | exact note_same | exact note_read | exact note_set | exact note_push
         · dsimp only [putV, List.set]; try rfl))
  refine up_loop (v := gN L i) (fun _ _ _ _ => trivial) _ k i L P h _ _ _ _ _ _ _ _ _ _ _ _ _ _ _ _ _ _ _ _ _ _ _ _ _ _ _ _ _ _ _ _ _ _ _ _ _ _ _ _ _ _ _ _ _ _ hk hi hL (hx i hi) hP hx hH0 ?_
  intro i' L' P' h' r' w' k2 k3 k5 k6 k7 k8 k9 k10 k11 k12 k13 k14 k15 k16 k17 k18 k19 k20 k21 k22 k23 k24 k25 k26 k27 k28 k29 k30 k31 k32 k33 k34 k35 k36 k37 k38 k39 k40 k41 k42 k43 k44 k45 k46 a1 a2 a3 a4 a5 a6
  have hy := lay_run a1 (v := gN L i) (i := i') a3 (by have := hx i hi; omega)
  repeat (first
      | with_reducible apply q_seq
      | with_reducible apply q_reg
      | with_reducible apply q_draw
      | with_reducible apply q_ret
      | with_reducible apply q_skip
      | with_reducible apply q_exit
      | with_reducible apply q_block
      | with_reducible apply k_norm
      | with_reducible apply k_ret
      | with_reducible apply k_exit
      | with_reducible apply b_norm
      | with_reducible apply b_ret
      | with_reducible apply b_leave
      | ((with_reducible apply b_exit); decide)
      | with_reducible apply g_nil
      | with_reducible apply d_nil
      | ((with_reducible apply q_true); rfl)
      | ((with_reducible apply q_false); rfl)
      | ((with_reducible apply g_skip)
         · rfl
         · dsimp only [putV, List.set]; try rfl)
      | ((with_reducible apply d_skip)
         · rfl
         · dsimp only [putV, List.set]; try rfl)
      | ((with_reducible apply g_call)
         · rfl
         · rfl
         · rfl
         · exact hy
         · dsimp only [putV, List.set]; try rfl)
      | ((with_reducible apply g_go)
         · rfl
         · first
           | ((with_reducible apply ops_add); rfl; rfl; (first | assumption | rfl); omega; omega)
           | ((with_reducible apply ops_sub); rfl; rfl; (first | assumption | rfl); omega; omega)
           | ((with_reducible apply ops_mul); rfl; rfl; (first | assumption | rfl); omega; omega)
           | ((with_reducible apply ops_quo); rfl; rfl; decide; (first | assumption | rfl); omega; omega)
           | ((with_reducible apply ops_rem); rfl; rfl; omega; (first | assumption | rfl))
           | ((with_reducible apply ops_lss); rfl; rfl; (first | assumption | rfl))
           | ((with_reducible apply ops_gtr); rfl; rfl; (first | assumption | rfl))
           | ((with_reducible apply ops_leq); rfl; rfl; (first | assumption | rfl))
           | ((with_reducible apply ops_geq); rfl; rfl; (first | assumption | rfl))
           | ((with_reducible apply ops_eql); rfl; rfl; (first | assumption | rfl))
           | ((with_reducible apply ops_neq); rfl; rfl; (first | assumption | rfl))
           | ((with_reducible apply ops_min2); rfl; (first | assumption | rfl))
           | ((with_reducible apply ops_max2); rfl; (first | assumption | rfl))
           | ((with_reducible apply ops_iaddrN); rfl; rfl; omega; rfl)
           | ((with_reducible apply ops_iaddr); rfl; rfl; omega; omega; rfl; rfl)
           | ((with_reducible apply ops_load); rfl; exact rowAt_of (by first | assumption) (Nat.zero_le _) (Nat.zero_le _); rfl; rfl)
           | ((with_reducible apply arr_loadN); rfl; (first | assumption); assumption; assumption; (first | assumption | (apply ints_get; omega) | (apply nats_get; omega)); rfl)
           | ((with_reducible apply arr_storeN); rfl; rfl; (first | assumption); assumption; assumption; (first | assumption | (apply ints_get; omega) | (apply nats_get; omega)); rfl; rfl; rfl; rfl; rfl)
           | ((with_reducible apply ops_struct); rfl; rfl; (first | assumption); rfl; rfl; rfl; rfl; rfl; exact Nat.le_of_ble_eq_true rfl; rfl)
           | ((with_reducible apply ops_bslice1); rfl; rfl; rfl)
           | ((with_reducible apply ops_push); rfl; rfl; (first | assumption); (first | assumption); assumption; assumption; assumption; assumption; omega; rfl)
           | ((with_reducible apply ops_cutN); rfl; rfl; omega)
           | exact ops_of rfl
         · dsimp only [putV, List.set]; try rfl)
      | ((with_reducible apply d_go)
         · rfl
         · first
           | ((with_reducible apply ops_add); rfl; rfl; (first | assumption | rfl); omega; omega)
           | ((with_reducible apply ops_sub); rfl; rfl; (first | assumption | rfl); omega; omega)
           | ((with_reducible apply ops_mul); rfl; rfl; (first | assumption | rfl); omega; omega)
           | ((with_reducible apply ops_quo); rfl; rfl; decide; (first | assumption | rfl); omega; omega)
           | ((with_reducible apply ops_rem); rfl; rfl; omega; (first | assumption | rfl))
           | ((with_reducible apply ops_lss); rfl; rfl; (first | assumption | rfl))
           | ((with_reducible apply ops_gtr); rfl; rfl; (first | assumption | rfl))
           | ((with_reducible apply ops_leq); rfl; rfl; (first | assumption | rfl))
           | ((with_reducible apply ops_geq); rfl; rfl; (first | assumption | rfl))
           | ((with_reducible apply ops_eql); rfl; rfl; (first | assumption | rfl))
           | ((with_reducible apply ops_neq); rfl; rfl; (first | assumption | rfl))
           | ((with_reducible apply ops_min2); rfl; (first | assumption | rfl))
           | ((with_reducible apply ops_max2); rfl; (first | assumption | rfl))
           | ((with_reducible apply ops_iaddrN); rfl; rfl; omega; rfl)
           | ((with_reducible apply ops_iaddr); rfl; rfl; omega; omega; rfl; rfl)
           | ((with_reducible apply ops_load); rfl; exact rowAt_of (by first | assumption) (Nat.zero_le _) (Nat.zero_le _); rfl; rfl)
           | ((with_reducible apply arr_loadN); rfl; (first | assumption); assumption; assumption; (first | assumption | (apply ints_get; omega) | (apply nats_get; omega)); rfl)
           | ((with_reducible apply arr_storeN); rfl; rfl; (first | assumption); assumption; assumption; (first | assumption | (apply ints_get; omega) | (apply nats_get; omega)); rfl; rfl; rfl; rfl; rfl)
           | ((with_reducible apply ops_struct); rfl; rfl; (first | assumption); rfl; rfl; rfl; rfl; rfl; exact Nat.le_of_ble_eq_true rfl; rfl)
           | ((with_reducible apply ops_bslice1); rfl; rfl; rfl)
           | ((with_reducible apply ops_push); rfl; rfl; (first | assumption); (first | assumption); assumption; assumption; assumption; assumption; omega; rfl)
           | ((with_reducible apply ops_cutN); rfl; rfl; omega)
           | exact ops_of rfl
         · (first | with_reducible exact free_empty | rw [allW_same] | rw [allW_set] | rw [allW_push]) <;> (repeat (first | with_reducible exact free_nil | with_reducible exact free_empty | ((with_reducible apply free_mask); rfl) | ((with_reducible apply free_ne); first | rfl | (simp [clash, meets, *]; done))))
         · first | exact note_same | exact note_read | exact note_set | exact note_push
         · dsimp only [putV, List.set]; try rfl))
  intro r2 w2 h2 hD
  obtain ⟨d1, d2⟩ := hD
  repeat (first
      | with_reducible apply q_seq
      | with_reducible apply q_reg
      | with_reducible apply q_draw
      | with_reducible apply q_ret
      | with_reducible apply q_skip
      | with_reducible apply q_exit
      | with_reducible apply q_block
      | with_reducible apply k_norm
      | with_reducible apply k_ret
      | with_reducible apply k_exit
      | with_reducible apply b_norm
      | with_reducible apply b_ret
      | with_reducible apply b_leave
      | ((with_reducible apply b_exit); decide)
      | with_reducible apply g_nil
      | with_reducible apply d_nil
      | ((with_reducible apply q_true); rfl)
      | ((with_reducible apply q_false); rfl)
      | ((with_reducible apply g_skip)
         · rfl
         · dsimp only [putV, List.set]; try rfl)
      | ((with_reducible apply d_skip)
         · rfl
         · dsimp only [putV, List.set]; try rfl)
      | ((with_reducible apply g_go)
         · rfl
         · first
           | ((with_reducible apply ops_add); rfl; rfl; (first | assumption | rfl); omega; omega)
           | ((with_reducible apply ops_sub); rfl; rfl; (first | assumption | rfl); omega; omega)
           | ((with_reducible apply ops_mul); rfl; rfl; (first | assumption | rfl); omega; omega)
           | ((with_reducible apply ops_quo); rfl; rfl; decide; (first | assumption | rfl); omega; omega)
           | ((with_reducible apply ops_rem); rfl; rfl; omega; (first | assumption | rfl))
           | ((with_reducible apply ops_lss); rfl; rfl; (first | assumption | rfl))
           | ((with_reducible apply ops_gtr); rfl; rfl; (first | assumption | rfl))
           | ((with_reducible apply ops_leq); rfl; rfl; (first | assumption | rfl))
           | ((with_reducible apply ops_geq); rfl; rfl; (first | assumption | rfl))
           | ((with_reducible apply ops_eql); rfl; rfl; (first | assumption | rfl))
           | ((with_reducible apply ops_neq); rfl; rfl; (first | assumption | rfl))
           | ((with_reducible apply ops_min2); rfl; (first | assumption | rfl))
           | ((with_reducible apply ops_max2); rfl; (first | assumption | rfl))
           | ((with_reducible apply ops_iaddrN); rfl; rfl; omega; rfl)
           | ((with_reducible apply ops_iaddr); rfl; rfl; omega; omega; rfl; rfl)
           | ((with_reducible apply ops_load); rfl; exact rowAt_of (by first | assumption) (Nat.zero_le _) (Nat.zero_le _); rfl; rfl)
           | ((with_reducible apply arr_loadN); rfl; (first | assumption); assumption; assumption; (first | assumption | (apply ints_get; omega) | (apply nats_get; omega)); rfl)
           | ((with_reducible apply arr_storeN); rfl; rfl; (first | assumption); assumption; assumption; (first | assumption | (apply ints_get; omega) | (apply nats_get; omega)); rfl; rfl; rfl; rfl; rfl)
           | ((with_reducible apply ops_struct); rfl; rfl; (first | assumption); rfl; rfl; rfl; rfl; rfl; exact Nat.le_of_ble_eq_true rfl; rfl)
           | ((with_reducible apply ops_bslice1); rfl; rfl; rfl)
           | ((with_reducible apply ops_push); rfl; rfl; (first | assumption); (first | assumption); assumption; assumption; assumption; assumption; omega; rfl)
           | ((with_reducible apply ops_cutN); rfl; rfl; omega)
           | exact ops_of rfl
         · dsimp only [putV, List.set]; try rfl)
      | ((with_reducible apply d_go)
         · rfl
         · first
           | ((with_reducible apply ops_add); rfl; rfl; (first | assumption | rfl); omega; omega)
           | ((with_reducible apply ops_sub); rfl; rfl; (first | assumption | rfl); omega; omega)
           | ((with_reducible apply ops_mul); rfl; rfl; (first | assumption | rfl); omega; omega)
           | ((with_reducible apply ops_quo); rfl; rfl; decide; (first | assumption | rfl); omega; omega)
           | ((with_reducible apply ops_rem); rfl; rfl; omega; (first | assumption | rfl))
           | ((with_reducible apply ops_lss); rfl; rfl; (first | assumption | rfl))
           | ((with_reducible apply ops_gtr); rfl; rfl; (first | assumption | rfl))
           | ((with_reducible apply ops_leq); rfl; rfl; (first | assumption | rfl))
           | ((with_reducible apply ops_geq); rfl; rfl; (first | assumption | rfl))
           | ((with_reducible apply ops_eql); rfl; rfl; (first | assumption | rfl))
           | ((with_reducible apply ops_neq); rfl; rfl; (first | assumption | rfl))
           | ((with_reducible apply ops_min2); rfl; (first | assumption | rfl))
           | ((with_reducible apply ops_max2); rfl; (first | assumption | rfl))
           | ((with_reducible apply ops_iaddrN); rfl; rfl; omega; rfl)
           | ((with_reducible apply ops_iaddr); rfl; rfl; omega; omega; rfl; rfl)
           | ((with_reducible apply ops_load); rfl; exact rowAt_of (by first | assumption) (Nat.zero_le _) (Nat.zero_le _); rfl; rfl)
           | ((with_reducible apply arr_loadN); rfl; (first | assumption); assumption; assumption; (first | assumption | (apply ints_get; omega) | (apply nats_get; omega)); rfl)
           | ((with_reducible apply arr_storeN); rfl; rfl; (first | assumption); assumption; assumption; (first | assumption | (apply ints_get; omega) | (apply nats_get; omega)); rfl; rfl; rfl; rfl; rfl)
           | ((with_reducible apply ops_struct); rfl; rfl; (first | assumption); rfl; rfl; rfl; rfl; rfl; exact Nat.le_of_ble_eq_true rfl; rfl)
           | ((with_reducible apply ops_bslice1); rfl; rfl; rfl)
           | ((with_reducible apply ops_push); rfl; rfl; (first | assumption); (first | assumption); assumption; assumption; assumption; assumption; omega; rfl)
           | ((with_reducible apply ops_cutN); rfl; rfl; omega)
           | exact ops_of rfl
         · (first | with_reducible exact free_empty | rw [allW_same] | rw [allW_set] | rw [allW_push]) <;> (repeat (first | with_reducible exact free_nil | with_reducible exact free_empty | ((with_reducible apply free_mask); rfl) | ((with_reducible apply free_ne); first | rfl | (simp [clash, meets, *]; done))))
         · first | exact note_same | exact note_read | exact note_set | exact note_push
         · dsimp only [putV, List.set]; try rfl))
  refine ⟨.inr rfl, [], [], rfl, rfl, ?_⟩
  rw [← a6]
  exact ⟨d1, a2.trans d2⟩
end Go.Proofs.Ytmmipfmdkoaekaa.Code
