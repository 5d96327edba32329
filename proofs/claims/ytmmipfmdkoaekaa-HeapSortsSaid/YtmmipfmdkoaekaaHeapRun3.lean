/- A part of the proof: HeapRun3. No condition. -/
import Derived.Test.YtmmipfmdkoaekaaHeapRun2
set_option linter.all false
set_option maxRecDepth 100000
namespace Go.Proofs.Ytmmipfmdkoaekaa.Code
open Go.Mini Go.HeapMath Go.HeapRun
set_option linter.all false
set_option maxHeartbeats 4000000
def downLoop : MCode := (.loop (.block 1 (.seq (.reg [⟨(some 13), .mv (.t 1), none⟩, ⟨(some 14), .bin .mul .no (.c (.int .i64 2)) (.t 13), none⟩, ⟨(some 15), .bin .add .no (.t 14) (.c (.int .i64 1)), none⟩, ⟨(some 5), .mv (.t 15), none⟩])
    (.seq (.seq (.reg [⟨(some 16), .mv (.t 5), none⟩, ⟨(some 17), .mv (.t 0), none⟩, ⟨(some 18), .nilc (.t 17), none⟩, ⟨(some 19), .faddr 0 (.t 18), none⟩, ⟨(some 20), .load none (.t 19), none⟩, ⟨(some 21), .len (.t 20), none⟩, ⟨(some 22), .bin .geq .no (.t 16) (.t 21), none⟩])
    (.cond (.t 22)
      (.exit 0)
      .skip))
    (.seq (.seq (.draw [⟨(some 23), .mv (.t 5), none⟩, ⟨(some 24), .bin .add .no (.t 23) (.c (.int .i64 1)), none⟩, ⟨(some 25), .mv (.t 0), none⟩, ⟨(some 26), .nilc (.t 25), none⟩, ⟨(some 27), .faddr 0 (.t 26), none⟩, ⟨(some 28), .load none (.t 27), none⟩, ⟨(some 29), .len (.t 28), none⟩, ⟨(some 30), .bin .lss .no (.t 24) (.t 29), none⟩, ⟨(some 31), .mv (.t 30), none⟩, ⟨(some 32), .mv (.t 0), (some (31, true))⟩, ⟨(some 33), .mv (.t 0), (some (31, true))⟩, ⟨(some 34), .nilc (.t 33), (some (31, true))⟩, ⟨(some 35), .faddr 0 (.t 34), (some (31, true))⟩, ⟨(some 36), .load none (.t 35), (some (31, true))⟩, ⟨(some 37), .mv (.t 5), (some (31, true))⟩, ⟨(some 38), .bin .add .no (.t 37) (.c (.int .i64 1)), (some (31, true))⟩, ⟨(some 39), .iaddr 1 (.t 36) (.t 38), (some (31, true))⟩, ⟨(some 40), .load none (.t 39), (some (31, true))⟩, ⟨(some 41), .mv (.t 0), (some (31, true))⟩, ⟨(some 42), .nilc (.t 41), (some (31, true))⟩, ⟨(some 43), .faddr 0 (.t 42), (some (31, true))⟩, ⟨(some 44), .load none (.t 43), (some (31, true))⟩, ⟨(some 45), .mv (.t 5), (some (31, true))⟩, ⟨(some 46), .iaddr 1 (.t 44) (.t 45), (some (31, true))⟩, ⟨(some 47), .load none (.t 46), (some (31, true))⟩, ⟨(some 48), .call (.c (.fn 28 [])) [(.t 32), (.t 40), (.t 47)], (some (31, true))⟩, ⟨(some 49), .pick (.t 31) (.t 48) (.c (.bool false)), none⟩] [0, 1, 0, 4, 12, 28, 60, 127, 255, 511, 511, 1535, 3583, 7679, 511, 16895, 65023, 130559, 511, 262655, 786943, 1835519, 511, 8126975, 16515583, 33554431, 67108863])
    (.cond (.t 49)
      (.reg [⟨(some 50), .mv (.t 5), none⟩, ⟨(some 51), .bin .add .no (.t 50) (.c (.int .i64 1)), none⟩, ⟨(some 5), .mv (.t 51), none⟩])
      .skip))
    (.seq (.seq (.reg [⟨(some 52), .mv (.t 0), none⟩, ⟨(some 53), .mv (.t 0), none⟩, ⟨(some 54), .nilc (.t 53), none⟩, ⟨(some 55), .faddr 0 (.t 54), none⟩, ⟨(some 56), .load none (.t 55), none⟩, ⟨(some 57), .mv (.t 5), none⟩, ⟨(some 58), .iaddr 1 (.t 56) (.t 57), none⟩, ⟨(some 59), .load none (.t 58), none⟩, ⟨(some 60), .mv (.t 4), none⟩, ⟨(some 61), .call (.c (.fn 28 [])) [(.t 52), (.t 59), (.t 60)], none⟩, ⟨(some 62), .un .not (.t 61), none⟩])
    (.cond (.t 62)
      (.exit 0)
      .skip))
    (.seq (.reg [⟨(some 63), .mv (.t 0), none⟩, ⟨(some 64), .mv (.t 0), none⟩, ⟨(some 65), .nilc (.t 64), none⟩, ⟨(some 66), .faddr 0 (.t 65), none⟩, ⟨(some 67), .load none (.t 66), none⟩, ⟨(some 68), .mv (.t 5), none⟩, ⟨(some 69), .iaddr 1 (.t 67) (.t 68), none⟩, ⟨(some 70), .load none (.t 69), none⟩, ⟨(some 71), .mv (.t 1), none⟩, ⟨(some 72), .call (.c (.fn 29 [])) [(.t 63), (.t 70), (.t 71)], none⟩])
    (.reg [⟨(some 73), .mv (.t 5), none⟩, ⟨(some 1), .mv (.t 73), none⟩]))))))))
theorem downL_stop {A : Nat → Int} {L : List Nat} {P : List Int} {v i : Nat} (h : ¬ (2 * i + 1 < L.length ∧ Ah A (gN L (kid A L i)) v)) : ∀ k, downL A k L P v i = (L.set i v, P.set v i)
  | 0 => rfl
  | k + 1 => by unfold downL; rw [if_neg h]
theorem down_loop {n0 b bL bP bA v : Nat} {A : List Int} (Q : Ex → St → Prop) : ∀ (k i : Nat) (L : List Nat) (P : List Int) (h : H) (r w : List Nat) (j2 j3 j5 j6 j7 j8 j9 j10 j11 j12 j13 j14 j15 j16 j17 j18 j19 j20 j21 j22 j23 j24 j25 j26 j27 j28 j29 j30 j31 j32 j33 j34 j35 j36 j37 j38 j39 j40 j41 j42 j43 j44 j45 j46 j47 j48 j49 j50 j51 j52 j53 j54 j55 j56 j57 j58 j59 j60 j61 j62 j63 j64 j65 j66 j67 j68 j69 j70 j71 j72 j73 j74 j75 j76 j77 : V), L.length ≤ i + k → i < L.length → L.length ≤ 1000000 → v < A.length → P.length = A.length → (∀ x, x < L.length → gN L x < A.length) → HeapAt h b bL bP bA L P A →
    (∀ (i' : Nat) (L' : List Nat) (P' : List Int) (h' : H) (r' w' : List Nat) (k2 k3 k5 k6 k7 k8 k9 k10 k11 k12 k13 k14 k15 k16 k17 k18 k19 k20 k21 k22 k23 k24 k25 k26 k27 k28 k29 k30 k31 k32 k33 k34 k35 k36 k37 k38 k39 k40 k41 k42 k43 k44 k45 k46 k47 k48 k49 k50 k51 k52 k53 k54 k55 k56 k57 k58 k59 k60 k61 k62 k63 k64 k65 k66 k67 k68 k69 k70 k71 k72 k73 k74 k75 k76 k77 : V), HeapAt h' b bL bP bA L' P' A → Keeps h h' [bL, bP] → i' < L'.length → L'.length = L.length → P'.length = P.length → (L'.set i' v, P'.set v i') = downL (gI A) k L P v i → Q (.exit 0) ⟨[(.ptr b 0 0 0), (.int .i64 (i' : Nat)), k2, k3, (.int .i64 (v : Nat)), k5, k6, k7, k8, k9, k10, k11, k12, k13, k14, k15, k16, k17, k18, k19, k20, k21, k22, k23, k24, k25, k26, k27, k28, k29, k30, k31, k32, k33, k34, k35, k36, k37, k38, k39, k40, k41, k42, k43, k44, k45, k46, k47, k48, k49, k50, k51, k52, k53, k54, k55, k56, k57, k58, k59, k60, k61, k62, k63, k64, k65, k66, k67, k68, k69, k70, k71, k72, k73, k74, k75, k76, k77], h', r', w'⟩) →
    RQ EH n0 downLoop ⟨[(.ptr b 0 0 0), (.int .i64 (i : Nat)), j2, j3, (.int .i64 (v : Nat)), j5, j6, j7, j8, j9, j10, j11, j12, j13, j14, j15, j16, j17, j18, j19, j20, j21, j22, j23, j24, j25, j26, j27, j28, j29, j30, j31, j32, j33, j34, j35, j36, j37, j38, j39, j40, j41, j42, j43, j44, j45, j46, j47, j48, j49, j50, j51, j52, j53, j54, j55, j56, j57, j58, j59, j60, j61, j62, j63, j64, j65, j66, j67, j68, j69, j70, j71, j72, j73, j74, j75, j76, j77], h, r, w⟩ Q
  | k, i, L, P, h, r, w, j2, j3, j5, j6, j7, j8, j9, j10, j11, j12, j13, j14, j15, j16, j17, j18, j19, j20, j21, j22, j23, j24, j25, j26, j27, j28, j29, j30, j31, j32, j33, j34, j35, j36, j37, j38, j39, j40, j41, j42, j43, j44, j45, j46, j47, j48, j49, j50, j51, j52, j53, j54, j55, j56, j57, j58, j59, j60, j61, j62, j63, j64, j65, j66, j67, j68, j69, j70, j71, j72, j73, j74, j75, j76, j77, hk, hi, hL, hv, hP, hx, hH, hQ => by
    have hH0 := hH
    obtain ⟨⟨lv, pv, av, hb, hl, hp, ha, hcl⟩, n1, n2, n3, n4, n5, n6⟩ := hH
    rcases hl with ⟨_, hl, _⟩ | hl
    · subst hl; simp at hi
    obtain ⟨cL, rL, jL, eL, hL', sL, oL, lL⟩ := hl
    subst eL
    have lN := nats_len L
    have e0 : 2 * (i : Int) = ((2 * i : Nat) : Int) := by omega
    have e1 : ((2 * i : Nat) : Int) + 1 = ((2 * i + 1 : Nat) : Int) := by omega
    have e2 : ((2 * i + 1 : Nat) : Int) + 1 = ((2 * i + 2 : Nat) : Int) := by omega
    unfold downLoop
    apply q_loop
    by_cases h1 : 2 * i + 1 < L.length
    · have c1 : decide (((nats L).length : Int) ≤ ((2 * i + 1 : Nat) : Int)) = false := by rw [lN]; exact decide_eq_false (by omega)
      by_cases h2 : 2 * i + 2 < L.length
      · have c2 : decide (((2 * i + 2 : Nat) : Int) < ((nats L).length : Int)) = true := by rw [lN]; exact decide_eq_true (by omega)
        by_cases h3 : Ah (gI A) (gN L (2 * i + 2)) (gN L (2 * i + 1))
        · have hd1 : ∃ r, Calls' EH 28 [.ptr b 0 0 0, .int .i64 (gN L (2 * i + 2) : Nat), .int .i64 (gN L (2 * i + 1) : Nat)] h ⟨.bool true, h, r, []⟩ := by
            have := ahead_run hH0 (hx (2 * i + 2) h2) (hx (2 * i + 1) h1)
            rw [decide_eq_true h3] at this; exact this
          have kf : kid (gI A) L i = 2 * i + 2 := by unfold kid; rw [if_pos ⟨h2, h3⟩]
          by_cases hah : Ah (gI A) (gN L (2 * i + 2)) v
          · have hd2 : ∃ r, Calls' EH 28 [.ptr b 0 0 0, .int .i64 (gN L (2 * i + 2) : Nat), .int .i64 v] h ⟨.bool true, h, r, []⟩ := by
              have := ahead_run hH0 (hx (2 * i + 2) (by omega)) hv
              rw [decide_eq_true hah] at this; exact this
            have hy := lay_run hH0 (v := gN L (2 * i + 2)) (i := i) hi (by have := hx (2 * i + 2) (by omega); omega)
            repeat (first
            | with_reducible apply q_seq
            | with_reducible apply q_reg
            | with_reducible apply q_draw
            | with_reducible apply q_ret
            | with_reducible apply q_skip
            | with_reducible apply q_exit
            | with_reducible apply q_block
            | with_reducible apply k_norm
            | with_reducible apply k_ret
            | with_reducible apply k_exit
            | with_reducible apply b_norm
            | with_reducible apply b_ret
            | with_reducible apply b_leave
            | ((with_reducible apply b_exit); decide)
            | with_reducible apply g_nil
            | with_reducible apply d_nil
            | ((with_reducible apply q_true); rfl)
            | ((with_reducible apply q_false); rfl)
            | ((with_reducible apply g_skip)
               · rfl
               · dsimp only [putV, List.set]; try rfl)
            | ((with_reducible apply d_skip)
               · rfl
               · dsimp only [putV, List.set]; try rfl)
            | ((with_reducible apply g_read)
               · rfl
               · rfl
               · rfl
               · exact hd1
               · dsimp only [putV, List.set]; try rfl
               intro _)
            | ((with_reducible apply d_read)
               · rfl
               · rfl
               · rfl
               · exact hd1
               · rfl
               · dsimp only [putV, List.set]; try rfl
               intro _ _)
            | ((with_reducible apply g_read)
               · rfl
               · rfl
               · rfl
               · exact hd2
               · dsimp only [putV, List.set]; try rfl
               intro _)
            | ((with_reducible apply d_read)
               · rfl
               · rfl
               · rfl
               · exact hd2
               · rfl
               · dsimp only [putV, List.set]; try rfl
               intro _ _)
            | ((with_reducible apply g_call)
               · rfl
               · rfl
               · rfl
               · exact hy
               · dsimp only [putV, List.set]; try rfl)
            | ((with_reducible apply g_go)
               · rfl
               · first
                 | ((with_reducible apply ops_add); rfl; rfl; (first | assumption | rfl); omega; omega)
                 | ((with_reducible apply ops_sub); rfl; rfl; (first | assumption | rfl); omega; omega)
                 | ((with_reducible apply ops_mul); rfl; rfl; (first | assumption | rfl); omega; omega)
                 | ((with_reducible apply ops_quo); rfl; rfl; decide; (first | assumption | rfl); omega; omega)
                 | ((with_reducible apply ops_rem); rfl; rfl; omega; (first | assumption | rfl))
                 | ((with_reducible apply ops_lss); rfl; rfl; (first | assumption | rfl))
                 | ((with_reducible apply ops_gtr); rfl; rfl; (first | assumption | rfl))
                 | ((with_reducible apply ops_leq); rfl; rfl; (first | assumption | rfl))
                 | ((with_reducible apply ops_geq); rfl; rfl; (first | assumption | rfl))
                 | ((with_reducible apply ops_eql); rfl; rfl; (first | assumption | rfl))
                 | ((with_reducible apply ops_neq); rfl; rfl; (first | assumption | rfl))
                 | ((with_reducible apply ops_min2); rfl; (first | assumption | rfl))
                 | ((with_reducible apply ops_max2); rfl; (first | assumption | rfl))
                 | ((with_reducible apply ops_iaddrN); rfl; rfl; omega; rfl)
                 | ((with_reducible apply ops_iaddr); rfl; rfl; omega; omega; rfl; rfl)
                 | ((with_reducible apply ops_load); rfl; exact rowAt_of (by first | assumption) (Nat.zero_le _) (Nat.zero_le _); rfl; rfl)
                 | ((with_reducible apply arr_loadN); rfl; (first | assumption); assumption; assumption; (first | assumption | (apply ints_get; omega) | (apply nats_get; omega)); rfl)
                 | ((with_reducible apply arr_storeN); rfl; rfl; (first | assumption); assumption; assumption; (first | assumption | (apply ints_get; omega) | (apply nats_get; omega)); rfl; rfl; rfl; rfl; rfl)
                 | ((with_reducible apply ops_struct); rfl; rfl; (first | assumption); rfl; rfl; rfl; rfl; rfl; exact Nat.le_of_ble_eq_true rfl; rfl)
                 | ((with_reducible apply ops_bslice1); rfl; rfl; rfl)
                 | ((with_reducible apply ops_push); rfl; rfl; (first | assumption); (first | assumption); assumption; assumption; assumption; assumption; omega; rfl)
                 | ((with_reducible apply ops_cutN); rfl; rfl; omega)
                 | exact ops_of rfl
               · dsimp only [putV, List.set]; try rfl)
            | ((with_reducible apply d_go)
               · rfl
               · first
                 | ((with_reducible apply ops_add); rfl; rfl; (first | assumption | rfl); omega; omega)
                 | ((with_reducible apply ops_sub); rfl; rfl; (first | assumption | rfl); omega; omega)
                 | ((with_reducible apply ops_mul); rfl; rfl; (first | assumption | rfl); omega; omega)
                 | ((with_reducible apply ops_quo); rfl; rfl; decide; (first | assumption | rfl); omega; omega)
                 | ((with_reducible apply ops_rem); rfl; rfl; omega; (first | assumption | rfl))
                 | ((with_reducible apply ops_lss); rfl; rfl; (first | assumption | rfl))
                 | ((with_reducible apply ops_gtr); rfl; rfl; (first | assumption | rfl))
                 | ((with_reducible apply ops_leq); rfl; rfl; (first | assumption | rfl))
                 | ((with_reducible apply ops_geq); rfl; rfl; (first | assumption | rfl))
                 | ((with_reducible apply ops_eql); rfl; rfl; (first | assumption | rfl))
                 | ((with_reducible apply ops_neq); rfl; rfl; (first | assumption | rfl))
                 | ((with_reducible apply ops_min2); rfl; (first | assumption | rfl))
                 | ((with_reducible apply ops_max2); rfl; (first | assumption | rfl))
                 | ((with_reducible apply ops_iaddrN); rfl; rfl; omega; rfl)
                 | ((with_reducible apply ops_iaddr); rfl; rfl; omega; omega; rfl; rfl)
                 | ((with_reducible apply ops_load); rfl; exact rowAt_of (by first | assumption) (Nat.zero_le _) (Nat.zero_le _); rfl; rfl)
                 | ((with_reducible apply arr_loadN); rfl; (first | assumption); assumption; assumption; (first | assumption | (apply ints_get; omega) | (apply nats_get; omega)); rfl)
                 | ((with_reducible apply arr_storeN); rfl; rfl; (first | assumption); assumption; assumption; (first | assumption | (apply ints_get; omega) | (apply nats_get; omega)); rfl; rfl; rfl; rfl; rfl)
                 | ((with_reducible apply ops_struct); rfl; rfl; (first | assumption); rfl; rfl; rfl; rfl; rfl; exact Nat.le_of_ble_eq_true rfl; rfl)
                 | ((with_reducible apply ops_bslice1); rfl; rfl; rfl)
                 | ((with_reducible apply ops_push); rfl; rfl; (first | assumption); (first | assumption); assumption; assumption; assumption; assumption; omega; rfl)
                 | ((with_reducible apply ops_cutN); rfl; rfl; omega)
                 | exact ops_of rfl
               · (first | with_reducible exact free_empty | rw [allW_same] | rw [allW_set] | rw [allW_push]) <;> (repeat (first | with_reducible exact free_nil | with_reducible exact free_empty | ((with_reducible apply free_mask); rfl) | ((with_reducible apply free_ne); first | rfl | (simp [clash, meets, *]; done))))
               · first | exact note_same | exact note_read | exact note_set | exact note_push
               · dsimp only [putV, List.set]; try rfl))
            intro r1 w1 h1 hD
            obtain ⟨hH1, hK1⟩ := hD
            repeat (first
            | with_reducible apply q_seq
            | with_reducible apply q_reg
            | with_reducible apply q_draw
            | with_reducible apply q_ret
            | with_reducible apply q_skip
            | with_reducible apply q_exit
            | with_reducible apply q_block
            | with_reducible apply k_norm
            | with_reducible apply k_ret
            | with_reducible apply k_exit
            | with_reducible apply b_norm
            | with_reducible apply b_ret
            | with_reducible apply b_leave
            | ((with_reducible apply b_exit); decide)
            | with_reducible apply g_nil
            | with_reducible apply d_nil
            | ((with_reducible apply q_true); rfl)
            | ((with_reducible apply q_false); rfl)
            | ((with_reducible apply g_skip)
               · rfl
               · dsimp only [putV, List.set]; try rfl)
            | ((with_reducible apply d_skip)
               · rfl
               · dsimp only [putV, List.set]; try rfl)
            | ((with_reducible apply g_go)
               · rfl
               · first
                 | ((with_reducible apply ops_add); rfl; rfl; (first | assumption | rfl); omega; omega)
                 | ((with_reducible apply ops_sub); rfl; rfl; (first | assumption | rfl); omega; omega)
                 | ((with_reducible apply ops_mul); rfl; rfl; (first | assumption | rfl); omega; omega)
                 | ((with_reducible apply ops_quo); rfl; rfl; decide; (first | assumption | rfl); omega; omega)
                 | ((with_reducible apply ops_rem); rfl; rfl; omega; (first | assumption | rfl))
                 | ((with_reducible apply ops_lss); rfl; rfl; (first | assumption | rfl))
                 | ((with_reducible apply ops_gtr); rfl; rfl; (first | assumption | rfl))
                 | ((with_reducible apply ops_leq); rfl; rfl; (first | assumption | rfl))
                 | ((with_reducible apply ops_geq); rfl; rfl; (first | assumption | rfl))
                 | ((with_reducible apply ops_eql); rfl; rfl; (first | assumption | rfl))
                 | ((with_reducible apply ops_neq); rfl; rfl; (first | assumption | rfl))
                 | ((with_reducible apply ops_min2); rfl; (first | assumption | rfl))
                 | ((with_reducible apply ops_max2); rfl; (first | assumption | rfl))
                 | ((with_reducible apply ops_iaddrN); rfl; rfl; omega; rfl)
                 | ((with_reducible apply ops_iaddr); rfl; rfl; omega; omega; rfl; rfl)
                 | ((with_reducible apply ops_load); rfl; exact rowAt_of (by first | assumption) (Nat.zero_le _) (Nat.zero_le _); rfl; rfl)
                 | ((with_reducible apply arr_loadN); rfl; (first | assumption); assumption; assumption; (first | assumption | (apply ints_get; omega) | (apply nats_get; omega)); rfl)
                 | ((with_reducible apply arr_storeN); rfl; rfl; (first | assumption); assumption; assumption; (first | assumption | (apply ints_get; omega) | (apply nats_get; omega)); rfl; rfl; rfl; rfl; rfl)
                 | ((with_reducible apply ops_struct); rfl; rfl; (first | assumption); rfl; rfl; rfl; rfl; rfl; exact Nat.le_of_ble_eq_true rfl; rfl)
                 | ((with_reducible apply ops_bslice1); rfl; rfl; rfl)
                 | ((with_reducible apply ops_push); rfl; rfl; (first | assumption); (first | assumption); assumption; assumption; assumption; assumption; omega; rfl)
                 | ((with_reducible apply ops_cutN); rfl; rfl; omega)
                 | exact ops_of rfl
               · dsimp only [putV, List.set]; try rfl)
            | ((with_reducible apply d_go)
               · rfl
               · first
                 | ((with_reducible apply ops_add); rfl; rfl; (first | assumption | rfl); omega; omega)
                 | ((with_reducible apply ops_sub); rfl; rfl; (first | assumption | rfl); omega; omega)
                 | ((with_reducible apply ops_mul); rfl; rfl; (first | assumption | rfl); omega; omega)
                 | ((with_reducible apply ops_quo); rfl; rfl; decide; (first | assumption | rfl); omega; omega)
                 | ((with_reducible apply ops_rem); rfl; rfl; omega; (first | assumption | rfl))
                 | ((with_reducible apply ops_lss); rfl; rfl; (first | assumption | rfl))
                 | ((with_reducible apply ops_gtr); rfl; rfl; (first | assumption | rfl))
                 | ((with_reducible apply ops_leq); rfl; rfl; (first | assumption | rfl))
                 | ((with_reducible apply ops_geq); rfl; rfl; (first | assumption | rfl))
                 | ((with_reducible apply ops_eql); rfl; rfl; (first | assumption | rfl))
                 | ((with_reducible apply ops_neq); rfl; rfl; (first | assumption | rfl))
                 | ((with_reducible apply ops_min2); rfl; (first | assumption | rfl))
                 | ((with_reducible apply ops_max2); rfl; (first | assumption | rfl))
                 | ((with_reducible apply ops_iaddrN); rfl; rfl; omega; rfl)
                 | ((with_reducible apply ops_iaddr); rfl; rfl; omega; omega; rfl; rfl)
                 | ((with_reducible apply ops_load); rfl; exact rowAt_of (by first | assumption) (Nat.zero_le _) (Nat.zero_le _); rfl; rfl)
                 | ((with_reducible apply arr_loadN); rfl; (first | assumption); assumption; assumption; (first | assumption | (apply ints_get; omega) | (apply nats_get; omega)); rfl)
                 | ((with_reducible apply arr_storeN); rfl; rfl; (first | assumption); assumption; assumption; (first | assumption | (apply ints_get; omega) | (apply nats_get; omega)); rfl; rfl; rfl; rfl; rfl)
                 | ((with_reducible apply ops_struct); rfl; rfl; (first | assumption); rfl; rfl; rfl; rfl; rfl; exact Nat.le_of_ble_eq_true rfl; rfl)
                 | ((with_reducible apply ops_bslice1); rfl; rfl; rfl)
                 | ((with_reducible apply ops_push); rfl; rfl; (first | assumption); (first | assumption); assumption; assumption; assumption; assumption; omega; rfl)
                 | ((with_reducible apply ops_cutN); rfl; rfl; omega)
                 | exact ops_of rfl
               · (first | with_reducible exact free_empty | rw [allW_same] | rw [allW_set] | rw [allW_push]) <;> (repeat (first | with_reducible exact free_nil | with_reducible exact free_empty | ((with_reducible apply free_mask); rfl) | ((with_reducible apply free_ne); first | rfl | (simp [clash, meets, *]; done))))
               · first | exact note_same | exact note_read | exact note_set | exact note_push
               · dsimp only [putV, List.set]; try rfl))
            match k, hk with
            | 0, hk => omega
            | k + 1, hk =>
              refine down_loop Q k (2 * i + 2) _ _ h1 _ _ _ _ _ _ _ _ _ _ _ _ _ _ _ _ _ _ _ _ _ _ _ _ _ _ _ _ _ _ _ _ _ _ _ _ _ _ _ _ _ _ _ _ _ _ _ _ _ _ _ _ _ _ _ _ _ _ _ _ _ _ _ _ _ _ _ _ _ _ _ _ _ _ _ _ _ (by rw [List.length_set]; omega) (by simp; omega) (by simp; omega) hv (by simp [hP]) ?_ hH1 ?_
              · intro x hxl
                rw [List.length_set] at hxl
                rw [gN_set hi]
                split
                · exact hx _ (by omega)
                · exact hx x hxl
              · intro i' L' P' h' r' w' k2 k3 k5 k6 k7 k8 k9 k10 k11 k12 k13 k14 k15 k16 k17 k18 k19 k20 k21 k22 k23 k24 k25 k26 k27 k28 k29 k30 k31 k32 k33 k34 k35 k36 k37 k38 k39 k40 k41 k42 k43 k44 k45 k46 k47 k48 k49 k50 k51 k52 k53 k54 k55 k56 k57 k58 k59 k60 k61 k62 k63 k64 k65 k66 k67 k68 k69 k70 k71 k72 k73 k74 k75 k76 k77 a1 a2 a3 a4 a5 a6
                refine hQ i' L' P' h' r' w' k2 k3 k5 k6 k7 k8 k9 k10 k11 k12 k13 k14 k15 k16 k17 k18 k19 k20 k21 k22 k23 k24 k25 k26 k27 k28 k29 k30 k31 k32 k33 k34 k35 k36 k37 k38 k39 k40 k41 k42 k43 k44 k45 k46 k47 k48 k49 k50 k51 k52 k53 k54 k55 k56 k57 k58 k59 k60 k61 k62 k63 k64 k65 k66 k67 k68 k69 k70 k71 k72 k73 k74 k75 k76 k77 a1 (hK1.trans a2) a3 (by simpa using a4) (by simpa using a5) ?_
                rw [a6]; conv => rhs; unfold downL
                rw [kf, if_pos ⟨by omega, hah⟩]
          · have hd2 : ∃ r, Calls' EH 28 [.ptr b 0 0 0, .int .i64 (gN L (2 * i + 2) : Nat), .int .i64 v] h ⟨.bool false, h, r, []⟩ := by
              have := ahead_run hH0 (hx (2 * i + 2) (by omega)) hv
              rw [decide_eq_false hah] at this; exact this
            repeat (first
            | with_reducible apply q_seq
            | with_reducible apply q_reg
            | with_reducible apply q_draw
            | with_reducible apply q_ret
            | with_reducible apply q_skip
            | with_reducible apply q_exit
            | with_reducible apply q_block
            | with_reducible apply k_norm
            | with_reducible apply k_ret
            | with_reducible apply k_exit
            | with_reducible apply b_norm
            | with_reducible apply b_ret
            | with_reducible apply b_leave
            | ((with_reducible apply b_exit); decide)
            | with_reducible apply g_nil
            | with_reducible apply d_nil
            | ((with_reducible apply q_true); rfl)
            | ((with_reducible apply q_false); rfl)
            | ((with_reducible apply g_skip)
               · rfl
               · dsimp only [putV, List.set]; try rfl)
            | ((with_reducible apply d_skip)
               · rfl
               · dsimp only [putV, List.set]; try rfl)
            | ((with_reducible apply g_read)
               · rfl
               · rfl
               · rfl
               · exact hd1
               · dsimp only [putV, List.set]; try rfl
               intro _)
            | ((with_reducible apply d_read)
               · rfl
               · rfl
               · rfl
               · exact hd1
               · rfl
               · dsimp only [putV, List.set]; try rfl
               intro _ _)
            | ((with_reducible apply g_read)
               · rfl
               · rfl
               · rfl
               · exact hd2
               · dsimp only [putV, List.set]; try rfl
               intro _)
            | ((with_reducible apply d_read)
               · rfl
               · rfl
               · rfl
               · exact hd2
               · rfl
               · dsimp only [putV, List.set]; try rfl
               intro _ _)
            | ((with_reducible apply g_go)
               · rfl
               · first
                 | ((with_reducible apply ops_add); rfl; rfl; (first | assumption | rfl); omega; omega)
                 | ((with_reducible apply ops_sub); rfl; rfl; (first | assumption | rfl); omega; omega)
                 | ((with_reducible apply ops_mul); rfl; rfl; (first | assumption | rfl); omega; omega)
                 | ((with_reducible apply ops_quo); rfl; rfl; decide; (first | assumption | rfl); omega; omega)
                 | ((with_reducible apply ops_rem); rfl; rfl; omega; (first | assumption | rfl))
                 | ((with_reducible apply ops_lss); rfl; rfl; (first | assumption | rfl))
                 | ((with_reducible apply ops_gtr); rfl; rfl; (first | assumption | rfl))
                 | ((with_reducible apply ops_leq); rfl; rfl; (first | assumption | rfl))
                 | ((with_reducible apply ops_geq); rfl; rfl; (first | assumption | rfl))
                 | ((with_reducible apply ops_eql); rfl; rfl; (first | assumption | rfl))
                 | ((with_reducible apply ops_neq); rfl; rfl; (first | assumption | rfl))
                 | ((with_reducible apply ops_min2); rfl; (first | assumption | rfl))
                 | ((with_reducible apply ops_max2); rfl; (first | assumption | rfl))
                 | ((with_reducible apply ops_iaddrN); rfl; rfl; omega; rfl)
                 | ((with_reducible apply ops_iaddr); rfl; rfl; omega; omega; rfl; rfl)
                 | ((with_reducible apply ops_load); rfl; exact rowAt_of (by first | assumption) (Nat.zero_le _) (Nat.zero_le _); rfl; rfl)
                 | ((with_reducible apply arr_loadN); rfl; (first | assumption); assumption; assumption; (first | assumption | (apply ints_get; omega) | (apply nats_get; omega)); rfl)
                 | ((with_reducible apply arr_storeN); rfl; rfl; (first | assumption); assumption; assumption; (first | assumption | (apply ints_get; omega) | (apply nats_get; omega)); rfl; rfl; rfl; rfl; rfl)
                 | ((with_reducible apply ops_struct); rfl; rfl; (first | assumption); rfl; rfl; rfl; rfl; rfl; exact Nat.le_of_ble_eq_true rfl; rfl)
                 | ((with_reducible apply ops_bslice1); rfl; rfl; rfl)
                 | ((with_reducible apply ops_push); rfl; rfl; (first | assumption); (first | assumption); assumption; assumption; assumption; assumption; omega; rfl)
                 | ((with_reducible apply ops_cutN); rfl; rfl; omega)
                 | exact ops_of rfl
               · dsimp only [putV, List.set]; try rfl)
            | ((with_reducible apply d_go)
               · rfl
               · first
                 | ((with_reducible apply ops_add); rfl; rfl; (first | assumption | rfl); omega; omega)
                 | ((with_reducible apply ops_sub); rfl; rfl; (first | assumption | rfl); omega; omega)
                 | ((with_reducible apply ops_mul); rfl; rfl; (first | assumption | rfl); omega; omega)
                 | ((with_reducible apply ops_quo); rfl; rfl; decide; (first | assumption | rfl); omega; omega)
                 | ((with_reducible apply ops_rem); rfl; rfl; omega; (first | assumption | rfl))
                 | ((with_reducible apply ops_lss); rfl; rfl; (first | assumption | rfl))
                 | ((with_reducible apply ops_gtr); rfl; rfl; (first | assumption | rfl))
                 | ((with_reducible apply ops_leq); rfl; rfl; (first | assumption | rfl))
                 | ((with_reducible apply ops_geq); rfl; rfl; (first | assumption | rfl))
                 | ((with_reducible apply ops_eql); rfl; rfl; (first | assumption | rfl))
                 | ((with_reducible apply ops_neq); rfl; rfl; (first | assumption | rfl))
                 | ((with_reducible apply ops_min2); rfl; (first | assumption | rfl))
                 | ((with_reducible apply ops_max2); rfl; (first | assumption | rfl))
                 | ((with_reducible apply ops_iaddrN); rfl; rfl; omega; rfl)
                 | ((with_reducible apply ops_iaddr); rfl; rfl; omega; omega; rfl; rfl)
                 | ((with_reducible apply ops_load); rfl; exact rowAt_of (by first | assumption) (Nat.zero_le _) (Nat.zero_le _); rfl; rfl)
                 | ((with_reducible apply arr_loadN); rfl; (first | assumption); assumption; assumption; (first | assumption | (apply ints_get; omega) | (apply nats_get; omega)); rfl)
                 | ((with_reducible apply arr_storeN); rfl; rfl; (first | assumption); assumption; assumption; (first | assumption | (apply ints_get; omega) | (apply nats_get; omega)); rfl; rfl; rfl; rfl; rfl)
                 | ((with_reducible apply ops_struct); rfl; rfl; (first | assumption); rfl; rfl; rfl; rfl; rfl; exact Nat.le_of_ble_eq_true rfl; rfl)
                 | ((with_reducible apply ops_bslice1); rfl; rfl; rfl)
                 | ((with_reducible apply ops_push); rfl; rfl; (first | assumption); (first | assumption); assumption; assumption; assumption; assumption; omega; rfl)
                 | ((with_reducible apply ops_cutN); rfl; rfl; omega)
                 | exact ops_of rfl
               · (first | with_reducible exact free_empty | rw [allW_same] | rw [allW_set] | rw [allW_push]) <;> (repeat (first | with_reducible exact free_nil | with_reducible exact free_empty | ((with_reducible apply free_mask); rfl) | ((with_reducible apply free_ne); first | rfl | (simp [clash, meets, *]; done))))
               · first | exact note_same | exact note_read | exact note_set | exact note_push
               · dsimp only [putV, List.set]; try rfl))
            exact hQ i L P h _ _ _ _ _ _ _ _ _ _ _ _ _ _ _ _ _ _ _ _ _ _ _ _ _ _ _ _ _ _ _ _ _ _ _ _ _ _ _ _ _ _ _ _ _ _ _ _ _ _ _ _ _ _ _ _ _ _ _ _ _ _ _ _ _ _ _ _ _ _ _ _ _ _ _ _ _ hH0 (Keeps.refl _ _) hi rfl rfl (downL_stop (fun h => hah (by rw [← kf]; exact h.2)) k).symm
        · have hd1 : ∃ r, Calls' EH 28 [.ptr b 0 0 0, .int .i64 (gN L (2 * i + 2) : Nat), .int .i64 (gN L (2 * i + 1) : Nat)] h ⟨.bool false, h, r, []⟩ := by
            have := ahead_run hH0 (hx (2 * i + 2) h2) (hx (2 * i + 1) h1)
            rw [decide_eq_false h3] at this; exact this
          have kf : kid (gI A) L i = 2 * i + 1 := by unfold kid; rw [if_neg (fun h => h3 h.2)]
          by_cases hah : Ah (gI A) (gN L (2 * i + 1)) v
          · have hd2 : ∃ r, Calls' EH 28 [.ptr b 0 0 0, .int .i64 (gN L (2 * i + 1) : Nat), .int .i64 v] h ⟨.bool true, h, r, []⟩ := by
              have := ahead_run hH0 (hx (2 * i + 1) (by omega)) hv
              rw [decide_eq_true hah] at this; exact this
            have hy := lay_run hH0 (v := gN L (2 * i + 1)) (i := i) hi (by have := hx (2 * i + 1) (by omega); omega)
            repeat (first
            | with_reducible apply q_seq
            | with_reducible apply q_reg
            | with_reducible apply q_draw
            | with_reducible apply q_ret
            | with_reducible apply q_skip
            | with_reducible apply q_exit
            | with_reducible apply q_block
            | with_reducible apply k_norm
            | with_reducible apply k_ret
            | with_reducible apply k_exit
            | with_reducible apply b_norm
            | with_reducible apply b_ret
            | with_reducible apply b_leave
            | ((with_reducible apply b_exit); decide)
            | with_reducible apply g_nil
            | with_reducible apply d_nil
            | ((with_reducible apply q_true); rfl)
            | ((with_reducible apply q_false); rfl)
            | ((with_reducible apply g_skip)
               · rfl
               · dsimp only [putV, List.set]; try rfl)
            | ((with_reducible apply d_skip)
               · rfl
               · dsimp only [putV, List.set]; try rfl)
            | ((with_reducible apply g_read)
               · rfl
               · rfl
               · rfl
               · exact hd1
               · dsimp only [putV, List.set]; try rfl
               intro _)
            | ((with_reducible apply d_read)
               · rfl
               · rfl
               · rfl
               · exact hd1
               · rfl
               · dsimp only [putV, List.set]; try rfl
               intro _ _)
            | ((with_reducible apply g_read)
               · rfl
               · rfl
               · rfl
               · exact hd2
               · dsimp only [putV, List.set]; try rfl
               intro _)
            | ((with_reducible apply d_read)
               · rfl
               · rfl
               · rfl
               · exact hd2
               · rfl
               · dsimp only [putV, List.set]; try rfl
               intro _ _)
            | ((with_reducible apply g_call)
               · rfl
               · rfl
               · rfl
               · exact hy
               · dsimp only [putV, List.set]; try rfl)
            | ((with_reducible apply g_go)
               · rfl
               · first
                 | ((with_reducible apply ops_add); rfl; rfl; (first | assumption | rfl); omega; omega)
                 | ((with_reducible apply ops_sub); rfl; rfl; (first | assumption | rfl); omega; omega)
                 | ((with_reducible apply ops_mul); rfl; rfl; (first | assumption | rfl); omega; omega)
                 | ((with_reducible apply ops_quo); rfl; rfl; decide; (first | assumption | rfl); omega; omega)
                 | ((with_reducible apply ops_rem); rfl; rfl; omega; (first | assumption | rfl))
                 | ((with_reducible apply ops_lss); rfl; rfl; (first | assumption | rfl))
                 | ((with_reducible apply ops_gtr); rfl; rfl; (first | assumption | rfl))
                 | ((with_reducible apply ops_leq); rfl; rfl; (first | assumption | rfl))
                 | ((with_reducible apply ops_geq); rfl; rfl; (first | assumption | rfl))
                 | ((with_reducible apply ops_eql); rfl; rfl; (first | assumption | rfl))
                 | ((with_reducible apply ops_neq); rfl; rfl; (first | assumption | rfl))
                 | ((with_reducible apply ops_min2); rfl; (first | assumption | rfl))
                 | ((with_reducible apply ops_max2); rfl; (first | assumption | rfl))
                 | ((with_reducible apply ops_iaddrN); rfl; rfl; omega; rfl)
                 | ((with_reducible apply ops_iaddr); rfl; rfl; omega; omega; rfl; rfl)
                 | ((with_reducible apply ops_load); rfl; exact rowAt_of (by first | assumption) (Nat.zero_le _) (Nat.zero_le _); rfl; rfl)
                 | ((with_reducible apply arr_loadN); rfl; (first | assumption); assumption; assumption; (first | assumption | (apply ints_get; omega) | (apply nats_get; omega)); rfl)
                 | ((with_reducible apply arr_storeN); rfl; rfl; (first | assumption); assumption; assumption; (first | assumption | (apply ints_get; omega) | (apply nats_get; omega)); rfl; rfl; rfl; rfl; rfl)
                 | ((with_reducible apply ops_struct); rfl; rfl; (first | assumption); rfl; rfl; rfl; rfl; rfl; exact Nat.le_of_ble_eq_true rfl; rfl)
                 | ((with_reducible apply ops_bslice1); rfl; rfl; rfl)
                 | ((with_reducible apply ops_push); rfl; rfl; (first | assumption); (first | assumption); assumption; assumption; assumption; assumption; omega; rfl)
                 | ((with_reducible apply ops_cutN); rfl; rfl; omega)
                 | exact ops_of rfl
               · dsimp only [putV, List.set]; try rfl)
            | ((with_reducible apply d_go)
               · rfl
               · first
                 | ((with_reducible apply ops_add); rfl; rfl; (first | assumption | rfl); omega; omega)
                 | ((with_reducible apply ops_sub); rfl; rfl; (first | assumption | rfl); omega; omega)
                 | ((with_reducible apply ops_mul); rfl; rfl; (first | assumption | rfl); omega; omega)
                 | ((with_reducible apply ops_quo); rfl; rfl; decide; (first | assumption | rfl); omega; omega)
                 | ((with_reducible apply ops_rem); rfl; rfl; omega; (first | assumption | rfl))
                 | ((with_reducible apply ops_lss); rfl; rfl; (first | assumption | rfl))
                 | ((with_reducible apply ops_gtr); rfl; rfl; (first | assumption | rfl))
                 | ((with_reducible apply ops_leq); rfl; rfl; (first | assumption | rfl))
                 | ((with_reducible apply ops_geq); rfl; rfl; (first | assumption | rfl))
                 | ((with_reducible apply ops_eql); rfl; rfl; (first | assumption | rfl))
                 | ((with_reducible apply ops_neq); rfl; rfl; (first | assumption | rfl))
                 | ((with_reducible apply ops_min2); rfl; (first | assumption | rfl))
                 | ((with_reducible apply ops_max2); rfl; (first | assumption | rfl))
                 | ((with_reducible apply ops_iaddrN); rfl; rfl; omega; rfl)
                 | ((with_reducible apply ops_iaddr); rfl; rfl; omega; omega; rfl; rfl)
                 | ((with_reducible apply ops_load); rfl; exact rowAt_of (by first | assumption) (Nat.zero_le _) (Nat.zero_le _); rfl; rfl)
                 | ((with_reducible apply arr_loadN); rfl; (first | assumption); assumption; assumption; (first | assumption | (apply ints_get; omega) | (apply nats_get; omega)); rfl)
                 | ((with_reducible apply arr_storeN); rfl; rfl; (first | assumption); assumption; assumption; (first | assumption | (apply ints_get; omega) | (apply nats_get; omega)); rfl; rfl; rfl; rfl; rfl)
                 | ((with_reducible apply ops_struct); rfl; rfl; (first | assumption); rfl; rfl; rfl; rfl; rfl; exact Nat.le_of_ble_eq_true rfl; rfl)
                 | ((with_reducible apply ops_bslice1); rfl; rfl; rfl)
                 | ((with_reducible apply ops_push); rfl; rfl; (first | assumption); (first | assumption); assumption; assumption; assumption; assumption; omega; rfl)
                 | ((with_reducible apply ops_cutN); rfl; rfl; omega)
                 | exact ops_of rfl
               · (first | with_reducible exact free_empty | rw [allW_same] | rw [allW_set] | rw [allW_push]) <;> (repeat (first | with_reducible exact free_nil | with_reducible exact free_empty | ((with_reducible apply free_mask); rfl) | ((with_reducible apply free_ne); first | rfl | (simp [clash, meets, *]; done))))
               · first | exact note_same | exact note_read | exact note_set | exact note_push
               · dsimp only [putV, List.set]; try rfl))
            intro r1 w1 h1 hD
            obtain ⟨hH1, hK1⟩ := hD
            repeat (first
            | with_reducible apply q_seq
            | with_reducible apply q_reg
            | with_reducible apply q_draw
            | with_reducible apply q_ret
            | with_reducible apply q_skip
            | with_reducible apply q_exit
            | with_reducible apply q_block
            | with_reducible apply k_norm
            | with_reducible apply k_ret
            | with_reducible apply k_exit
            | with_reducible apply b_norm
            | with_reducible apply b_ret
            | with_reducible apply b_leave
            | ((with_reducible apply b_exit); decide)
            | with_reducible apply g_nil
            | with_reducible apply d_nil
            | ((with_reducible apply q_true); rfl)
            | ((with_reducible apply q_false); rfl)
            | ((with_reducible apply g_skip)
               · rfl
               · dsimp only [putV, List.set]; try rfl)
            | ((with_reducible apply d_skip)
               · rfl
               · dsimp only [putV, List.set]; try rfl)
            | ((with_reducible apply g_go)
               · rfl
               · first
                 | ((with_reducible apply ops_add); rfl; rfl; (first | assumption | rfl); omega; omega)
                 | ((with_reducible apply ops_sub); rfl; rfl; (first | assumption | rfl); omega; omega)
                 | ((with_reducible apply ops_mul); rfl; rfl; (first | assumption | rfl); omega; omega)
                 | ((with_reducible apply ops_quo); rfl; rfl; decide; (first | assumption | rfl); omega; omega)
                 | ((with_reducible apply ops_rem); rfl; rfl; omega; (first | assumption | rfl))
                 | ((with_reducible apply ops_lss); rfl; rfl; (first | assumption | rfl))
                 | ((with_reducible apply ops_gtr); rfl; rfl; (first | assumption | rfl))
                 | ((with_reducible apply ops_leq); rfl; rfl; (first | assumption | rfl))
                 | ((with_reducible apply ops_geq); rfl; rfl; (first | assumption | rfl))
                 | ((with_reducible apply ops_eql); rfl; rfl; (first | assumption | rfl))
                 | ((with_reducible apply ops_neq); rfl; rfl; (first | assumption | rfl))
                 | ((with_reducible apply ops_min2); rfl; (first | assumption | rfl))
                 | ((with_reducible apply ops_max2); rfl; (first | assumption | rfl))
                 | ((with_reducible apply ops_iaddrN); rfl; rfl; omega; rfl)
                 | ((with_reducible apply ops_iaddr); rfl; rfl; omega; omega; rfl; rfl)
                 | ((with_reducible apply ops_load); rfl; exact rowAt_of (by first | assumption) (Nat.zero_le _) (Nat.zero_le _); rfl; rfl)
                 | ((with_reducible apply arr_loadN); rfl; (first | assumption); assumption; assumption; (first | assumption | (apply ints_get; omega) | (apply nats_get; omega)); rfl)
                 | ((with_reducible apply arr_storeN); rfl; rfl; (first | assumption); assumption; assumption; (first | assumption | (apply ints_get; omega) | (apply nats_get; omega)); rfl; rfl; rfl; rfl; rfl)
                 | ((with_reducible apply ops_struct); rfl; rfl; (first | assumption); rfl; rfl; rfl; rfl; rfl; exact Nat.le_of_ble_eq_true rfl; rfl)
                 | ((with_reducible apply ops_bslice1); rfl; rfl; rfl)
                 | ((with_reducible apply ops_push); rfl; rfl; (first | assumption); (first | assumption); assumption; assumption; assumption; assumption; omega; rfl)
                 | ((with_reducible apply ops_cutN); rfl; rfl; omega)
                 | exact ops_of rfl
               · dsimp only [putV, List.set]; try rfl)
            | ((with_reducible apply d_go)
               · rfl
               · first
                 | ((with_reducible apply ops_add); rfl; rfl; (first | assumption | rfl); omega; omega)
                 | ((with_reducible apply ops_sub); rfl; rfl; (first | assumption | rfl); omega; omega)
                 | ((with_reducible apply ops_mul); rfl; rfl; (first | assumption | rfl); omega; omega)
                 | ((with_reducible apply ops_quo); rfl; rfl; decide; (first | assumption | rfl); omega; omega)
                 | ((with_reducible apply ops_rem); rfl; rfl; omega; (first | assumption | rfl))
                 | ((with_reducible apply ops_lss); rfl; rfl; (first | assumption | rfl))
                 | ((with_reducible apply ops_gtr); rfl; rfl; (first | assumption | rfl))
                 | ((with_reducible apply ops_leq); rfl; rfl; (first | assumption | rfl))
                 | ((with_reducible apply ops_geq); rfl; rfl; (first | assumption | rfl))
                 | ((with_reducible apply ops_eql); rfl; rfl; (first | assumption | rfl))
                 | ((with_reducible apply ops_neq); rfl; rfl; (first | assumption | rfl))
                 | ((with_reducible apply ops_min2); rfl; (first | assumption | rfl))
                 | ((with_reducible apply ops_max2); rfl; (first | assumption | rfl))
                 | ((with_reducible apply ops_iaddrN); rfl; rfl; omega; rfl)
                 | ((with_reducible apply ops_iaddr); rfl; rfl; omega; omega; rfl; rfl)
                 | ((with_reducible apply ops_load); rfl; exact rowAt_of (by first | assumption) (Nat.zero_le _) (Nat.zero_le _); rfl; rfl)
                 | ((with_reducible apply arr_loadN); rfl; (first | assumption); assumption; assumption; (first | assumption | (apply ints_get; omega) | (apply nats_get; omega)); rfl)
                 | ((with_reducible apply arr_storeN); rfl; rfl; (first | assumption); assumption; assumption; (first | assumption | (apply ints_get; omega) | (apply nats_get; omega)); rfl; rfl; rfl; rfl; rfl)
                 | ((with_reducible apply ops_struct); rfl; rfl; (first | assumption); rfl; rfl; rfl; rfl; rfl; exact Nat.le_of_ble_eq_true rfl; rfl)
                 | ((with_reducible apply ops_bslice1); rfl; rfl; rfl)
                 | ((with_reducible apply ops_push); rfl; rfl; (first | assumption); (first | assumption); assumption; assumption; assumption; assumption; omega; rfl)
                 | ((with_reducible apply ops_cutN); rfl; rfl; omega)
                 | exact ops_of rfl
               · (first | with_reducible exact free_empty | rw [allW_same] | rw [allW_set] | rw [allW_push]) <;> (repeat (first | with_reducible exact free_nil | with_reducible exact free_empty | ((with_reducible apply free_mask); rfl) | ((with_reducible apply free_ne); first | rfl | (simp [clash, meets, *]; done))))
               · first | exact note_same | exact note_read | exact note_set | exact note_push
               · dsimp only [putV, List.set]; try rfl))
            match k, hk with
            | 0, hk => omega
            | k + 1, hk =>
              refine down_loop Q k (2 * i + 1) _ _ h1 _ _ _ _ _ _ _ _ _ _ _ _ _ _ _ _ _ _ _ _ _ _ _ _ _ _ _ _ _ _ _ _ _ _ _ _ _ _ _ _ _ _ _ _ _ _ _ _ _ _ _ _ _ _ _ _ _ _ _ _ _ _ _ _ _ _ _ _ _ _ _ _ _ _ _ _ _ (by rw [List.length_set]; omega) (by simp; omega) (by simp; omega) hv (by simp [hP]) ?_ hH1 ?_
              · intro x hxl
                rw [List.length_set] at hxl
                rw [gN_set hi]
                split
                · exact hx _ (by omega)
                · exact hx x hxl
              · intro i' L' P' h' r' w' k2 k3 k5 k6 k7 k8 k9 k10 k11 k12 k13 k14 k15 k16 k17 k18 k19 k20 k21 k22 k23 k24 k25 k26 k27 k28 k29 k30 k31 k32 k33 k34 k35 k36 k37 k38 k39 k40 k41 k42 k43 k44 k45 k46 k47 k48 k49 k50 k51 k52 k53 k54 k55 k56 k57 k58 k59 k60 k61 k62 k63 k64 k65 k66 k67 k68 k69 k70 k71 k72 k73 k74 k75 k76 k77 a1 a2 a3 a4 a5 a6
                refine hQ i' L' P' h' r' w' k2 k3 k5 k6 k7 k8 k9 k10 k11 k12 k13 k14 k15 k16 k17 k18 k19 k20 k21 k22 k23 k24 k25 k26 k27 k28 k29 k30 k31 k32 k33 k34 k35 k36 k37 k38 k39 k40 k41 k42 k43 k44 k45 k46 k47 k48 k49 k50 k51 k52 k53 k54 k55 k56 k57 k58 k59 k60 k61 k62 k63 k64 k65 k66 k67 k68 k69 k70 k71 k72 k73 k74 k75 k76 k77 a1 (hK1.trans a2) a3 (by simpa using a4) (by simpa using a5) ?_
                rw [a6]; conv => rhs; unfold downL
                rw [kf, if_pos ⟨by omega, hah⟩]
          · have hd2 : ∃ r, Calls' EH 28 [.ptr b 0 0 0, .int .i64 (gN L (2 * i + 1) : Nat), .int .i64 v] h ⟨.bool false, h, r, []⟩ := by
              have := ahead_run hH0 (hx (2 * i + 1) (by omega)) hv
              rw [decide_eq_false hah] at this; exact this
            repeat (first
            | with_reducible apply q_seq
            | with_reducible apply q_reg
            | with_reducible apply q_draw
            | with_reducible apply q_ret
            | with_reducible apply q_skip
            | with_reducible apply q_exit
            | with_reducible apply q_block
            | with_reducible apply k_norm
            | with_reducible apply k_ret
            | with_reducible apply k_exit
            | with_reducible apply b_norm
            | with_reducible apply b_ret
            | with_reducible apply b_leave
            | ((with_reducible apply b_exit); decide)
            | with_reducible apply g_nil
            | with_reducible apply d_nil
            | ((with_reducible apply q_true); rfl)
            | ((with_reducible apply q_false); rfl)
            | ((with_reducible apply g_skip)
               · rfl
               · dsimp only [putV, List.set]; try rfl)
            | ((with_reducible apply d_skip)
               · rfl
               · dsimp only [putV, List.set]; try rfl)
            | ((with_reducible apply g_read)
               · rfl
               · rfl
               · rfl
               · exact hd1
               · dsimp only [putV, List.set]; try rfl
               intro _)
            | ((with_reducible apply d_read)
               · rfl
               · rfl
               · rfl
               · exact hd1
               · rfl
               · dsimp only [putV, List.set]; try rfl
               intro _ _)
            | ((with_reducible apply g_read)
               · rfl
               · rfl
               · rfl
               · exact hd2
               · dsimp only [putV, List.set]; try rfl
               intro _)
            | ((with_reducible apply d_read)
               · rfl
               · rfl
               · rfl
               · exact hd2
               · rfl
               · dsimp only [putV, List.set]; try rfl
               intro _ _)
            | ((with_reducible apply g_go)
               · rfl
               · first
                 | ((with_reducible apply ops_add); rfl; rfl; (first | assumption | rfl); omega; omega)
                 | ((with_reducible apply ops_sub); rfl; rfl; (first | assumption | rfl); omega; omega)
                 | ((with_reducible apply ops_mul); rfl; rfl; (first | assumption | rfl); omega; omega)
                 | ((with_reducible apply ops_quo); rfl; rfl; decide; (first | assumption | rfl); omega; omega)
                 | ((with_reducible apply ops_rem); rfl; rfl; omega; (first | assumption | rfl))
                 | ((with_reducible apply ops_lss); rfl; rfl; (first | assumption | rfl))
                 | ((with_reducible apply ops_gtr); rfl; rfl; (first | assumption | rfl))
                 | ((with_reducible apply ops_leq); rfl; rfl; (first | assumption | rfl))
                 | ((with_reducible apply ops_geq); rfl; rfl; (first | assumption | rfl))
                 | ((with_reducible apply ops_eql); rfl; rfl; (first | assumption | rfl))
                 | ((with_reducible apply ops_neq); rfl; rfl; (first | assumption | rfl))
                 | ((with_reducible apply ops_min2); rfl; (first | assumption | rfl))
                 | ((with_reducible apply ops_max2); rfl; (first | assumption | rfl))
                 | ((with_reducible apply ops_iaddrN); rfl; rfl; omega; rfl)
                 | ((with_reducible apply ops_iaddr); rfl; rfl; omega; omega; rfl; rfl)
                 | ((with_reducible apply ops_load); rfl; exact rowAt_of (by first | assumption) (Nat.zero_le _) (Nat.zero_le _); rfl; rfl)
                 | ((with_reducible apply arr_loadN); rfl; (first | assumption); assumption; assumption; (first | assumption | (apply ints_get; omega) | (apply nats_get; omega)); rfl)
                 | ((with_reducible apply arr_storeN); rfl; rfl; (first | assumption); assumption; assumption; (first | assumption | (apply ints_get; omega) | (apply nats_get; omega)); rfl; rfl; rfl; rfl; rfl)
                 | ((with_reducible apply ops_struct); rfl; rfl; (first | assumption); rfl; rfl; rfl; rfl; rfl; exact Nat.le_of_ble_eq_true rfl; rfl)
                 | ((with_reducible apply ops_bslice1); rfl; rfl; rfl)
                 | ((with_reducible apply ops_push); rfl; rfl; (first | assumption); (first | assumption); assumption; assumption; assumption; assumption; omega; rfl)
                 | ((with_reducible apply ops_cutN); rfl; rfl; omega)
                 | exact ops_of rfl
               · dsimp only [putV, List.set]; try rfl)
            | ((with_reducible apply d_go)
               · rfl
               · first
                 | ((with_reducible apply ops_add); rfl; rfl; (first | assumption | rfl); omega; omega)
                 | ((with_reducible apply ops_sub); rfl; rfl; (first | assumption | rfl); omega; omega)
                 | ((with_reducible apply ops_mul); rfl; rfl; (first | assumption | rfl); omega; omega)
                 | ((with_reducible apply ops_quo); rfl; rfl; decide; (first | assumption | rfl); omega; omega)
                 | ((with_reducible apply ops_rem); rfl; rfl; omega; (first | assumption | rfl))
                 | ((with_reducible apply ops_lss); rfl; rfl; (first | assumption | rfl))
                 | ((with_reducible apply ops_gtr); rfl; rfl; (first | assumption | rfl))
                 | ((with_reducible apply ops_leq); rfl; rfl; (first | assumption | rfl))
                 | ((with_reducible apply ops_geq); rfl; rfl; (first | assumption | rfl))
                 | ((with_reducible apply ops_eql); rfl; rfl; (first | assumption | rfl))
                 | ((with_reducible apply ops_neq); rfl; rfl; (first | assumption | rfl))
                 | ((with_reducible apply ops_min2); rfl; (first | assumption | rfl))
                 | ((with_reducible apply ops_max2); rfl; (first | assumption | rfl))
                 | ((with_reducible apply ops_iaddrN); rfl; rfl; omega; rfl)
                 | ((with_reducible apply ops_iaddr); rfl; rfl; omega; omega; rfl; rfl)
                 | ((with_reducible apply ops_load); rfl; exact rowAt_of (by first | assumption) (Nat.zero_le _) (Nat.zero_le _); rfl; rfl)
                 | ((with_reducible apply arr_loadN); rfl; (first | assumption); assumption; assumption; (first | assumption | (apply ints_get; omega) | (apply nats_get; omega)); rfl)
                 | ((with_reducible apply arr_storeN); rfl; rfl; (first | assumption); assumption; assumption; (first | assumption | (apply ints_get; omega) | (apply nats_get; omega)); rfl; rfl; rfl; rfl; rfl)
                 | ((with_reducible apply ops_struct); rfl; rfl; (first | assumption); rfl; rfl; rfl; rfl; rfl; exact Nat.le_of_ble_eq_true rfl; rfl)
                 | ((with_reducible apply ops_bslice1); rfl; rfl; rfl)
                 | ((with_reducible apply ops_push); rfl; rfl; (first | assumption); (first | assumption); assumption; assumption; assumption; assumption; omega; rfl)
                 | ((with_reducible apply ops_cutN); rfl; rfl; omega)
                 | exact ops_of rfl
               · (first | with_reducible exact free_empty | rw [allW_same] | rw [allW_set] | rw [allW_push]) <;> (repeat (first | with_reducible exact free_nil | with_reducible exact free_empty | ((with_reducible apply free_mask); rfl) | ((with_reducible apply free_ne); first | rfl | (simp [clash, meets, *]; done))))
               · first | exact note_same | exact note_read | exact note_set | exact note_push
               · dsimp only [putV, List.set]; try rfl))
            exact hQ i L P h _ _ _ _ _ _ _ _ _ _ _ _ _ _ _ _ _ _ _ _ _ _ _ _ _ _ _ _ _ _ _ _ _ _ _ _ _ _ _ _ _ _ _ _ _ _ _ _ _ _ _ _ _ _ _ _ _ _ _ _ _ _ _ _ _ _ _ _ _ _ _ _ _ _ _ _ _ hH0 (Keeps.refl _ _) hi rfl rfl (downL_stop (fun h => hah (by rw [← kf]; exact h.2)) k).symm
      · have c2 : decide (((2 * i + 2 : Nat) : Int) < ((nats L).length : Int)) = false := by rw [lN]; exact decide_eq_false (by omega)
        have kf : kid (gI A) L i = 2 * i + 1 := by unfold kid; rw [if_neg (fun h => h2 h.1)]
        by_cases hah : Ah (gI A) (gN L (2 * i + 1)) v
        · have hd2 : ∃ r, Calls' EH 28 [.ptr b 0 0 0, .int .i64 (gN L (2 * i + 1) : Nat), .int .i64 v] h ⟨.bool true, h, r, []⟩ := by
            have := ahead_run hH0 (hx (2 * i + 1) (by omega)) hv
            rw [decide_eq_true hah] at this; exact this
          have hy := lay_run hH0 (v := gN L (2 * i + 1)) (i := i) hi (by have := hx (2 * i + 1) (by omega); omega)
          repeat (first
          | with_reducible apply q_seq
          | with_reducible apply q_reg
          | with_reducible apply q_draw
          | with_reducible apply q_ret
          | with_reducible apply q_skip
          | with_reducible apply q_exit
          | with_reducible apply q_block
          | with_reducible apply k_norm
          | with_reducible apply k_ret
          | with_reducible apply k_exit
          | with_reducible apply b_norm
          | with_reducible apply b_ret
          | with_reducible apply b_leave
          | ((with_reducible apply b_exit); decide)
          | with_reducible apply g_nil
          | with_reducible apply d_nil
          | ((with_reducible apply q_true); rfl)
          | ((with_reducible apply q_false); rfl)
          | ((with_reducible apply g_skip)
             · rfl
             · dsimp only [putV, List.set]; try rfl)
          | ((with_reducible apply d_skip)
             · rfl
             · dsimp only [putV, List.set]; try rfl)
          | ((with_reducible apply g_read)
             · rfl
             · rfl
             · rfl
             · exact hd2
             · dsimp only [putV, List.set]; try rfl
             intro _)
          | ((with_reducible apply d_read)
             · rfl
             · rfl
             · rfl
             · exact hd2
             · rfl
             · dsimp only [putV, List.set]; try rfl
             intro _ _)
          | ((with_reducible apply g_call)
             · rfl
             · rfl
             · rfl
             · exact hy
             · dsimp only [putV, List.set]; try rfl)
          | ((with_reducible apply g_go)
             · rfl
             · first
               | ((with_reducible apply ops_add); rfl; rfl; (first | assumption | rfl); omega; omega)
               | ((with_reducible apply ops_sub); rfl; rfl; (first | assumption | rfl); omega; omega)
               | ((with_reducible apply ops_mul); rfl; rfl; (first | assumption | rfl); omega; omega)
               | ((with_reducible apply ops_quo); rfl; rfl; decide; (first | assumption | rfl); omega; omega)
               | ((with_reducible apply ops_rem); rfl; rfl; omega; (first | assumption | rfl))
               | ((with_reducible apply ops_lss); rfl; rfl; (first | assumption | rfl))
               | ((with_reducible apply ops_gtr); rfl; rfl; (first | assumption | rfl))
               | ((with_reducible apply ops_leq); rfl; rfl; (first | assumption | rfl))
               | ((with_reducible apply ops_geq); rfl; rfl; (first | assumption | rfl))
               | ((with_reducible apply ops_eql); rfl; rfl; (first | assumption | rfl))
               | ((with_reducible apply ops_neq); rfl; rfl; (first | assumption | rfl))
               | ((with_reducible apply ops_min2); rfl; (first | assumption | rfl))
               | ((with_reducible apply ops_max2); rfl; (first | assumption | rfl))
               | ((with_reducible apply ops_iaddrN); rfl; rfl; omega; rfl)
               | ((with_reducible apply ops_iaddr); rfl; rfl; omega; omega; rfl; rfl)
               | ((with_reducible apply ops_load); rfl; exact rowAt_of (by first | assumption) (Nat.zero_le _) (Nat.zero_le _); rfl; rfl)
               | ((with_reducible apply arr_loadN); rfl; (first | assumption); assumption; assumption; (first | assumption | (apply ints_get; omega) | (apply nats_get; omega)); rfl)
               | ((with_reducible apply arr_storeN); rfl; rfl; (first | assumption); assumption; assumption; (first | assumption | (apply ints_get; omega) | (apply nats_get; omega)); rfl; rfl; rfl; rfl; rfl)
               | ((with_reducible apply ops_struct); rfl; rfl; (first | assumption); rfl; rfl; rfl; rfl; rfl; exact Nat.le_of_ble_eq_true rfl; rfl)
               | ((with_reducible apply ops_bslice1); rfl; rfl; rfl)
               | ((with_reducible apply ops_push); rfl; rfl; (first | assumption); (first | assumption); assumption; assumption; assumption; assumption; omega; rfl)
               | ((with_reducible apply ops_cutN); rfl; rfl; omega)
               | exact ops_of rfl
             · dsimp only [putV, List.set]; try rfl)
          | ((with_reducible apply d_go)
             · rfl
             · first
               | ((with_reducible apply ops_add); rfl; rfl; (first | assumption | rfl); omega; omega)
               | ((with_reducible apply ops_sub); rfl; rfl; (first | assumption | rfl); omega; omega)
               | ((with_reducible apply ops_mul); rfl; rfl; (first | assumption | rfl); omega; omega)
               | ((with_reducible apply ops_quo); rfl; rfl; decide; (first | assumption | rfl); omega; omega)
               | ((with_reducible apply ops_rem); rfl; rfl; omega; (first | assumption | rfl))
               | ((with_reducible apply ops_lss); rfl; rfl; (first | assumption | rfl))
               | ((with_reducible apply ops_gtr); rfl; rfl; (first | assumption | rfl))
               | ((with_reducible apply ops_leq); rfl; rfl; (first | assumption | rfl))
               | ((with_reducible apply ops_geq); rfl; rfl; (first | assumption | rfl))
               | ((with_reducible apply ops_eql); rfl; rfl; (first | assumption | rfl))
               | ((with_reducible apply ops_neq); rfl; rfl; (first | assumption | rfl))
               | ((with_reducible apply ops_min2); rfl; (first | assumption | rfl))
               | ((with_reducible apply ops_max2); rfl; (first | assumption | rfl))
               | ((with_reducible apply ops_iaddrN); rfl; rfl; omega; rfl)
               | ((with_reducible apply ops_iaddr); rfl; rfl; omega; omega; rfl; rfl)
               | ((with_reducible apply ops_load); rfl; exact rowAt_of (by first | assumption) (Nat.zero_le _) (Nat.zero_le _); rfl; rfl)
               | ((with_reducible apply arr_loadN); rfl; (first | assumption); assumption; assumption; (first | assumption | (apply ints_get; omega) | (apply nats_get; omega)); rfl)
               | ((with_reducible apply arr_storeN); rfl; rfl; (first | assumption); assumption; assumption; (first | assumption | (apply ints_get; omega) | (apply nats_get; omega)); rfl; rfl; rfl; rfl; rfl)
               | ((with_reducible apply ops_struct); rfl; rfl; (first | assumption); rfl; rfl; rfl; rfl; rfl; exact Nat.le_of_ble_eq_true rfl; rfl)
               | ((with_reducible apply ops_bslice1); rfl; rfl; rfl)
               | ((with_reducible apply ops_push); rfl; rfl; (first | assumption); (first | assumption); assumption; assumption; assumption; assumption; omega; rfl)
               | ((with_reducible apply ops_cutN); rfl; rfl; omega)
               | exact ops_of rfl
             · (first | with_reducible exact free_empty | rw [allW_same] | rw [allW_set] | rw [allW_push]) <;> (repeat (first | with_reducible exact free_nil | with_reducible exact free_empty | ((with_reducible apply free_mask); rfl) | ((with_reducible apply free_ne); first | rfl | (simp [clash, meets, *]; done))))
             · first | exact note_same | exact note_read | exact note_set | exact note_push
             · dsimp only [putV, List.set]; try rfl))
          intro r1 w1 h1 hD
          obtain ⟨hH1, hK1⟩ := hD
          repeat (first
          | with_reducible apply q_seq
          | with_reducible apply q_reg
          | with_reducible apply q_draw
          | with_reducible apply q_ret
          | with_reducible apply q_skip
          | with_reducible apply q_exit
          | with_reducible apply q_block
          | with_reducible apply k_norm
          | with_reducible apply k_ret
          | with_reducible apply k_exit
          | with_reducible apply b_norm
          | with_reducible apply b_ret
          | with_reducible apply b_leave
          | ((with_reducible apply b_exit); decide)
          | with_reducible apply g_nil
          | with_reducible apply d_nil
          | ((with_reducible apply q_true); rfl)
          | ((with_reducible apply q_false); rfl)
          | ((with_reducible apply g_skip)
             · rfl
             · dsimp only [putV, List.set]; try rfl)
          | ((with_reducible apply d_skip)
             · rfl
             · dsimp only [putV, List.set]; try rfl)
          | ((with_reducible apply g_go)
             · rfl
             · first
               | ((with_reducible apply ops_add); rfl; rfl; (first | assumption | rfl); omega; omega)
               | ((with_reducible apply ops_sub); rfl; rfl; (first | assumption | rfl); omega; omega)
               | ((with_reducible apply ops_mul); rfl; rfl; (first | assumption | rfl); omega; omega)
               | ((with_reducible apply ops_quo); rfl; rfl; decide; (first | assumption | rfl); omega; omega)
               | ((with_reducible apply ops_rem); rfl; rfl; omega; (first | assumption | rfl))
               | ((with_reducible apply ops_lss); rfl; rfl; (first | assumption | rfl))
               | ((with_reducible apply ops_gtr); rfl; rfl; (first | assumption | rfl))
               | ((with_reducible apply ops_leq); rfl; rfl; (first | assumption | rfl))
               | ((with_reducible apply ops_geq); rfl; rfl; (first | assumption | rfl))
               | ((with_reducible apply ops_eql); rfl; rfl; (first | assumption | rfl))
               | ((with_reducible apply ops_neq); rfl; rfl; (first | assumption | rfl))
               | ((with_reducible apply ops_min2); rfl; (first | assumption | rfl))
               | ((with_reducible apply ops_max2); rfl; (first | assumption | rfl))
               | ((with_reducible apply ops_iaddrN); rfl; rfl; omega; rfl)
               | ((with_reducible apply ops_iaddr); rfl; rfl; omega; omega; rfl; rfl)
               | ((with_reducible apply ops_load); rfl; exact rowAt_of (by first | assumption) (Nat.zero_le _) (Nat.zero_le _); rfl; rfl)
               | ((with_reducible apply arr_loadN); rfl; (first | assumption); assumption; assumption; (first | assumption | (apply ints_get; omega) | (apply nats_get; omega)); rfl)
               | ((with_reducible apply arr_storeN); rfl; rfl; (first | assumption); assumption; assumption; (first | assumption | (apply ints_get; omega) | (apply nats_get; omega)); rfl; rfl; rfl; rfl; rfl)
               | ((with_reducible apply ops_struct); rfl; rfl; (first | assumption); rfl; rfl; rfl; rfl; rfl; exact Nat.le_of_ble_eq_true rfl; rfl)
               | ((with_reducible apply ops_bslice1); rfl; rfl; rfl)
               | ((with_reducible apply ops_push); rfl; rfl; (first | assumption); (first | assumption); assumption; assumption; assumption; assumption; omega; rfl)
               | ((with_reducible apply ops_cutN); rfl; rfl; omega)
               | exact ops_of rfl
             · dsimp only [putV, List.set]; try rfl)
          | ((with_reducible apply d_go)
             · rfl
             · first
               | ((with_reducible apply ops_add); rfl; rfl; (first | assumption | rfl); omega; omega)
               | ((with_reducible apply ops_sub); rfl; rfl; (first | assumption | rfl); omega; omega)
               | ((with_reducible apply ops_mul); rfl; rfl; (first | assumption | rfl); omega; omega)
               | ((with_reducible apply ops_quo); rfl; rfl; decide; (first | assumption | rfl); omega; omega)
               | ((with_reducible apply ops_rem); rfl; rfl; omega; (first | assumption | rfl))
               | ((with_reducible apply ops_lss); rfl; rfl; (first | assumption | rfl))
               | ((with_reducible apply ops_gtr); rfl; rfl; (first | assumption | rfl))
               | ((with_reducible apply ops_leq); rfl; rfl; (first | assumption | rfl))
               | ((with_reducible apply ops_geq); rfl; rfl; (first | assumption | rfl))
               | ((with_reducible apply ops_eql); rfl; rfl; (first | assumption | rfl))
               | ((with_reducible apply ops_neq); rfl; rfl; (first | assumption | rfl))
               | ((with_reducible apply ops_min2); rfl; (first | assumption | rfl))
               | ((with_reducible apply ops_max2); rfl; (first | assumption | rfl))
               | ((with_reducible apply ops_iaddrN); rfl; rfl; omega; rfl)
               | ((with_reducible apply ops_iaddr); rfl; rfl; omega; omega; rfl; rfl)
               | ((with_reducible apply ops_load); rfl; exact rowAt_of (by first | assumption) (Nat.zero_le _) (Nat.zero_le _); rfl; rfl)
               | ((with_reducible apply arr_loadN); rfl; (first | assumption); assumption; assumption; (first | assumption | (apply ints_get; omega) | (apply nats_get; omega)); rfl)
               | ((with_reducible apply arr_storeN); rfl; rfl; (first | assumption); assumption; assumption; (first | assumption | (apply ints_get; omega) | (apply nats_get; omega)); rfl; rfl; rfl; rfl; rfl)
               | ((with_reducible apply ops_struct); rfl; rfl; (first | assumption); rfl; rfl; rfl; rfl; rfl; exact Nat.le_of_ble_eq_true rfl; rfl)
               | ((with_reducible apply ops_bslice1); rfl; rfl; rfl)
               | ((with_reducible apply ops_push); rfl; rfl; (first | assumption); (first | assumption); assumption; assumption; assumption; assumption; omega; rfl)
               | ((with_reducible apply ops_cutN); rfl; rfl; omega)
               | exact ops_of rfl
             · (first | with_reducible exact free_empty | rw [allW_same] | rw [allW_set] | rw [allW_push]) <;> (repeat (first | with_reducible exact free_nil | with_reducible exact free_empty | ((with_reducible apply free_mask); rfl) | ((with_reducible apply free_ne); first | rfl | (simp [clash, meets, *]; done))))
             · first | exact note_same | exact note_read | exact note_set | exact note_push
             · dsimp only [putV, List.set]; try rfl))
          match k, hk with
          | 0, hk => omega
          | k + 1, hk =>
            refine down_loop Q k (2 * i + 1) _ _ h1 _ _ _ _ _ _ _ _ _ _ _ _ _ _ _ _ _ _ _ _ _ _ _ _ _ _ _ _ _ _ _ _ _ _ _ _ _ _ _ _ _ _ _ _ _ _ _ _ _ _ _ _ _ _ _ _ _ _ _ _ _ _ _ _ _ _ _ _ _ _ _ _ _ _ _ _ _ (by rw [List.length_set]; omega) (by simp; omega) (by simp; omega) hv (by simp [hP]) ?_ hH1 ?_
            · intro x hxl
              rw [List.length_set] at hxl
              rw [gN_set hi]
              split
              · exact hx _ (by omega)
              · exact hx x hxl
            · intro i' L' P' h' r' w' k2 k3 k5 k6 k7 k8 k9 k10 k11 k12 k13 k14 k15 k16 k17 k18 k19 k20 k21 k22 k23 k24 k25 k26 k27 k28 k29 k30 k31 k32 k33 k34 k35 k36 k37 k38 k39 k40 k41 k42 k43 k44 k45 k46 k47 k48 k49 k50 k51 k52 k53 k54 k55 k56 k57 k58 k59 k60 k61 k62 k63 k64 k65 k66 k67 k68 k69 k70 k71 k72 k73 k74 k75 k76 k77 a1 a2 a3 a4 a5 a6
              refine hQ i' L' P' h' r' w' k2 k3 k5 k6 k7 k8 k9 k10 k11 k12 k13 k14 k15 k16 k17 k18 k19 k20 k21 k22 k23 k24 k25 k26 k27 k28 k29 k30 k31 k32 k33 k34 k35 k36 k37 k38 k39 k40 k41 k42 k43 k44 k45 k46 k47 k48 k49 k50 k51 k52 k53 k54 k55 k56 k57 k58 k59 k60 k61 k62 k63 k64 k65 k66 k67 k68 k69 k70 k71 k72 k73 k74 k75 k76 k77 a1 (hK1.trans a2) a3 (by simpa using a4) (by simpa using a5) ?_
              rw [a6]; conv => rhs; unfold downL
              rw [kf, if_pos ⟨by omega, hah⟩]
        · have hd2 : ∃ r, Calls' EH 28 [.ptr b 0 0 0, .int .i64 (gN L (2 * i + 1) : Nat), .int .i64 v] h ⟨.bool false, h, r, []⟩ := by
            have := ahead_run hH0 (hx (2 * i + 1) (by omega)) hv
            rw [decide_eq_false hah] at this; exact this
          repeat (first
          | with_reducible apply q_seq
          | with_reducible apply q_reg
          | with_reducible apply q_draw
          | with_reducible apply q_ret
          | with_reducible apply q_skip
          | with_reducible apply q_exit
          | with_reducible apply q_block
          | with_reducible apply k_norm
          | with_reducible apply k_ret
          | with_reducible apply k_exit
          | with_reducible apply b_norm
          | with_reducible apply b_ret
          | with_reducible apply b_leave
          | ((with_reducible apply b_exit); decide)
          | with_reducible apply g_nil
          | with_reducible apply d_nil
          | ((with_reducible apply q_true); rfl)
          | ((with_reducible apply q_false); rfl)
          | ((with_reducible apply g_skip)
             · rfl
             · dsimp only [putV, List.set]; try rfl)
          | ((with_reducible apply d_skip)
             · rfl
             · dsimp only [putV, List.set]; try rfl)
          | ((with_reducible apply g_read)
             · rfl
             · rfl
             · rfl
             · exact hd2
             · dsimp only [putV, List.set]; try rfl
             intro _)
          | ((with_reducible apply d_read)
             · rfl
             · rfl
             · rfl
             · exact hd2
             · rfl
             · dsimp only [putV, List.set]; try rfl
             intro _ _)
          | ((with_reducible apply g_go)
             · rfl
             · first
               | ((with_reducible apply ops_add); rfl; rfl; (first | assumption | rfl); omega; omega)
               | ((with_reducible apply ops_sub); rfl; rfl; (first | assumption | rfl); omega; omega)
               | ((with_reducible apply ops_mul); rfl; rfl; (first | assumption | rfl); omega; omega)
               | ((with_reducible apply ops_quo); rfl; rfl; decide; (first | assumption | rfl); omega; omega)
               | ((with_reducible apply ops_rem); rfl; rfl; omega; (first | assumption | rfl))
               | ((with_reducible apply ops_lss); rfl; rfl; (first | assumption | rfl))
               | ((with_reducible apply ops_gtr); rfl; rfl; (first | assumption | rfl))
               | ((with_reducible apply ops_leq); rfl; rfl; (first | assumption | rfl))
               | ((with_reducible apply ops_geq); rfl; rfl; (first | assumption | rfl))
               | ((with_reducible apply ops_eql); rfl; rfl; (first | assumption | rfl))
               | ((with_reducible apply ops_neq); rfl; rfl; (first | assumption | rfl))
               | ((with_reducible apply ops_min2); rfl; (first | assumption | rfl))
               | ((with_reducible apply ops_max2); rfl; (first | assumption | rfl))
               | ((with_reducible apply ops_iaddrN); rfl; rfl; omega; rfl)
               | ((with_reducible apply ops_iaddr); rfl; rfl; omega; omega; rfl; rfl)
               | ((with_reducible apply ops_load); rfl; exact rowAt_of (by first | assumption) (Nat.zero_le _) (Nat.zero_le _); rfl; rfl)
               | ((with_reducible apply arr_loadN); rfl; (first | assumption); assumption; assumption; (first | assumption | (apply ints_get; omega) | (apply nats_get; omega)); rfl)
               | ((with_reducible apply arr_storeN); rfl; rfl; (first | assumption); assumption; assumption; (first | assumption | (apply ints_get; omega) | (apply nats_get; omega)); rfl; rfl; rfl; rfl; rfl)
               | ((with_reducible apply ops_struct); rfl; rfl; (first | assumption); rfl; rfl; rfl; rfl; rfl; exact Nat.le_of_ble_eq_true rfl; rfl)
               | ((with_reducible apply ops_bslice1); rfl; rfl; rfl)
               | ((with_reducible apply ops_push); rfl; rfl; (first | assumption); (first | assumption); assumption; assumption; assumption; assumption; omega; rfl)
               | ((with_reducible apply ops_cutN); rfl; rfl; omega)
               | exact ops_of rfl
             · dsimp only [putV, List.set]; try rfl)
          | ((with_reducible apply d_go)
             · rfl
             · first
               | ((with_reducible apply ops_add); rfl; rfl; (first | assumption | rfl); omega; omega)
               | ((with_reducible apply ops_sub); rfl; rfl; (first | assumption | rfl); omega; omega)
               | ((with_reducible apply ops_mul); rfl; rfl; (first | assumption | rfl); omega; omega)
               | ((with_reducible apply ops_quo); rfl; rfl; decide; (first | assumption | rfl); omega; omega)
               | ((with_reducible apply ops_rem); rfl; rfl; omega; (first | assumption | rfl))
               | ((with_reducible apply ops_lss); rfl; rfl; (first | assumption | rfl))
               | ((with_reducible apply ops_gtr); rfl; rfl; (first | assumption | rfl))
               | ((with_reducible apply ops_leq); rfl; rfl; (first | assumption | rfl))
               | ((with_reducible apply ops_geq); rfl; rfl; (first | assumption | rfl))
               | ((with_reducible apply ops_eql); rfl; rfl; (first | assumption | rfl))
               | ((with_reducible apply ops_neq); rfl; rfl; (first | assumption | rfl))
               | ((with_reducible apply ops_min2); rfl; (first | assumption | rfl))
               | ((with_reducible apply ops_max2); rfl; (first | assumption | rfl))
               | ((with_reducible apply ops_iaddrN); rfl; rfl; omega; rfl)
               | ((with_reducible apply ops_iaddr); rfl; rfl; omega; omega; rfl; rfl)
               | ((with_reducible apply ops_load); rfl; exact rowAt_of (by first | assumption) (Nat.zero_le _) (Nat.zero_le _); rfl; rfl)
               | ((with_reducible apply arr_loadN); rfl; (first | assumption); assumption; assumption; (first | assumption | (apply ints_get; omega) | (apply nats_get; omega)); rfl)
               | ((with_reducible apply arr_storeN); rfl; rfl; (first | assumption); assumption; assumption; (first | assumption | (apply ints_get; omega) | (apply nats_get; omega)); rfl; rfl; rfl; rfl; rfl)
               | ((with_reducible apply ops_struct); rfl; rfl; (first | assumption); rfl; rfl; rfl; rfl; rfl; exact Nat.le_of_ble_eq_true rfl; rfl)
               | ((with_reducible apply ops_bslice1); rfl; rfl; rfl)
               | ((with_reducible apply ops_push); rfl; rfl; (first | assumption); (first | assumption); assumption; assumption; assumption; assumption; omega; rfl)
               | ((with_reducible apply ops_cutN); rfl; rfl; omega)
               | exact ops_of rfl
             · (first | with_reducible exact free_empty | rw [allW_same] | rw [allW_set] | rw [allW_push]) <;> (repeat (first | with_reducible exact free_nil | with_reducible exact free_empty | ((with_reducible apply free_mask); rfl) | ((with_reducible apply free_ne); first | rfl | (simp [clash, meets, *]; done))))
             · first | exact note_same | exact note_read | exact note_set | exact note_push
             · dsimp only [putV, List.set]; try rfl))
          exact hQ i L P h _ _ _ _ _ _ _ _ _ _ _ _ _ _ _ _ _ _ _ _ _ _ _ _ _ _ _ _ _ _ _ _ _ _ _ _ _ _ _ _ _ _ _ _ _ _ _ _ _ _ _ _ _ _ _ _ _ _ _ _ _ _ _ _ _ _ _ _ _ _ _ _ _ _ _ _ _ hH0 (Keeps.refl _ _) hi rfl rfl (downL_stop (fun h => hah (by rw [← kf]; exact h.2)) k).symm
    · have c1 : decide (((nats L).length : Int) ≤ ((2 * i + 1 : Nat) : Int)) = true := by rw [lN]; exact decide_eq_true (by omega)
      repeat (first
      | with_reducible apply q_seq
      | with_reducible apply q_reg
      | with_reducible apply q_draw
      | with_reducible apply q_ret
      | with_reducible apply q_skip
      | with_reducible apply q_exit
      | with_reducible apply q_block
      | with_reducible apply k_norm
      | with_reducible apply k_ret
      | with_reducible apply k_exit
      | with_reducible apply b_norm
      | with_reducible apply b_ret
      | with_reducible apply b_leave
      | ((with_reducible apply b_exit); decide)
      | with_reducible apply g_nil
      | with_reducible apply d_nil
      | ((with_reducible apply q_true); rfl)
      | ((with_reducible apply q_false); rfl)
      | ((with_reducible apply g_skip)
         · rfl
         · dsimp only [putV, List.set]; try rfl)
      | ((with_reducible apply d_skip)
         · rfl
         · dsimp only [putV, List.set]; try rfl)
      | ((with_reducible apply g_go)
         · rfl
         · first
           | ((with_reducible apply ops_add); rfl; rfl; (first | assumption | rfl); omega; omega)
           | ((with_reducible apply ops_sub); rfl; rfl; (first | assumption | rfl); omega; omega)
           | ((with_reducible apply ops_mul); rfl; rfl; (first | assumption | rfl); omega; omega)
           | ((with_reducible apply ops_quo); rfl; rfl; decide; (first | assumption | rfl); omega; omega)
           | ((with_reducible apply ops_rem); rfl; rfl; omega; (first | assumption | rfl))
           | ((with_reducible apply ops_lss); rfl; rfl; (first | assumption | rfl))
           | ((with_reducible apply ops_gtr); rfl; rfl; (first | assumption | rfl))
           | ((with_reducible apply ops_leq); rfl; rfl; (first | assumption | rfl))
           | ((with_reducible apply ops_geq); rfl; rfl; (first | assumption | rfl))
           | ((with_reducible apply ops_eql); rfl; rfl; (first | assumption | rfl))
           | ((with_reducible apply ops_neq); rfl; rfl; (first | assumption | rfl))
           | ((with_reducible apply ops_min2); rfl; (first | assumption | rfl))
           | ((with_reducible apply ops_max2); rfl; (first | assumption | rfl))
           | ((with_reducible apply ops_iaddrN); rfl; rfl; omega; rfl)
           | ((with_reducible apply ops_iaddr); rfl; rfl; omega; omega; rfl; rfl)
           | ((with_reducible apply ops_load); rfl; exact rowAt_of (by first | assumption) (Nat.zero_le _) (Nat.zero_le _); rfl; rfl)
           | ((with_reducible apply arr_loadN); rfl; (first | assumption); assumption; assumption; (first | assumption | (apply ints_get; omega) | (apply nats_get; omega)); rfl)
           | ((with_reducible apply arr_storeN); rfl; rfl; (first | assumption); assumption; assumption; (first | assumption | (apply ints_get; omega) | (apply nats_get; omega)); rfl; rfl; rfl; rfl; rfl)
           | ((with_reducible apply ops_struct); rfl; rfl; (first | assumption); rfl; rfl; rfl; rfl; rfl; exact Nat.le_of_ble_eq_true rfl; rfl)
           | ((with_reducible apply ops_bslice1); rfl; rfl; rfl)
           | ((with_reducible apply ops_push); rfl; rfl; (first | assumption); (first | assumption); assumption; assumption; assumption; assumption; omega; rfl)
           | ((with_reducible apply ops_cutN); rfl; rfl; omega)
           | exact ops_of rfl
         · dsimp only [putV, List.set]; try rfl)
      | ((with_reducible apply d_go)
         · rfl
         · first
           | ((with_reducible apply ops_add); rfl; rfl; (first | assumption | rfl); omega; omega)
           | ((with_reducible apply ops_sub); rfl; rfl; (first | assumption | rfl); omega; omega)
           | ((with_reducible apply ops_mul); rfl; rfl; (first | assumption | rfl); omega; omega)
           | ((with_reducible apply ops_quo); rfl; rfl; decide; (first | assumption | rfl); omega; omega)
           | ((with_reducible apply ops_rem); rfl; rfl; omega; (first | assumption | rfl))
           | ((with_reducible apply ops_lss); rfl; rfl; (first | assumption | rfl))
           | ((with_reducible apply ops_gtr); rfl; rfl; (first | assumption | rfl))
           | ((with_reducible apply ops_leq); rfl; rfl; (first | assumption | rfl))
           | ((with_reducible apply ops_geq); rfl; rfl; (first | assumption | rfl))
           | ((with_reducible apply ops_eql); rfl; rfl; (first | assumption | rfl))
           | ((with_reducible apply ops_neq); rfl; rfl; (first | assumption | rfl))
           | ((with_reducible apply ops_min2); rfl; (first | assumption | rfl))
           | ((with_reducible apply ops_max2); rfl; (first | assumption | rfl))
           | ((with_reducible apply ops_iaddrN); rfl; rfl; omega; rfl)
           | ((with_reducible apply ops_iaddr); rfl; rfl; omega; omega; rfl; rfl)
           | ((with_reducible apply ops_load); rfl; exact rowAt_of (by first | assumption) (Nat.zero_le _) (Nat.zero_le _); rfl; rfl)
           | ((with_reducible apply arr_loadN); rfl; (first | assumption); assumption; assumption; (first | assumption | (apply ints_get; omega) | (apply nats_get; omega)); rfl)
           | ((with_reducible apply arr_storeN); rfl; rfl; (first | assumption); assumption; assumption; (first | assumption | (apply ints_get; omega) | (apply nats_get; omega)); rfl; rfl; rfl; rfl; rfl)
           | ((with_reducible apply ops_struct); rfl; rfl; (first | assumption); rfl; rfl; rfl; rfl; rfl; exact Nat.le_of_ble_eq_true rfl; rfl)
           | ((with_reducible apply ops_bslice1); rfl; rfl; rfl)
           | ((with_reducible apply ops_push); rfl; rfl; (first | assumption); (first | assumption); assumption; assumption; assumption; assumption; omega; rfl)
           | ((with_reducible apply ops_cutN); rfl; rfl; omega)
           | exact ops_of rfl
         · (first | with_reducible exact free_empty | rw [allW_same] | rw [allW_set] | rw [allW_push]) <;> (repeat (first | with_reducible exact free_nil | with_reducible exact free_empty | ((with_reducible apply free_mask); rfl) | ((with_reducible apply free_ne); first | rfl | (simp [clash, meets, *]; done))))
         · first | exact note_same | exact note_read | exact note_set | exact note_push
         · dsimp only [putV, List.set]; try rfl))
      exact hQ i L P h _ _ _ _ _ _ _ _ _ _ _ _ _ _ _ _ _ _ _ _ _ _ _ _ _ _ _ _ _ _ _ _ _ _ _ _ _ _ _ _ _ _ _ _ _ _ _ _ _ _ _ _ _ _ _ _ _ _ _ _ _ _ _ _ _ _ _ _ _ _ _ _ _ _ _ _ _ hH0 (Keeps.refl _ _) hi rfl rfl (downL_stop (fun h => h1 h.1) k).symm
/-- down -/
theorem down_run {h : H} {b bL bP bA i k : Nat} {L : List Nat} {P A : List Int} (hH : HeapAt h b bL bP bA L P A) (hi : i < L.length) (hk : L.length ≤ i + k) (hL : L.length ≤ 1000000) (hP : P.length = A.length) (hx : ∀ x, x < L.length → gN L x < A.length) :
    Does EH 26 [.ptr b 0 0 0, .int .i64 i] h (.tup []) fun h' => HeapAt h' b bL bP bA (downL (gI A) k L P (gN L i) i).1 (downL (gI A) k L P (gN L i) i).2 A ∧ Keeps h h' [bL, bP] := by
  have hH0 := hH
  obtain ⟨⟨lv, pv, av, hb, hl, hp, ha, hcl⟩, n1, n2, n3, n4, n5, n6⟩ := hH
  rcases hl with ⟨_, hl, _⟩ | hl
  · subst hl; simp at hi
  obtain ⟨cL, rL, jL, eL, hL', sL, oL, lL⟩ := hl
  subst eL
  have lN := nats_len L
  apply does_keep (by rfl) (by rfl) (by simp only [List.length_cons, List.length_nil, List.replicate, List.cons_append, List.nil_append]; try rfl)
  repeat (first
      | with_reducible apply q_seq
      | with_reducible apply q_reg
      | with_reducible apply q_draw
      | with_reducible apply q_ret
      | with_reducible apply q_skip
      | with_reducible apply q_exit
      | with_reducible apply q_block
      | with_reducible apply k_norm
      | with_reducible apply k_ret
      | with_reducible apply k_exit
      | with_reducible apply b_norm
      | with_reducible apply b_ret
      | with_reducible apply b_leave
      | ((with_reducible apply b_exit); decide)
      | with_reducible apply g_nil
      | with_reducible apply d_nil
      | ((with_reducible apply q_true); rfl)
      | ((with_reducible apply q_false); rfl)
      | ((with_reducible apply g_skip)
         · rfl
         · dsimp only [putV, List.set]; try rfl)
      | ((with_reducible apply d_skip)
         · rfl
         · dsimp only [putV, List.set]; try rfl)
      | ((with_reducible apply g_go)
         · rfl
         · first
           | ((with_reducible apply ops_add); rfl; rfl; (first | assumption | rfl); omega; omega)
           | ((with_reducible apply ops_sub); rfl; rfl; (first | assumption | rfl); omega; omega)
           | ((with_reducible apply ops_mul); rfl; rfl; (first | assumption | rfl); omega; omega)
           | ((with_reducible apply ops_quo); rfl; rfl; decide; (first | assumption | rfl); omega; omega)
           | ((with_reducible apply ops_rem); rfl; rfl; omega; (first | assumption | rfl))
           | ((with_reducible apply ops_lss); rfl; rfl; (first | assumption | rfl))
           | ((with_reducible apply ops_gtr); rfl; rfl; (first | assumption | rfl))
           | ((with_reducible apply ops_leq); rfl; rfl; (first | assumption | rfl))
           | ((with_reducible apply ops_geq); rfl; rfl; (first | assumption | rfl))
           | ((with_reducible apply ops_eql); rfl; rfl; (first | assumption | rfl))
           | ((with_reducible apply ops_neq); rfl; rfl; (first | assumption | rfl))
           | ((with_reducible apply ops_min2); rfl; (first | assumption | rfl))
           | ((with_reducible apply ops_max2); rfl; (first | assumption | rfl))
           | ((with_reducible apply ops_iaddrN); rfl; rfl; omega; rfl)
           | ((with_reducible apply ops_iaddr); rfl; rfl; omega; omega; rfl; rfl)
           | ((with_reducible apply ops_load); rfl; exact rowAt_of (by first | assumption) (Nat.zero_le _) (Nat.zero_le _); rfl; rfl)
           | ((with_reducible apply arr_loadN); rfl; (first | assumption); assumption; assumption; (first | assumption | (apply ints_get; omega) | (apply nats_get; omega)); rfl)
           | ((with_reducible apply arr_storeN); rfl; rfl; (first | assumption); assumption; assumption; (first | assumption | (apply ints_get; omega) | (apply nats_get; omega)); rfl; rfl; rfl; rfl; rfl)
           | ((with_reducible apply ops_struct); rfl; rfl; (first | assumption); rfl; rfl; rfl; rfl; rfl; exact Nat.le_of_ble_eq_true rfl; rfl)
           | ((with_reducible apply ops_bslice1); rfl; rfl; rfl)
           | ((with_reducible apply ops_push); rfl; rfl; (first | assumption); (first | assumption); assumption; assumption; assumption; assumption; omega; rfl)
           | ((with_reducible apply ops_cutN); rfl; rfl; omega)
           | exact ops_of rfl
         · dsimp only [putV, List.set]; try rfl)
      | ((with_reducible apply d_go)
         · rfl
         · first
           | ((with_reducible apply ops_add); rfl; rfl; (first | assumption | rfl); omega; omega)
           | ((with_reducible apply ops_sub); rfl; rfl; (first | assumption | rfl); omega; omega)
           | ((with_reducible apply ops_mul); rfl; rfl; (first | assumption | rfl); omega; omega)
           | ((with_reducible apply ops_quo); rfl; rfl; decide; (first | assumption | rfl); omega; omega)
           | ((with_reducible apply ops_rem); rfl; rfl; omega; (first | assumption | rfl))
           | ((with_reducible apply ops_lss); rfl; rfl; (first | assumption | rfl))
           | ((with_reducible apply ops_gtr); rfl; rfl; (first | assumption | rfl))
           | ((with_reducible apply ops_leq); rfl; rfl; (first | assumption | rfl))
           | ((with_reducible apply ops_geq); rfl; rfl; (first | assumption | rfl))
           | ((with_reducible apply ops_eql); rfl; rfl; (first | assumption | rfl))
           | ((with_reducible apply ops_neq); rfl; rfl; (first | assumption | rfl))
           | ((with_reducible apply ops_min2); rfl; (first | assumption | rfl))
           | ((with_reducible apply ops_max2); rfl; (first | assumption | rfl))
           | ((with_reducible apply ops_iaddrN); rfl; rfl; omega; rfl)
           | ((with_reducible apply ops_iaddr); rfl; rfl; omega; omega; rfl; rfl)
           | ((with_reducible apply ops_load); rfl; exact rowAt_of (by first | assumption) (Nat.zero_le _) (Nat.zero_le _); rfl; rfl)
           | ((with_reducible apply arr_loadN); rfl; (first | assumption); assumption; assumption; (first | assumption | (apply ints_get; omega) | (apply nats_get; omega)); rfl)
           | ((with_reducible apply arr_storeN); rfl; rfl; (first | assumption); assumption; assumption; (first | assumption | (apply ints_get; omega) | (apply nats_get; omega)); rfl; rfl; rfl; rfl; rfl)
           | ((with_reducible apply ops_struct); rfl; rfl; (first | assumption); rfl; rfl; rfl; rfl; rfl; exact Nat.le_of_ble_eq_true rfl; rfl)
           | ((with_reducible apply ops_bslice1); rfl; rfl; rfl)
           | ((with_reducible apply ops_push); rfl; rfl; (first | assumption); (first | assumption); assumption; assumption; assumption; assumption; omega; rfl)
           | ((with_reducible apply ops_cutN); rfl; rfl; omega)
           | exact ops_of rfl
         · (first | with_reducible exact free_empty | rw [allW_same] | rw [allW_set] | rw [allW_push]) <;> (repeat (first | with_reducible exact free_nil | with_reducible exact free_empty | ((with_reducible apply free_mask); rfl) | ((with_reducible apply free_ne); first | rfl | (simp [clash, meets, *]; done))))
         · first | exact note_same | exact note_read | exact note_set | exact note_push
         · dsimp only [putV, List.set]; try rfl))
  refine down_loop (v := gN L i) _ k i L P h _ _ _ _ _ _ _ _ _ _ _ _ _ _ _ _ _ _ _ _ _ _ _ _ _ _ _ _ _ _ _ _ _ _ _ _ _ _ _ _ _ _ _ _ _ _ _ _ _ _ _ _ _ _ _ _ _ _ _ _ _ _ _ _ _ _ _ _ _ _ _ _ _ _ _ _ _ hk hi hL (hx i hi) hP hx hH0 ?_
  intro i' L' P' h' r' w' k2 k3 k5 k6 k7 k8 k9 k10 k11 k12 k13 k14 k15 k16 k17 k18 k19 k20 k21 k22 k23 k24 k25 k26 k27 k28 k29 k30 k31 k32 k33 k34 k35 k36 k37 k38 k39 k40 k41 k42 k43 k44 k45 k46 k47 k48 k49 k50 k51 k52 k53 k54 k55 k56 k57 k58 k59 k60 k61 k62 k63 k64 k65 k66 k67 k68 k69 k70 k71 k72 k73 k74 k75 k76 k77 a1 a2 a3 a4 a5 a6
  have hy := lay_run a1 (v := gN L i) (i := i') a3 (by have := hx i hi; omega)
  repeat (first
      | with_reducible apply q_seq
      | with_reducible apply q_reg
      | with_reducible apply q_draw
      | with_reducible apply q_ret
      | with_reducible apply q_skip
      | with_reducible apply q_exit
      | with_reducible apply q_block
      | with_reducible apply k_norm
      | with_reducible apply k_ret
      | with_reducible apply k_exit
      | with_reducible apply b_norm
      | with_reducible apply b_ret
      | with_reducible apply b_leave
      | ((with_reducible apply b_exit); decide)
      | with_reducible apply g_nil
      | with_reducible apply d_nil
      | ((with_reducible apply q_true); rfl)
      | ((with_reducible apply q_false); rfl)
      | ((with_reducible apply g_skip)
         · rfl
         · dsimp only [putV, List.set]; try rfl)
      | ((with_reducible apply d_skip)
         · rfl
         · dsimp only [putV, List.set]; try rfl)
      | ((with_reducible apply g_call)
         · rfl
         · rfl
         · rfl
         · exact hy
         · dsimp only [putV, List.set]; try rfl)
      | ((with_reducible apply g_go)
         · rfl
         · first
           | ((with_reducible apply ops_add); rfl; rfl; (first | assumption | rfl); omega; omega)
           | ((with_reducible apply ops_sub); rfl; rfl; (first | assumption | rfl); omega; omega)
           | ((with_reducible apply ops_mul); rfl; rfl; (first | assumption | rfl); omega; omega)
           | ((with_reducible apply ops_quo); rfl; rfl; decide; (first | assumption | rfl); omega; omega)
           | ((with_reducible apply ops_rem); rfl; rfl; omega; (first | assumption | rfl))
           | ((with_reducible apply ops_lss); rfl; rfl; (first | assumption | rfl))
           | ((with_reducible apply ops_gtr); rfl; rfl; (first | assumption | rfl))
           | ((with_reducible apply ops_leq); rfl; rfl; (first | assumption | rfl))
           | ((with_reducible apply ops_geq); rfl; rfl; (first | assumption | rfl))
           | ((with_reducible apply ops_eql); rfl; rfl; (first | assumption | rfl))
           | ((with_reducible apply ops_neq); rfl; rfl; (first | assumption | rfl))
           | ((with_reducible apply ops_min2); rfl; (first | assumption | rfl))
           | ((with_reducible apply ops_max2); rfl; (first | assumption | rfl))
           | ((with_reducible apply ops_iaddrN); rfl; rfl; omega; rfl)
           | ((with_reducible apply ops_iaddr); rfl; rfl; omega; omega; rfl; rfl)
           | ((with_reducible apply ops_load); rfl; exact rowAt_of (by first | assumption) (Nat.zero_le _) (Nat.zero_le _); rfl; rfl)
           | ((with_reducible apply arr_loadN); rfl; (first | assumption); assumption; assumption; (first | assumption | (apply ints_get; omega) | (apply nats_get; omega)); rfl)
           | ((with_reducible apply arr_storeN); rfl; rfl; (first | assumption); assumption; assumption; (first | assumption | (apply ints_get; omega) | (apply nats_get; omega)); rfl; rfl; rfl; rfl; rfl)
           | ((with_reducible apply ops_struct); rfl; rfl; (first | assumption); rfl; rfl; rfl; rfl; rfl; exact Nat.le_of_ble_eq_true rfl; rfl)
           | ((with_reducible apply ops_bslice1); rfl; rfl; rfl)
           | ((with_reducible apply ops_push); rfl; rfl; (first | assumption); (first | assumption); assumption; assumption; assumption; assumption; omega; rfl)
           | ((with_reducible apply ops_cutN); rfl; rfl; omega)
           | exact ops_of rfl
         · dsimp only [putV, List.set]; try rfl)
      | ((with_reducible apply d_go)
         · rfl
         · first
           | ((with_reducible apply ops_add); rfl; rfl; (first | assumption | rfl); omega; omega)
           | ((with_reducible apply ops_sub); rfl; rfl; (first | assumption | rfl); omega; omega)
           | ((with_reducible apply ops_mul); rfl; rfl; (first | assumption | rfl); omega; omega)
           | ((with_reducible apply ops_quo); rfl; rfl; decide; (first | assumption | rfl); omega; omega)
           | ((with_reducible apply ops_rem); rfl; rfl; omega; (first | assumption | rfl))
           | ((with_reducible apply ops_lss); rfl; rfl; (first | assumption | rfl))
           | ((with_reducible apply ops_gtr); rfl; rfl; (first | assumption | rfl))
           | ((with_reducible apply ops_leq); rfl; rfl; (first | assumption | rfl))
           | ((with_reducible apply ops_geq); rfl; rfl; (first | assumption | rfl))
           | ((with_reducible apply ops_eql); rfl; rfl; (first | assumption | rfl))
           | ((with_reducible apply ops_neq); rfl; rfl; (first | assumption | rfl))
           | ((with_reducible apply ops_min2); rfl; (first | assumption | rfl))
           | ((with_reducible apply ops_max2); rfl; (first | assumption | rfl))
           | ((with_reducible apply ops_iaddrN); rfl; rfl; omega; rfl)
           | ((with_reducible apply ops_iaddr); rfl; rfl; omega; omega; rfl; rfl)
           | ((with_reducible apply ops_load); rfl; exact rowAt_of (by first | assumption) (Nat.zero_le _) (Nat.zero_le _); rfl; rfl)
           | ((with_reducible apply arr_loadN); rfl; (first | assumption); assumption; assumption; (first | assumption | (apply ints_get; omega) | (apply nats_get; omega)); rfl)
           | ((with_reducible apply arr_storeN); rfl; rfl; (first | assumption); assumption; assumption; (first | assumption | (apply ints_get; omega) | (apply nats_get; omega)); rfl; rfl; rfl; rfl; rfl)
           | ((with_reducible apply ops_struct); rfl; rfl; (first | assumption); rfl; rfl; rfl; rfl; rfl; exact Nat.le_of_ble_eq_true rfl; rfl)
           | ((with_reducible apply ops_bslice1); rfl; rfl; rfl)
           | ((with_reducible apply ops_push); rfl; rfl; (first | assumption); (first | assumption); assumption; assumption; assumption; assumption; omega; rfl)
           | ((with_reducible apply ops_cutN); rfl; rfl; omega)
           | exact ops_of rfl
         · (first | with_reducible exact free_empty | rw [allW_same] | rw [allW_set] | rw [allW_push]) <;> (repeat (first | with_reducible exact free_nil | with_reducible exact free_empty | ((with_reducible apply free_mask); rfl) | ((with_reducible apply free_ne); first | rfl | (simp [clash, meets, *]; done))))
         · first | exact note_same | exact note_read | exact note_set | exact note_push
         · dsimp only [putV, List.set]; try rfl))
  intro r2 w2 h2 hD
  obtain ⟨d1, d2⟩ := hD
  repeat (first
      | with_reducible apply q_seq
      | with_reducible apply q_reg
      | with_reducible apply q_draw
      | with_reducible apply q_ret
      | with_reducible apply q_skip
      | with_reducible apply q_exit
      | with_reducible apply q_block
      | with_reducible apply k_norm
      | with_reducible apply k_ret
      | with_reducible apply k_exit
      | with_reducible apply b_norm
      | with_reducible apply b_ret
      | with_reducible apply b_leave
      | ((with_reducible apply b_exit); decide)
      | with_reducible apply g_nil
      | with_reducible apply d_nil
      | ((with_reducible apply q_true); rfl)
      | ((with_reducible apply q_false); rfl)
      | ((with_reducible apply g_skip)
         · rfl
         · dsimp only [putV, List.set]; try rfl)
      | ((with_reducible apply d_skip)
         · rfl
         · dsimp only [putV, List.set]; try rfl)
      | ((with_reducible apply g_go)
         · rfl
         · first
           | ((with_reducible apply ops_add); rfl; rfl; (first | assumption | rfl); omega; omega)
           | ((with_reducible apply ops_sub); rfl; rfl; (first | assumption | rfl); omega; omega)
           | ((with_reducible apply ops_mul); rfl; rfl; (first | assumption | rfl); omega; omega)
           | ((with_reducible apply ops_quo); rfl; rfl; decide; (first | assumption | rfl); omega; omega)
           | ((with_reducible apply ops_rem); rfl; rfl; omega; (first | assumption | rfl))
           | ((with_reducible apply ops_lss); rfl; rfl; (first | assumption | rfl))
           | ((with_reducible apply ops_gtr); rfl; rfl; (first | assumption | rfl))
           | ((with_reducible apply ops_leq); rfl; rfl; (first | assumption | rfl))
           | ((with_reducible apply ops_geq); rfl; rfl; (first | assumption | rfl))
           | ((with_reducible apply ops_eql); rfl; rfl; (first | assumption | rfl))
           | ((with_reducible apply ops_neq); rfl; rfl; (first | assumption | rfl))
           | ((with_reducible apply ops_min2); rfl; (first | assumption | rfl))
           | ((with_reducible apply ops_max2); rfl; (first | assumption | rfl))
           | ((with_reducible apply ops_iaddrN); rfl; rfl; omega; rfl)
           | ((with_reducible apply ops_iaddr); rfl; rfl; omega; omega; rfl; rfl)
           | ((with_reducible apply ops_load); rfl; exact rowAt_of (by first | assumption) (Nat.zero_le _) (Nat.zero_le _); rfl; rfl)
           | ((with_reducible apply arr_loadN); rfl; (first | assumption); assumption; assumption; (first | assumption | (apply ints_get; omega) | (apply nats_get; omega)); rfl)
           | ((with_reducible apply arr_storeN); rfl; rfl; (first | assumption); assumption; assumption; (first | assumption | (apply ints_get; omega) | (apply nats_get; omega)); rfl; rfl; rfl; rfl; rfl)
           | ((with_reducible apply ops_struct); rfl; rfl; (first | assumption); rfl; rfl; rfl; rfl; rfl; exact Nat.le_of_ble_eq_true rfl; rfl)
           | ((with_reducible apply ops_bslice1); rfl; rfl; rfl)
           | ((with_reducible apply ops_push); rfl; rfl; (first | assumption); (first | assumption); assumption; assumption; assumption; assumption; omega; rfl)
           | ((with_reducible apply ops_cutN); rfl; rfl; omega)
           | exact ops_of rfl
         · dsimp only [putV, List.set]; try rfl)
      | ((with_reducible apply d_go)
         · rfl
         · first
           | ((with_reducible apply ops_add); rfl; rfl; (first | assumption | rfl); omega; omega)
           | ((with_reducible apply ops_sub); rfl; rfl; (first | assumption | rfl); omega; omega)
           | ((with_reducible apply ops_mul); rfl; rfl; (first | assumption | rfl); omega; omega)
           | ((with_reducible apply ops_quo); rfl; rfl; decide; (first | assumption | rfl); omega; omega)
           | ((with_reducible apply ops_rem); rfl; rfl; omega; (first | assumption | rfl))
           | ((with_reducible apply ops_lss); rfl; rfl; (first | assumption | rfl))
           | ((with_reducible apply ops_gtr); rfl; rfl; (first | assumption | rfl))
           | ((with_reducible apply ops_leq); rfl; rfl; (first | assumption | rfl))
           | ((with_reducible apply ops_geq); rfl; rfl; (first | assumption | rfl))
           | ((with_reducible apply ops_eql); rfl; rfl; (first | assumption | rfl))
           | ((with_reducible apply ops_neq); rfl; rfl; (first | assumption | rfl))
           | ((with_reducible apply ops_min2); rfl; (first | assumption | rfl))
           | ((with_reducible apply ops_max2); rfl; (first | assumption | rfl))
           | ((with_reducible apply ops_iaddrN); rfl; rfl; omega; rfl)
           | ((with_reducible apply ops_iaddr); rfl; rfl; omega; omega; rfl; rfl)
           | ((with_reducible apply ops_load); rfl; exact rowAt_of (by first | assumption) (Nat.zero_le _) (Nat.zero_le _); rfl; rfl)
           | ((with_reducible apply arr_loadN); rfl; (first | assumption); assumption; assumption; (first | assumption | (apply ints_get; omega) | (apply nats_get; omega)); rfl)
           | ((with_reducible apply arr_storeN); rfl; rfl; (first | assumption); assumption; assumption; (first | assumption | (apply ints_get; omega) | (apply nats_get; omega)); rfl; rfl; rfl; rfl; rfl)
           | ((with_reducible apply ops_struct); rfl; rfl; (first | assumption); rfl; rfl; rfl; rfl; rfl; exact Nat.le_of_ble_eq_true rfl; rfl)
           | ((with_reducible apply ops_bslice1); rfl; rfl; rfl)
           | ((with_reducible apply ops_push); rfl; rfl; (first | assumption); (first | assumption); assumption; assumption; assumption; assumption; omega; rfl)
           | ((with_reducible apply ops_cutN); rfl; rfl; omega)
           | exact ops_of rfl
         · (first | with_reducible exact free_empty | rw [allW_same] | rw [allW_set] | rw [allW_push]) <;> (repeat (first | with_reducible exact free_nil | with_reducible exact free_empty | ((with_reducible apply free_mask); rfl) | ((with_reducible apply free_ne); first | rfl | (simp [clash, meets, *]; done))))
         · first | exact note_same | exact note_read | exact note_set | exact note_push
         · dsimp only [putV, List.set]; try rfl))
  refine ⟨.inr rfl, [], [], rfl, rfl, ?_⟩
  rw [← a6]
  exact ⟨d1, a2.trans d2⟩
end Go.Proofs.Ytmmipfmdkoaekaa.Code
