/- A part of the proof: HeapL6. No condition. -/
import Derived.Test.YtmmipfmdkoaekaaHeapSl
import Derived.Test.YtmmipfmdkoaekaaHeapD
set_option linter.all false
set_option maxRecDepth 100000
namespace Go.Proofs.Ytmmipfmdkoaekaa.Code
open Go.Mini Go.HeapMath Go.HeapRun
set_option linter.all false
set_option maxHeartbeats 4000000
def capH (y : Int) : Int := if 1152921504606846976 < (if y < 0 then 0 else y) then 1152921504606846976 else (if y < 0 then 0 else y)
def dn : Nat → Int → Int
  | 0, y => y
  | d + 1, y => dn d (y.tdiv 2)
def hLoop0 : MCode := (.loop (.seq (.seq (.reg [⟨(some 28), .mv (.t 7), none⟩, ⟨(some 29), .mv (.t 0), none⟩, ⟨(some 30), .len (.t 29), none⟩, ⟨(some 31), .bin .lss .no (.t 28) (.t 30), none⟩])
   (.cond (.t 31)
     .skip
     (.exit 0)))
   (.seq (.block 1 (.reg [⟨(some 34), .mv (.t 5), none⟩, ⟨(some 35), .mv (.t 7), none⟩, ⟨(some 36), .bin .add .no (.t 35) (.c (.int .i64 1)), none⟩, ⟨(some 37), .mv (.t 0), none⟩, ⟨(some 38), .mv (.t 7), none⟩, ⟨(some 39), .iaddr 1 (.t 37) (.t 38), none⟩, ⟨(some 40), .load none (.t 39), none⟩, ⟨(some 41), .call (.c (.fn 10 [])) [(.t 34), (.t 36), (.t 40)], none⟩]))
   (.reg [⟨(some 32), .mv (.t 7), none⟩, ⟨(some 33), .bin .add .no (.t 32) (.c (.int .i64 1)), none⟩, ⟨(some 7), .mv (.t 33), none⟩]))))
def hLoop2 : MCode := (.loop (.seq (.seq (.reg [⟨(some 42), .mv (.t 8), none⟩, ⟨(some 43), .mv (.t 1), none⟩, ⟨(some 44), .convI .i64 (.t 43), none⟩, ⟨(some 45), .bin .rem .no (.t 44) (.c (.int .i64 70)), none⟩, ⟨(some 46), .bin .lss .no (.t 42) (.t 45), none⟩])
   (.cond (.t 46)
     .skip
     (.exit 2)))
   (.seq (.block 3 (.reg [⟨(some 49), .mv (.t 5), none⟩, ⟨(some 50), .call (.c (.fn 16 [])) [(.t 49)], none⟩]))
   (.reg [⟨(some 47), .mv (.t 8), none⟩, ⟨(some 48), .bin .add .no (.t 47) (.c (.int .i64 1)), none⟩, ⟨(some 8), .mv (.t 48), none⟩]))))
def hLoop4 : MCode := (.loop (.seq (.seq (.reg [⟨(some 51), .mv (.t 9), none⟩, ⟨(some 52), .mv (.t 0), none⟩, ⟨(some 53), .len (.t 52), none⟩, ⟨(some 54), .bin .lss .no (.t 51) (.t 53), none⟩])
   (.cond (.t 54)
     .skip
     (.exit 4)))
   (.seq (.block 5 (.seq (.reg [⟨(some 57), .mv (.t 0), none⟩, ⟨(some 58), .mv (.t 9), none⟩, ⟨(some 59), .iaddr 1 (.t 57) (.t 58), none⟩, ⟨(some 60), .load none (.t 59), none⟩, ⟨(some 61), .minmax true [(.t 60), (.c (.int .i64 0))], none⟩, ⟨(some 62), .minmax false [(.t 61), (.c (.int .i64 1152921504606846976))], none⟩, ⟨(some 10), .mv (.t 62), none⟩])
    (.seq (.seq (.reg [⟨(some 11), .mv (.c (.int .i64 0)), none⟩])
    (.block 6 (.loop (.seq (.seq (.reg [⟨(some 63), .mv (.t 11), none⟩, ⟨(some 64), .mv (.t 1), none⟩, ⟨(some 65), .convI .i64 (.t 64), none⟩, ⟨(some 66), .bin .rem .no (.t 65) (.c (.int .i64 70)), none⟩, ⟨(some 67), .bin .lss .no (.t 63) (.t 66), none⟩])
      (.cond (.t 67)
        .skip
        (.exit 6)))
      (.seq (.block 7 (.reg [⟨(some 70), .mv (.t 10), none⟩, ⟨(some 71), .bin .quo .no (.t 70) (.c (.int .i64 2)), none⟩, ⟨(some 10), .mv (.t 71), none⟩]))
      (.reg [⟨(some 68), .mv (.t 11), none⟩, ⟨(some 69), .bin .add .no (.t 68) (.c (.int .i64 1)), none⟩, ⟨(some 11), .mv (.t 69), none⟩]))))))
    (.seq (.reg [⟨(some 72), .mv (.t 5), none⟩, ⟨(some 73), .mv (.t 9), none⟩, ⟨(some 74), .bin .add .no (.t 73) (.c (.int .i64 1)), none⟩, ⟨(some 75), .call (.c (.fn 14 [])) [(.t 72), (.t 74)], none⟩, ⟨(some 76), .mv (.t 10), none⟩, ⟨(some 77), .bin .neq .no (.t 75) (.t 76), none⟩])
    (.cond (.t 77)
      (.seq (.reg [⟨(some 4), .mv (.c (.bool false)), none⟩])
      .ret)
      .skip)))))
   (.reg [⟨(some 55), .mv (.t 9), none⟩, ⟨(some 56), .bin .add .no (.t 55) (.c (.int .i64 1)), none⟩, ⟨(some 9), .mv (.t 56), none⟩]))))
def hLoop6 : MCode := (.loop (.seq (.seq (.reg [⟨(some 63), .mv (.t 11), none⟩, ⟨(some 64), .mv (.t 1), none⟩, ⟨(some 65), .convI .i64 (.t 64), none⟩, ⟨(some 66), .bin .rem .no (.t 65) (.c (.int .i64 70)), none⟩, ⟨(some 67), .bin .lss .no (.t 63) (.t 66), none⟩])
      (.cond (.t 67)
        .skip
        (.exit 6)))
      (.seq (.block 7 (.reg [⟨(some 70), .mv (.t 10), none⟩, ⟨(some 71), .bin .quo .no (.t 70) (.c (.int .i64 2)), none⟩, ⟨(some 10), .mv (.t 71), none⟩]))
      (.reg [⟨(some 68), .mv (.t 11), none⟩, ⟨(some 69), .bin .add .no (.t 68) (.c (.int .i64 1)), none⟩, ⟨(some 11), .mv (.t 69), none⟩]))))
theorem half_loop0 {x0 : V} {g : Nat → Int} {b bL bP bA a n : Nat} (hsl : Sl x0 n g) (hn2 : n ≤ 40) (ha : a < 256) (R : Ex → St → Prop) : ∀ (d i : Nat) (F : Nat → Int) (h : H) (r w : List Nat) (j2 j3 j4 j6 j8 j9 j10 j11 j12 j13 j14 j15 j16 j17 j18 j19 j20 j21 j22 j23 j24 j25 j26 j27 j28 j29 j30 j31 j32 j33 j34 j35 j36 j37 j38 j39 j40 j41 j42 j43 j44 j45 j46 j47 j48 j49 j50 j51 j52 j53 j54 j55 j56 j57 j58 j59 j60 j61 j62 j63 j64 j65 j66 j67 j68 j69 j70 j71 j72 j73 j74 j75 j76 j77 j78 j79 j80 j81 j82 : V), n = i + d → Hv h b bL bP bA n n (fun _ => true) F → (∀ u, F u = if 1 ≤ u ∧ u ≤ i then capH (g (u - 1)) else 0) →
    (∀ (F' : Nat → Int) (h' : H) (r' w' : List Nat) (k2 k3 k4 k6 k8 k9 k10 k11 k12 k13 k14 k15 k16 k17 k18 k19 k20 k21 k22 k23 k24 k25 k26 k27 k28 k29 k30 k31 k32 k33 k34 k35 k36 k37 k38 k39 k40 k41 k42 k43 k44 k45 k46 k47 k48 k49 k50 k51 k52 k53 k54 k55 k56 k57 k58 k59 k60 k61 k62 k63 k64 k65 k66 k67 k68 k69 k70 k71 k72 k73 k74 k75 k76 k77 k78 k79 k80 k81 k82 : V), Hv h' b bL bP bA n n (fun _ => true) F' → (∀ u, F' u = if 1 ≤ u ∧ u ≤ n then capH (g (u - 1)) else 0) → R (.exit 0) ⟨[x0, (.int .u8 (a : Nat)), k2, k3, k4, (.ptr b 0 0 0), k6, (.int .i64 (n : Nat)), k8, k9, k10, k11, k12, k13, k14, k15, k16, k17, k18, k19, k20, k21, k22, k23, k24, k25, k26, k27, k28, k29, k30, k31, k32, k33, k34, k35, k36, k37, k38, k39, k40, k41, k42, k43, k44, k45, k46, k47, k48, k49, k50, k51, k52, k53, k54, k55, k56, k57, k58, k59, k60, k61, k62, k63, k64, k65, k66, k67, k68, k69, k70, k71, k72, k73, k74, k75, k76, k77, k78, k79, k80, k81, k82], h', r', w'⟩) →
    RQ EH 0 hLoop0 ⟨[x0, (.int .u8 (a : Nat)), j2, j3, j4, (.ptr b 0 0 0), j6, (.int .i64 (i : Nat)), j8, j9, j10, j11, j12, j13, j14, j15, j16, j17, j18, j19, j20, j21, j22, j23, j24, j25, j26, j27, j28, j29, j30, j31, j32, j33, j34, j35, j36, j37, j38, j39, j40, j41, j42, j43, j44, j45, j46, j47, j48, j49, j50, j51, j52, j53, j54, j55, j56, j57, j58, j59, j60, j61, j62, j63, j64, j65, j66, j67, j68, j69, j70, j71, j72, j73, j74, j75, j76, j77, j78, j79, j80, j81, j82], h, r, w⟩ R
  | d, i, F, h, r, w, j2, j3, j4, j6, j8, j9, j10, j11, j12, j13, j14, j15, j16, j17, j18, j19, j20, j21, j22, j23, j24, j25, j26, j27, j28, j29, j30, j31, j32, j33, j34, j35, j36, j37, j38, j39, j40, j41, j42, j43, j44, j45, j46, j47, j48, j49, j50, j51, j52, j53, j54, j55, j56, j57, j58, j59, j60, j61, j62, j63, j64, j65, j66, j67, j68, j69, j70, j71, j72, j73, j74, j75, j76, j77, j78, j79, j80, j81, j82, hd, hv, hF, hR => by
    unfold hLoop0
    apply q_loop
    match d, hd with
    | 0, hd =>
      have hi : i = n := by omega
      subst hi
      have hc : decide ((i : Int) < (i : Int)) = false := decide_eq_false (by omega)
      repeat (first
      | with_reducible apply q_seq
      | with_reducible apply q_reg
      | with_reducible apply q_draw
      | with_reducible apply q_ret
      | with_reducible apply q_skip
      | with_reducible apply q_exit
      | with_reducible apply q_block
      | with_reducible apply k_norm
      | with_reducible apply k_ret
      | with_reducible apply k_exit
      | with_reducible apply b_norm
      | with_reducible apply b_ret
      | with_reducible apply b_leave
      | ((with_reducible apply b_exit); decide)
      | with_reducible apply g_nil
      | with_reducible apply d_nil
      | ((with_reducible apply q_true); rfl)
      | ((with_reducible apply q_false); rfl)
      | ((with_reducible apply g_skip)
         · rfl
         · dsimp only [putV, List.set]; try rfl)
      | ((with_reducible apply d_skip)
         · rfl
         · dsimp only [putV, List.set]; try rfl)
      | ((with_reducible apply g_go)
         · rfl
         · first
           | ((with_reducible apply ops_add); rfl; rfl; (first | assumption | rfl); omega; omega)
           | ((with_reducible apply ops_sub); rfl; rfl; (first | assumption | rfl); omega; omega)
           | ((with_reducible apply ops_mul); rfl; rfl; (first | assumption | rfl); omega; omega)
           | ((with_reducible apply ops_quo); rfl; rfl; decide; (first | assumption | rfl); omega; omega)
           | ((with_reducible apply ops_rem); rfl; rfl; omega; (first | assumption | rfl))
           | ((with_reducible apply ops_lss); rfl; rfl; (first | assumption | rfl))
           | ((with_reducible apply ops_gtr); rfl; rfl; (first | assumption | rfl))
           | ((with_reducible apply ops_leq); rfl; rfl; (first | assumption | rfl))
           | ((with_reducible apply ops_geq); rfl; rfl; (first | assumption | rfl))
           | ((with_reducible apply ops_eql); rfl; rfl; (first | assumption | rfl))
           | ((with_reducible apply ops_neq); rfl; rfl; (first | assumption | rfl))
           | ((with_reducible apply ops_min2); rfl; (first | assumption | rfl))
           | ((with_reducible apply ops_max2); rfl; (first | assumption | rfl))
           | ((with_reducible apply ops_iaddrN); rfl; rfl; omega; rfl)
           | ((with_reducible apply ops_iaddr); rfl; rfl; omega; omega; rfl; rfl)
           | ((with_reducible apply ops_load); rfl; exact rowAt_of (by first | assumption) (Nat.zero_le _) (Nat.zero_le _); rfl; rfl)
           | ((with_reducible apply arr_loadN); rfl; (first | assumption); assumption; assumption; (first | assumption | (apply ints_get; omega) | (apply nats_get; omega)); rfl)
           | ((with_reducible apply arr_storeN); rfl; rfl; (first | assumption); assumption; assumption; (first | assumption | (apply ints_get; omega) | (apply nats_get; omega)); rfl; rfl; rfl; rfl; rfl)
           | ((apply hsl.len; rfl))
           | ((apply hsl.at_; rfl; rfl; omega))
           | (((with_reducible apply ops_conv); rfl; omega; omega))
           | ((with_reducible apply ops_struct); rfl; rfl; (first | assumption); rfl; rfl; rfl; rfl; rfl; exact Nat.le_of_ble_eq_true rfl; rfl)
           | ((with_reducible apply ops_bslice1); rfl; rfl; rfl)
           | ((with_reducible apply ops_push); rfl; rfl; (first | assumption); (first | assumption); assumption; assumption; assumption; (first | rfl | assumption); omega; rfl)
           | ((with_reducible apply ops_cutN); rfl; rfl; omega)
           | exact ops_of rfl
         · dsimp only [putV, List.set]; try rfl)
      | ((with_reducible apply d_go)
         · rfl
         · first
           | ((with_reducible apply ops_add); rfl; rfl; (first | assumption | rfl); omega; omega)
           | ((with_reducible apply ops_sub); rfl; rfl; (first | assumption | rfl); omega; omega)
           | ((with_reducible apply ops_mul); rfl; rfl; (first | assumption | rfl); omega; omega)
           | ((with_reducible apply ops_quo); rfl; rfl; decide; (first | assumption | rfl); omega; omega)
           | ((with_reducible apply ops_rem); rfl; rfl; omega; (first | assumption | rfl))
           | ((with_reducible apply ops_lss); rfl; rfl; (first | assumption | rfl))
           | ((with_reducible apply ops_gtr); rfl; rfl; (first | assumption | rfl))
           | ((with_reducible apply ops_leq); rfl; rfl; (first | assumption | rfl))
           | ((with_reducible apply ops_geq); rfl; rfl; (first | assumption | rfl))
           | ((with_reducible apply ops_eql); rfl; rfl; (first | assumption | rfl))
           | ((with_reducible apply ops_neq); rfl; rfl; (first | assumption | rfl))
           | ((with_reducible apply ops_min2); rfl; (first | assumption | rfl))
           | ((with_reducible apply ops_max2); rfl; (first | assumption | rfl))
           | ((with_reducible apply ops_iaddrN); rfl; rfl; omega; rfl)
           | ((with_reducible apply ops_iaddr); rfl; rfl; omega; omega; rfl; rfl)
           | ((with_reducible apply ops_load); rfl; exact rowAt_of (by first | assumption) (Nat.zero_le _) (Nat.zero_le _); rfl; rfl)
           | ((with_reducible apply arr_loadN); rfl; (first | assumption); assumption; assumption; (first | assumption | (apply ints_get; omega) | (apply nats_get; omega)); rfl)
           | ((with_reducible apply arr_storeN); rfl; rfl; (first | assumption); assumption; assumption; (first | assumption | (apply ints_get; omega) | (apply nats_get; omega)); rfl; rfl; rfl; rfl; rfl)
           | ((apply hsl.len; rfl))
           | ((apply hsl.at_; rfl; rfl; omega))
           | (((with_reducible apply ops_conv); rfl; omega; omega))
           | ((with_reducible apply ops_struct); rfl; rfl; (first | assumption); rfl; rfl; rfl; rfl; rfl; exact Nat.le_of_ble_eq_true rfl; rfl)
           | ((with_reducible apply ops_bslice1); rfl; rfl; rfl)
           | ((with_reducible apply ops_push); rfl; rfl; (first | assumption); (first | assumption); assumption; assumption; assumption; (first | rfl | assumption); omega; rfl)
           | ((with_reducible apply ops_cutN); rfl; rfl; omega)
           | exact ops_of rfl
         · (first | with_reducible exact free_empty | rw [allW_same] | rw [allW_set] | rw [allW_push]) <;> (repeat (first | with_reducible exact free_nil | with_reducible exact free_empty | ((with_reducible apply free_mask); rfl) | ((with_reducible apply free_ne); (focus (first | rfl | (simp [clash, meets, *]; done))))))
         · first | exact note_same | exact note_read | exact note_set | exact note_push
         · dsimp only [putV, List.set]; try rfl))
      exact hR F h _ _ _ _ _ _ _ _ _ _ _ _ _ _ _ _ _ _ _ _ _ _ _ _ _ _ _ _ _ _ _ _ _ _ _ _ _ _ _ _ _ _ _ _ _ _ _ _ _ _ _ _ _ _ _ _ _ _ _ _ _ _ _ _ _ _ _ _ _ _ _ _ _ _ _ _ _ _ _ _ _ hv hF
    | d + 1, hd =>
      have hc : decide ((i : Int) < (n : Int)) = true := decide_eq_true (by omega)
      have e1 : (i : Int) + 1 = ((i + 1 : Nat) : Int) := by omega
      have hFi : F (i + 1) = 0 := by rw [hF, if_neg (by omega)]
      have hi1 : i + 1 - 1 = i := by omega
      by_cases hyg : 0 ≤ g i
      · have hy := hv_bump hv (by omega) (u := i + 1) (y := g i) (by omega) (by omega) hyg
        repeat (first
      | with_reducible apply q_seq
      | with_reducible apply q_reg
      | with_reducible apply q_draw
      | with_reducible apply q_ret
      | with_reducible apply q_skip
      | with_reducible apply q_exit
      | with_reducible apply q_block
      | with_reducible apply k_norm
      | with_reducible apply k_ret
      | with_reducible apply k_exit
      | with_reducible apply b_norm
      | with_reducible apply b_ret
      | with_reducible apply b_leave
      | ((with_reducible apply b_exit); decide)
      | with_reducible apply g_nil
      | with_reducible apply d_nil
      | ((with_reducible apply q_true); rfl)
      | ((with_reducible apply q_false); rfl)
      | ((with_reducible apply g_skip)
         · rfl
         · dsimp only [putV, List.set]; try rfl)
      | ((with_reducible apply d_skip)
         · rfl
         · dsimp only [putV, List.set]; try rfl)
      | ((with_reducible apply g_call)
         · rfl
         · rfl
         · rfl
         · exact hy
         · dsimp only [putV, List.set]; try rfl)
      | ((with_reducible apply g_go)
         · rfl
         · first
           | ((with_reducible apply ops_add); rfl; rfl; (first | assumption | rfl); omega; omega)
           | ((with_reducible apply ops_sub); rfl; rfl; (first | assumption | rfl); omega; omega)
           | ((with_reducible apply ops_mul); rfl; rfl; (first | assumption | rfl); omega; omega)
           | ((with_reducible apply ops_quo); rfl; rfl; decide; (first | assumption | rfl); omega; omega)
           | ((with_reducible apply ops_rem); rfl; rfl; omega; (first | assumption | rfl))
           | ((with_reducible apply ops_lss); rfl; rfl; (first | assumption | rfl))
           | ((with_reducible apply ops_gtr); rfl; rfl; (first | assumption | rfl))
           | ((with_reducible apply ops_leq); rfl; rfl; (first | assumption | rfl))
           | ((with_reducible apply ops_geq); rfl; rfl; (first | assumption | rfl))
           | ((with_reducible apply ops_eql); rfl; rfl; (first | assumption | rfl))
           | ((with_reducible apply ops_neq); rfl; rfl; (first | assumption | rfl))
           | ((with_reducible apply ops_min2); rfl; (first | assumption | rfl))
           | ((with_reducible apply ops_max2); rfl; (first | assumption | rfl))
           | ((with_reducible apply ops_iaddrN); rfl; rfl; omega; rfl)
           | ((with_reducible apply ops_iaddr); rfl; rfl; omega; omega; rfl; rfl)
           | ((with_reducible apply ops_load); rfl; exact rowAt_of (by first | assumption) (Nat.zero_le _) (Nat.zero_le _); rfl; rfl)
           | ((with_reducible apply arr_loadN); rfl; (first | assumption); assumption; assumption; (first | assumption | (apply ints_get; omega) | (apply nats_get; omega)); rfl)
           | ((with_reducible apply arr_storeN); rfl; rfl; (first | assumption); assumption; assumption; (first | assumption | (apply ints_get; omega) | (apply nats_get; omega)); rfl; rfl; rfl; rfl; rfl)
           | ((apply hsl.len; rfl))
           | ((apply hsl.at_; rfl; rfl; omega))
           | (((with_reducible apply ops_conv); rfl; omega; omega))
           | ((with_reducible apply ops_struct); rfl; rfl; (first | assumption); rfl; rfl; rfl; rfl; rfl; exact Nat.le_of_ble_eq_true rfl; rfl)
           | ((with_reducible apply ops_bslice1); rfl; rfl; rfl)
           | ((with_reducible apply ops_push); rfl; rfl; (first | assumption); (first | assumption); assumption; assumption; assumption; (first | rfl | assumption); omega; rfl)
           | ((with_reducible apply ops_cutN); rfl; rfl; omega)
           | exact ops_of rfl
         · dsimp only [putV, List.set]; try rfl)
      | ((with_reducible apply d_go)
         · rfl
         · first
           | ((with_reducible apply ops_add); rfl; rfl; (first | assumption | rfl); omega; omega)
           | ((with_reducible apply ops_sub); rfl; rfl; (first | assumption | rfl); omega; omega)
           | ((with_reducible apply ops_mul); rfl; rfl; (first | assumption | rfl); omega; omega)
           | ((with_reducible apply ops_quo); rfl; rfl; decide; (first | assumption | rfl); omega; omega)
           | ((with_reducible apply ops_rem); rfl; rfl; omega; (first | assumption | rfl))
           | ((with_reducible apply ops_lss); rfl; rfl; (first | assumption | rfl))
           | ((with_reducible apply ops_gtr); rfl; rfl; (first | assumption | rfl))
           | ((with_reducible apply ops_leq); rfl; rfl; (first | assumption | rfl))
           | ((with_reducible apply ops_geq); rfl; rfl; (first | assumption | rfl))
           | ((with_reducible apply ops_eql); rfl; rfl; (first | assumption | rfl))
           | ((with_reducible apply ops_neq); rfl; rfl; (first | assumption | rfl))
           | ((with_reducible apply ops_min2); rfl; (first | assumption | rfl))
           | ((with_reducible apply ops_max2); rfl; (first | assumption | rfl))
           | ((with_reducible apply ops_iaddrN); rfl; rfl; omega; rfl)
           | ((with_reducible apply ops_iaddr); rfl; rfl; omega; omega; rfl; rfl)
           | ((with_reducible apply ops_load); rfl; exact rowAt_of (by first | assumption) (Nat.zero_le _) (Nat.zero_le _); rfl; rfl)
           | ((with_reducible apply arr_loadN); rfl; (first | assumption); assumption; assumption; (first | assumption | (apply ints_get; omega) | (apply nats_get; omega)); rfl)
           | ((with_reducible apply arr_storeN); rfl; rfl; (first | assumption); assumption; assumption; (first | assumption | (apply ints_get; omega) | (apply nats_get; omega)); rfl; rfl; rfl; rfl; rfl)
           | ((apply hsl.len; rfl))
           | ((apply hsl.at_; rfl; rfl; omega))
           | (((with_reducible apply ops_conv); rfl; omega; omega))
           | ((with_reducible apply ops_struct); rfl; rfl; (first | assumption); rfl; rfl; rfl; rfl; rfl; exact Nat.le_of_ble_eq_true rfl; rfl)
           | ((with_reducible apply ops_bslice1); rfl; rfl; rfl)
           | ((with_reducible apply ops_push); rfl; rfl; (first | assumption); (first | assumption); assumption; assumption; assumption; (first | rfl | assumption); omega; rfl)
           | ((with_reducible apply ops_cutN); rfl; rfl; omega)
           | exact ops_of rfl
         · (first | with_reducible exact free_empty | rw [allW_same] | rw [allW_set] | rw [allW_push]) <;> (repeat (first | with_reducible exact free_nil | with_reducible exact free_empty | ((with_reducible apply free_mask); rfl) | ((with_reducible apply free_ne); (focus (first | rfl | (simp [clash, meets, *]; done))))))
         · first | exact note_same | exact note_read | exact note_set | exact note_push
         · dsimp only [putV, List.set]; try rfl))
        intro r1 w1 h1 hD
        obtain ⟨d1, d2⟩ := hD
        repeat (first
      | with_reducible apply q_seq
      | with_reducible apply q_reg
      | with_reducible apply q_draw
      | with_reducible apply q_ret
      | with_reducible apply q_skip
      | with_reducible apply q_exit
      | with_reducible apply q_block
      | with_reducible apply k_norm
      | with_reducible apply k_ret
      | with_reducible apply k_exit
      | with_reducible apply b_norm
      | with_reducible apply b_ret
      | with_reducible apply b_leave
      | ((with_reducible apply b_exit); decide)
      | with_reducible apply g_nil
      | with_reducible apply d_nil
      | ((with_reducible apply q_true); rfl)
      | ((with_reducible apply q_false); rfl)
      | ((with_reducible apply g_skip)
         · rfl
         · dsimp only [putV, List.set]; try rfl)
      | ((with_reducible apply d_skip)
         · rfl
         · dsimp only [putV, List.set]; try rfl)
      | ((with_reducible apply g_go)
         · rfl
         · first
           | ((with_reducible apply ops_add); rfl; rfl; (first | assumption | rfl); omega; omega)
           | ((with_reducible apply ops_sub); rfl; rfl; (first | assumption | rfl); omega; omega)
           | ((with_reducible apply ops_mul); rfl; rfl; (first | assumption | rfl); omega; omega)
           | ((with_reducible apply ops_quo); rfl; rfl; decide; (first | assumption | rfl); omega; omega)
           | ((with_reducible apply ops_rem); rfl; rfl; omega; (first | assumption | rfl))
           | ((with_reducible apply ops_lss); rfl; rfl; (first | assumption | rfl))
           | ((with_reducible apply ops_gtr); rfl; rfl; (first | assumption | rfl))
           | ((with_reducible apply ops_leq); rfl; rfl; (first | assumption | rfl))
           | ((with_reducible apply ops_geq); rfl; rfl; (first | assumption | rfl))
           | ((with_reducible apply ops_eql); rfl; rfl; (first | assumption | rfl))
           | ((with_reducible apply ops_neq); rfl; rfl; (first | assumption | rfl))
           | ((with_reducible apply ops_min2); rfl; (first | assumption | rfl))
           | ((with_reducible apply ops_max2); rfl; (first | assumption | rfl))
           | ((with_reducible apply ops_iaddrN); rfl; rfl; omega; rfl)
           | ((with_reducible apply ops_iaddr); rfl; rfl; omega; omega; rfl; rfl)
           | ((with_reducible apply ops_load); rfl; exact rowAt_of (by first | assumption) (Nat.zero_le _) (Nat.zero_le _); rfl; rfl)
           | ((with_reducible apply arr_loadN); rfl; (first | assumption); assumption; assumption; (first | assumption | (apply ints_get; omega) | (apply nats_get; omega)); rfl)
           | ((with_reducible apply arr_storeN); rfl; rfl; (first | assumption); assumption; assumption; (first | assumption | (apply ints_get; omega) | (apply nats_get; omega)); rfl; rfl; rfl; rfl; rfl)
           | ((apply hsl.len; rfl))
           | ((apply hsl.at_; rfl; rfl; omega))
           | (((with_reducible apply ops_conv); rfl; omega; omega))
           | ((with_reducible apply ops_struct); rfl; rfl; (first | assumption); rfl; rfl; rfl; rfl; rfl; exact Nat.le_of_ble_eq_true rfl; rfl)
           | ((with_reducible apply ops_bslice1); rfl; rfl; rfl)
           | ((with_reducible apply ops_push); rfl; rfl; (first | assumption); (first | assumption); assumption; assumption; assumption; (first | rfl | assumption); omega; rfl)
           | ((with_reducible apply ops_cutN); rfl; rfl; omega)
           | exact ops_of rfl
         · dsimp only [putV, List.set]; try rfl)
      | ((with_reducible apply d_go)
         · rfl
         · first
           | ((with_reducible apply ops_add); rfl; rfl; (first | assumption | rfl); omega; omega)
           | ((with_reducible apply ops_sub); rfl; rfl; (first | assumption | rfl); omega; omega)
           | ((with_reducible apply ops_mul); rfl; rfl; (first | assumption | rfl); omega; omega)
           | ((with_reducible apply ops_quo); rfl; rfl; decide; (first | assumption | rfl); omega; omega)
           | ((with_reducible apply ops_rem); rfl; rfl; omega; (first | assumption | rfl))
           | ((with_reducible apply ops_lss); rfl; rfl; (first | assumption | rfl))
           | ((with_reducible apply ops_gtr); rfl; rfl; (first | assumption | rfl))
           | ((with_reducible apply ops_leq); rfl; rfl; (first | assumption | rfl))
           | ((with_reducible apply ops_geq); rfl; rfl; (first | assumption | rfl))
           | ((with_reducible apply ops_eql); rfl; rfl; (first | assumption | rfl))
           | ((with_reducible apply ops_neq); rfl; rfl; (first | assumption | rfl))
           | ((with_reducible apply ops_min2); rfl; (first | assumption | rfl))
           | ((with_reducible apply ops_max2); rfl; (first | assumption | rfl))
           | ((with_reducible apply ops_iaddrN); rfl; rfl; omega; rfl)
           | ((with_reducible apply ops_iaddr); rfl; rfl; omega; omega; rfl; rfl)
           | ((with_reducible apply ops_load); rfl; exact rowAt_of (by first | assumption) (Nat.zero_le _) (Nat.zero_le _); rfl; rfl)
           | ((with_reducible apply arr_loadN); rfl; (first | assumption); assumption; assumption; (first | assumption | (apply ints_get; omega) | (apply nats_get; omega)); rfl)
           | ((with_reducible apply arr_storeN); rfl; rfl; (first | assumption); assumption; assumption; (first | assumption | (apply ints_get; omega) | (apply nats_get; omega)); rfl; rfl; rfl; rfl; rfl)
           | ((apply hsl.len; rfl))
           | ((apply hsl.at_; rfl; rfl; omega))
           | (((with_reducible apply ops_conv); rfl; omega; omega))
           | ((with_reducible apply ops_struct); rfl; rfl; (first | assumption); rfl; rfl; rfl; rfl; rfl; exact Nat.le_of_ble_eq_true rfl; rfl)
           | ((with_reducible apply ops_bslice1); rfl; rfl; rfl)
           | ((with_reducible apply ops_push); rfl; rfl; (first | assumption); (first | assumption); assumption; assumption; assumption; (first | rfl | assumption); omega; rfl)
           | ((with_reducible apply ops_cutN); rfl; rfl; omega)
           | exact ops_of rfl
         · (first | with_reducible exact free_empty | rw [allW_same] | rw [allW_set] | rw [allW_push]) <;> (repeat (first | with_reducible exact free_nil | with_reducible exact free_empty | ((with_reducible apply free_mask); rfl) | ((with_reducible apply free_ne); (focus (first | rfl | (simp [clash, meets, *]; done))))))
         · first | exact note_same | exact note_read | exact note_set | exact note_push
         · dsimp only [putV, List.set]; try rfl))
        refine half_loop0 (bL := bL) (bP := bP) (bA := bA) hsl hn2 ha R d (i + 1) _ h1 _ _ _ _ _ _ _ _ _ _ _ _ _ _ _ _ _ _ _ _ _ _ _ _ _ _ _ _ _ _ _ _ _ _ _ _ _ _ _ _ _ _ _ _ _ _ _ _ _ _ _ _ _ _ _ _ _ _ _ _ _ _ _ _ _ _ _ _ _ _ _ _ _ _ _ _ _ _ _ _ _ (by omega) d1 ?_ hR
        intro u
        unfold upd
        by_cases hu : u = i + 1
        · rw [if_pos hu, hFi, hu, if_pos (show 1 ≤ i + 1 ∧ i + 1 ≤ i + 1 by omega), hi1]
          unfold capH
          have : ¬ g i < 0 := by omega
          rw [if_neg this]
          by_cases hb : (1152921504606846976 : Int) < g i
          · rw [if_pos (show (1152921504606846976 : Int) - 0 < g i by omega), if_pos hb]
          · rw [if_neg (show ¬ (1152921504606846976 : Int) - 0 < g i by omega), if_neg hb]; omega
        · rw [if_neg hu, hF]
          by_cases hu2 : 1 ≤ u ∧ u ≤ i
          · rw [if_pos hu2, if_pos (show 1 ≤ u ∧ u ≤ i + 1 by omega)]
          · rw [if_neg hu2, if_neg (show ¬ (1 ≤ u ∧ u ≤ i + 1) by omega)]
      · have hz := hv_bump_no hv (v := ((i + 1 : Nat) : Int)) (y := g i) (.inr (by omega))
        repeat (first
      | with_reducible apply q_seq
      | with_reducible apply q_reg
      | with_reducible apply q_draw
      | with_reducible apply q_ret
      | with_reducible apply q_skip
      | with_reducible apply q_exit
      | with_reducible apply q_block
      | with_reducible apply k_norm
      | with_reducible apply k_ret
      | with_reducible apply k_exit
      | with_reducible apply b_norm
      | with_reducible apply b_ret
      | with_reducible apply b_leave
      | ((with_reducible apply b_exit); decide)
      | with_reducible apply g_nil
      | with_reducible apply d_nil
      | ((with_reducible apply q_true); rfl)
      | ((with_reducible apply q_false); rfl)
      | ((with_reducible apply g_skip)
         · rfl
         · dsimp only [putV, List.set]; try rfl)
      | ((with_reducible apply d_skip)
         · rfl
         · dsimp only [putV, List.set]; try rfl)
      | ((with_reducible apply g_read)
         · rfl
         · rfl
         · rfl
         · exact hz
         · dsimp only [putV, List.set]; try rfl
         intro _)
      | ((with_reducible apply d_read)
         · rfl
         · rfl
         · rfl
         · exact hz
         · rfl
         · dsimp only [putV, List.set]; try rfl
         intro _ _)
      | ((with_reducible apply g_go)
         · rfl
         · first
           | ((with_reducible apply ops_add); rfl; rfl; (first | assumption | rfl); omega; omega)
           | ((with_reducible apply ops_sub); rfl; rfl; (first | assumption | rfl); omega; omega)
           | ((with_reducible apply ops_mul); rfl; rfl; (first | assumption | rfl); omega; omega)
           | ((with_reducible apply ops_quo); rfl; rfl; decide; (first | assumption | rfl); omega; omega)
           | ((with_reducible apply ops_rem); rfl; rfl; omega; (first | assumption | rfl))
           | ((with_reducible apply ops_lss); rfl; rfl; (first | assumption | rfl))
           | ((with_reducible apply ops_gtr); rfl; rfl; (first | assumption | rfl))
           | ((with_reducible apply ops_leq); rfl; rfl; (first | assumption | rfl))
           | ((with_reducible apply ops_geq); rfl; rfl; (first | assumption | rfl))
           | ((with_reducible apply ops_eql); rfl; rfl; (first | assumption | rfl))
           | ((with_reducible apply ops_neq); rfl; rfl; (first | assumption | rfl))
           | ((with_reducible apply ops_min2); rfl; (first | assumption | rfl))
           | ((with_reducible apply ops_max2); rfl; (first | assumption | rfl))
           | ((with_reducible apply ops_iaddrN); rfl; rfl; omega; rfl)
           | ((with_reducible apply ops_iaddr); rfl; rfl; omega; omega; rfl; rfl)
           | ((with_reducible apply ops_load); rfl; exact rowAt_of (by first | assumption) (Nat.zero_le _) (Nat.zero_le _); rfl; rfl)
           | ((with_reducible apply arr_loadN); rfl; (first | assumption); assumption; assumption; (first | assumption | (apply ints_get; omega) | (apply nats_get; omega)); rfl)
           | ((with_reducible apply arr_storeN); rfl; rfl; (first | assumption); assumption; assumption; (first | assumption | (apply ints_get; omega) | (apply nats_get; omega)); rfl; rfl; rfl; rfl; rfl)
           | ((apply hsl.len; rfl))
           | ((apply hsl.at_; rfl; rfl; omega))
           | (((with_reducible apply ops_conv); rfl; omega; omega))
           | ((with_reducible apply ops_struct); rfl; rfl; (first | assumption); rfl; rfl; rfl; rfl; rfl; exact Nat.le_of_ble_eq_true rfl; rfl)
           | ((with_reducible apply ops_bslice1); rfl; rfl; rfl)
           | ((with_reducible apply ops_push); rfl; rfl; (first | assumption); (first | assumption); assumption; assumption; assumption; (first | rfl | assumption); omega; rfl)
           | ((with_reducible apply ops_cutN); rfl; rfl; omega)
           | exact ops_of rfl
         · dsimp only [putV, List.set]; try rfl)
      | ((with_reducible apply d_go)
         · rfl
         · first
           | ((with_reducible apply ops_add); rfl; rfl; (first | assumption | rfl); omega; omega)
           | ((with_reducible apply ops_sub); rfl; rfl; (first | assumption | rfl); omega; omega)
           | ((with_reducible apply ops_mul); rfl; rfl; (first | assumption | rfl); omega; omega)
           | ((with_reducible apply ops_quo); rfl; rfl; decide; (first | assumption | rfl); omega; omega)
           | ((with_reducible apply ops_rem); rfl; rfl; omega; (first | assumption | rfl))
           | ((with_reducible apply ops_lss); rfl; rfl; (first | assumption | rfl))
           | ((with_reducible apply ops_gtr); rfl; rfl; (first | assumption | rfl))
           | ((with_reducible apply ops_leq); rfl; rfl; (first | assumption | rfl))
           | ((with_reducible apply ops_geq); rfl; rfl; (first | assumption | rfl))
           | ((with_reducible apply ops_eql); rfl; rfl; (first | assumption | rfl))
           | ((with_reducible apply ops_neq); rfl; rfl; (first | assumption | rfl))
           | ((with_reducible apply ops_min2); rfl; (first | assumption | rfl))
           | ((with_reducible apply ops_max2); rfl; (first | assumption | rfl))
           | ((with_reducible apply ops_iaddrN); rfl; rfl; omega; rfl)
           | ((with_reducible apply ops_iaddr); rfl; rfl; omega; omega; rfl; rfl)
           | ((with_reducible apply ops_load); rfl; exact rowAt_of (by first | assumption) (Nat.zero_le _) (Nat.zero_le _); rfl; rfl)
           | ((with_reducible apply arr_loadN); rfl; (first | assumption); assumption; assumption; (first | assumption | (apply ints_get; omega) | (apply nats_get; omega)); rfl)
           | ((with_reducible apply arr_storeN); rfl; rfl; (first | assumption); assumption; assumption; (first | assumption | (apply ints_get; omega) | (apply nats_get; omega)); rfl; rfl; rfl; rfl; rfl)
           | ((apply hsl.len; rfl))
           | ((apply hsl.at_; rfl; rfl; omega))
           | (((with_reducible apply ops_conv); rfl; omega; omega))
           | ((with_reducible apply ops_struct); rfl; rfl; (first | assumption); rfl; rfl; rfl; rfl; rfl; exact Nat.le_of_ble_eq_true rfl; rfl)
           | ((with_reducible apply ops_bslice1); rfl; rfl; rfl)
           | ((with_reducible apply ops_push); rfl; rfl; (first | assumption); (first | assumption); assumption; assumption; assumption; (first | rfl | assumption); omega; rfl)
           | ((with_reducible apply ops_cutN); rfl; rfl; omega)
           | exact ops_of rfl
         · (first | with_reducible exact free_empty | rw [allW_same] | rw [allW_set] | rw [allW_push]) <;> (repeat (first | with_reducible exact free_nil | with_reducible exact free_empty | ((with_reducible apply free_mask); rfl) | ((with_reducible apply free_ne); (focus (first | rfl | (simp [clash, meets, *]; done))))))
         · first | exact note_same | exact note_read | exact note_set | exact note_push
         · dsimp only [putV, List.set]; try rfl))
        refine half_loop0 (bL := bL) (bP := bP) (bA := bA) hsl hn2 ha R d (i + 1) F h _ _ _ _ _ _ _ _ _ _ _ _ _ _ _ _ _ _ _ _ _ _ _ _ _ _ _ _ _ _ _ _ _ _ _ _ _ _ _ _ _ _ _ _ _ _ _ _ _ _ _ _ _ _ _ _ _ _ _ _ _ _ _ _ _ _ _ _ _ _ _ _ _ _ _ _ _ _ _ _ _ (by omega) hv ?_ hR
        intro u
        rw [hF]
        by_cases hu : u = i + 1
        · rw [if_neg (show ¬ (1 ≤ u ∧ u ≤ i) by omega), if_pos (show 1 ≤ u ∧ u ≤ i + 1 by omega), hu, hi1]
          unfold capH
          rw [if_pos (show g i < 0 by omega)]; rfl
        · by_cases hu2 : 1 ≤ u ∧ u ≤ i
          · rw [if_pos hu2, if_pos (show 1 ≤ u ∧ u ≤ i + 1 by omega)]
          · rw [if_neg hu2, if_neg (show ¬ (1 ≤ u ∧ u ≤ i + 1) by omega)]
theorem half_loop2 {x0 : V} {g : Nat → Int} {b bL bP bA a n : Nat} (hsl : Sl x0 n g) (hn2 : n ≤ 40) (ha : a < 256) (R : Ex → St → Prop) : ∀ (d i : Nat) (F : Nat → Int) (h : H) (r w : List Nat) (j2 j3 j4 j6 j7 j9 j10 j11 j12 j13 j14 j15 j16 j17 j18 j19 j20 j21 j22 j23 j24 j25 j26 j27 j28 j29 j30 j31 j32 j33 j34 j35 j36 j37 j38 j39 j40 j41 j42 j43 j44 j45 j46 j47 j48 j49 j50 j51 j52 j53 j54 j55 j56 j57 j58 j59 j60 j61 j62 j63 j64 j65 j66 j67 j68 j69 j70 j71 j72 j73 j74 j75 j76 j77 j78 j79 j80 j81 j82 : V), a % 70 = i + d → Hv h b bL bP bA n n (fun _ => true) F →
    (∀ (h' : H) (r' w' : List Nat) (z : V) (k2 k3 k4 k6 k7 k9 k10 k11 k12 k13 k14 k15 k16 k17 k18 k19 k20 k21 k22 k23 k24 k25 k26 k27 k28 k29 k30 k31 k32 k33 k34 k35 k36 k37 k38 k39 k40 k41 k42 k43 k44 k45 k46 k47 k48 k49 k50 k51 k52 k53 k54 k55 k56 k57 k58 k59 k60 k61 k62 k63 k64 k65 k66 k67 k68 k69 k70 k71 k72 k73 k74 k75 k76 k77 k78 k79 k80 k81 k82 : V), Hv h' b bL bP bA n n (fun _ => true) (fun u => dn d (F u)) → R (.exit 2) ⟨[x0, (.int .u8 (a : Nat)), k2, k3, k4, (.ptr b 0 0 0), k6, k7, z, k9, k10, k11, k12, k13, k14, k15, k16, k17, k18, k19, k20, k21, k22, k23, k24, k25, k26, k27, k28, k29, k30, k31, k32, k33, k34, k35, k36, k37, k38, k39, k40, k41, k42, k43, k44, k45, k46, k47, k48, k49, k50, k51, k52, k53, k54, k55, k56, k57, k58, k59, k60, k61, k62, k63, k64, k65, k66, k67, k68, k69, k70, k71, k72, k73, k74, k75, k76, k77, k78, k79, k80, k81, k82], h', r', w'⟩) →
    RQ EH 0 hLoop2 ⟨[x0, (.int .u8 (a : Nat)), j2, j3, j4, (.ptr b 0 0 0), j6, j7, (.int .i64 (i : Nat)), j9, j10, j11, j12, j13, j14, j15, j16, j17, j18, j19, j20, j21, j22, j23, j24, j25, j26, j27, j28, j29, j30, j31, j32, j33, j34, j35, j36, j37, j38, j39, j40, j41, j42, j43, j44, j45, j46, j47, j48, j49, j50, j51, j52, j53, j54, j55, j56, j57, j58, j59, j60, j61, j62, j63, j64, j65, j66, j67, j68, j69, j70, j71, j72, j73, j74, j75, j76, j77, j78, j79, j80, j81, j82], h, r, w⟩ R
  | d, i, F, h, r, w, j2, j3, j4, j6, j7, j9, j10, j11, j12, j13, j14, j15, j16, j17, j18, j19, j20, j21, j22, j23, j24, j25, j26, j27, j28, j29, j30, j31, j32, j33, j34, j35, j36, j37, j38, j39, j40, j41, j42, j43, j44, j45, j46, j47, j48, j49, j50, j51, j52, j53, j54, j55, j56, j57, j58, j59, j60, j61, j62, j63, j64, j65, j66, j67, j68, j69, j70, j71, j72, j73, j74, j75, j76, j77, j78, j79, j80, j81, j82, hd, hv, hR => by
    have er : ((a : Nat) : Int).tmod 70 = ((a % 70 : Nat) : Int) := rfl
    unfold hLoop2
    apply q_loop
    match d, hd with
    | 0, hd =>
      have hc : decide ((i : Int) < ((a % 70 : Nat) : Int)) = false := decide_eq_false (by omega)
      repeat (first
      | with_reducible apply q_seq
      | with_reducible apply q_reg
      | with_reducible apply q_draw
      | with_reducible apply q_ret
      | with_reducible apply q_skip
      | with_reducible apply q_exit
      | with_reducible apply q_block
      | with_reducible apply k_norm
      | with_reducible apply k_ret
      | with_reducible apply k_exit
      | with_reducible apply b_norm
      | with_reducible apply b_ret
      | with_reducible apply b_leave
      | ((with_reducible apply b_exit); decide)
      | with_reducible apply g_nil
      | with_reducible apply d_nil
      | ((with_reducible apply q_true); rfl)
      | ((with_reducible apply q_false); rfl)
      | ((with_reducible apply g_skip)
         · rfl
         · dsimp only [putV, List.set]; try rfl)
      | ((with_reducible apply d_skip)
         · rfl
         · dsimp only [putV, List.set]; try rfl)
      | ((with_reducible apply g_go)
         · rfl
         · first
           | ((with_reducible apply ops_add); rfl; rfl; (first | assumption | rfl); omega; omega)
           | ((with_reducible apply ops_sub); rfl; rfl; (first | assumption | rfl); omega; omega)
           | ((with_reducible apply ops_mul); rfl; rfl; (first | assumption | rfl); omega; omega)
           | ((with_reducible apply ops_quo); rfl; rfl; decide; (first | assumption | rfl); omega; omega)
           | ((with_reducible apply ops_rem); rfl; rfl; omega; (first | assumption | rfl))
           | ((with_reducible apply ops_lss); rfl; rfl; (first | assumption | rfl))
           | ((with_reducible apply ops_gtr); rfl; rfl; (first | assumption | rfl))
           | ((with_reducible apply ops_leq); rfl; rfl; (first | assumption | rfl))
           | ((with_reducible apply ops_geq); rfl; rfl; (first | assumption | rfl))
           | ((with_reducible apply ops_eql); rfl; rfl; (first | assumption | rfl))
           | ((with_reducible apply ops_neq); rfl; rfl; (first | assumption | rfl))
           | ((with_reducible apply ops_min2); rfl; (first | assumption | rfl))
           | ((with_reducible apply ops_max2); rfl; (first | assumption | rfl))
           | ((with_reducible apply ops_iaddrN); rfl; rfl; omega; rfl)
           | ((with_reducible apply ops_iaddr); rfl; rfl; omega; omega; rfl; rfl)
           | ((with_reducible apply ops_load); rfl; exact rowAt_of (by first | assumption) (Nat.zero_le _) (Nat.zero_le _); rfl; rfl)
           | ((with_reducible apply arr_loadN); rfl; (first | assumption); assumption; assumption; (first | assumption | (apply ints_get; omega) | (apply nats_get; omega)); rfl)
           | ((with_reducible apply arr_storeN); rfl; rfl; (first | assumption); assumption; assumption; (first | assumption | (apply ints_get; omega) | (apply nats_get; omega)); rfl; rfl; rfl; rfl; rfl)
           | ((apply hsl.len; rfl))
           | ((apply hsl.at_; rfl; rfl; omega))
           | (((with_reducible apply ops_conv); rfl; omega; omega))
           | ((with_reducible apply ops_struct); rfl; rfl; (first | assumption); rfl; rfl; rfl; rfl; rfl; exact Nat.le_of_ble_eq_true rfl; rfl)
           | ((with_reducible apply ops_bslice1); rfl; rfl; rfl)
           | ((with_reducible apply ops_push); rfl; rfl; (first | assumption); (first | assumption); assumption; assumption; assumption; (first | rfl | assumption); omega; rfl)
           | ((with_reducible apply ops_cutN); rfl; rfl; omega)
           | exact ops_of rfl
         · dsimp only [putV, List.set]; try rfl)
      | ((with_reducible apply d_go)
         · rfl
         · first
           | ((with_reducible apply ops_add); rfl; rfl; (first | assumption | rfl); omega; omega)
           | ((with_reducible apply ops_sub); rfl; rfl; (first | assumption | rfl); omega; omega)
           | ((with_reducible apply ops_mul); rfl; rfl; (first | assumption | rfl); omega; omega)
           | ((with_reducible apply ops_quo); rfl; rfl; decide; (first | assumption | rfl); omega; omega)
           | ((with_reducible apply ops_rem); rfl; rfl; omega; (first | assumption | rfl))
           | ((with_reducible apply ops_lss); rfl; rfl; (first | assumption | rfl))
           | ((with_reducible apply ops_gtr); rfl; rfl; (first | assumption | rfl))
           | ((with_reducible apply ops_leq); rfl; rfl; (first | assumption | rfl))
           | ((with_reducible apply ops_geq); rfl; rfl; (first | assumption | rfl))
           | ((with_reducible apply ops_eql); rfl; rfl; (first | assumption | rfl))
           | ((with_reducible apply ops_neq); rfl; rfl; (first | assumption | rfl))
           | ((with_reducible apply ops_min2); rfl; (first | assumption | rfl))
           | ((with_reducible apply ops_max2); rfl; (first | assumption | rfl))
           | ((with_reducible apply ops_iaddrN); rfl; rfl; omega; rfl)
           | ((with_reducible apply ops_iaddr); rfl; rfl; omega; omega; rfl; rfl)
           | ((with_reducible apply ops_load); rfl; exact rowAt_of (by first | assumption) (Nat.zero_le _) (Nat.zero_le _); rfl; rfl)
           | ((with_reducible apply arr_loadN); rfl; (first | assumption); assumption; assumption; (first | assumption | (apply ints_get; omega) | (apply nats_get; omega)); rfl)
           | ((with_reducible apply arr_storeN); rfl; rfl; (first | assumption); assumption; assumption; (first | assumption | (apply ints_get; omega) | (apply nats_get; omega)); rfl; rfl; rfl; rfl; rfl)
           | ((apply hsl.len; rfl))
           | ((apply hsl.at_; rfl; rfl; omega))
           | (((with_reducible apply ops_conv); rfl; omega; omega))
           | ((with_reducible apply ops_struct); rfl; rfl; (first | assumption); rfl; rfl; rfl; rfl; rfl; exact Nat.le_of_ble_eq_true rfl; rfl)
           | ((with_reducible apply ops_bslice1); rfl; rfl; rfl)
           | ((with_reducible apply ops_push); rfl; rfl; (first | assumption); (first | assumption); assumption; assumption; assumption; (first | rfl | assumption); omega; rfl)
           | ((with_reducible apply ops_cutN); rfl; rfl; omega)
           | exact ops_of rfl
         · (first | with_reducible exact free_empty | rw [allW_same] | rw [allW_set] | rw [allW_push]) <;> (repeat (first | with_reducible exact free_nil | with_reducible exact free_empty | ((with_reducible apply free_mask); rfl) | ((with_reducible apply free_ne); (focus (first | rfl | (simp [clash, meets, *]; done))))))
         · first | exact note_same | exact note_read | exact note_set | exact note_push
         · dsimp only [putV, List.set]; try rfl))
      exact hR h _ _ _ _ _ _ _ _ _ _ _ _ _ _ _ _ _ _ _ _ _ _ _ _ _ _ _ _ _ _ _ _ _ _ _ _ _ _ _ _ _ _ _ _ _ _ _ _ _ _ _ _ _ _ _ _ _ _ _ _ _ _ _ _ _ _ _ _ _ _ _ _ _ _ _ _ _ _ _ _ _ _ hv
    | d + 1, hd =>
      have hc : decide ((i : Int) < ((a % 70 : Nat) : Int)) = true := decide_eq_true (by omega)
      have e1 : (i : Int) + 1 = ((i + 1 : Nat) : Int) := by omega
      have hy := hv_halve hv (by omega) (by omega)
      repeat (first
      | with_reducible apply q_seq
      | with_reducible apply q_reg
      | with_reducible apply q_draw
      | with_reducible apply q_ret
      | with_reducible apply q_skip
      | with_reducible apply q_exit
      | with_reducible apply q_block
      | with_reducible apply k_norm
      | with_reducible apply k_ret
      | with_reducible apply k_exit
      | with_reducible apply b_norm
      | with_reducible apply b_ret
      | with_reducible apply b_leave
      | ((with_reducible apply b_exit); decide)
      | with_reducible apply g_nil
      | with_reducible apply d_nil
      | ((with_reducible apply q_true); rfl)
      | ((with_reducible apply q_false); rfl)
      | ((with_reducible apply g_skip)
         · rfl
         · dsimp only [putV, List.set]; try rfl)
      | ((with_reducible apply d_skip)
         · rfl
         · dsimp only [putV, List.set]; try rfl)
      | ((with_reducible apply g_call)
         · rfl
         · rfl
         · rfl
         · exact hy
         · dsimp only [putV, List.set]; try rfl)
      | ((with_reducible apply g_go)
         · rfl
         · first
           | ((with_reducible apply ops_add); rfl; rfl; (first | assumption | rfl); omega; omega)
           | ((with_reducible apply ops_sub); rfl; rfl; (first | assumption | rfl); omega; omega)
           | ((with_reducible apply ops_mul); rfl; rfl; (first | assumption | rfl); omega; omega)
           | ((with_reducible apply ops_quo); rfl; rfl; decide; (first | assumption | rfl); omega; omega)
           | ((with_reducible apply ops_rem); rfl; rfl; omega; (first | assumption | rfl))
           | ((with_reducible apply ops_lss); rfl; rfl; (first | assumption | rfl))
           | ((with_reducible apply ops_gtr); rfl; rfl; (first | assumption | rfl))
           | ((with_reducible apply ops_leq); rfl; rfl; (first | assumption | rfl))
           | ((with_reducible apply ops_geq); rfl; rfl; (first | assumption | rfl))
           | ((with_reducible apply ops_eql); rfl; rfl; (first | assumption | rfl))
           | ((with_reducible apply ops_neq); rfl; rfl; (first | assumption | rfl))
           | ((with_reducible apply ops_min2); rfl; (first | assumption | rfl))
           | ((with_reducible apply ops_max2); rfl; (first | assumption | rfl))
           | ((with_reducible apply ops_iaddrN); rfl; rfl; omega; rfl)
           | ((with_reducible apply ops_iaddr); rfl; rfl; omega; omega; rfl; rfl)
           | ((with_reducible apply ops_load); rfl; exact rowAt_of (by first | assumption) (Nat.zero_le _) (Nat.zero_le _); rfl; rfl)
           | ((with_reducible apply arr_loadN); rfl; (first | assumption); assumption; assumption; (first | assumption | (apply ints_get; omega) | (apply nats_get; omega)); rfl)
           | ((with_reducible apply arr_storeN); rfl; rfl; (first | assumption); assumption; assumption; (first | assumption | (apply ints_get; omega) | (apply nats_get; omega)); rfl; rfl; rfl; rfl; rfl)
           | ((apply hsl.len; rfl))
           | ((apply hsl.at_; rfl; rfl; omega))
           | (((with_reducible apply ops_conv); rfl; omega; omega))
           | ((with_reducible apply ops_struct); rfl; rfl; (first | assumption); rfl; rfl; rfl; rfl; rfl; exact Nat.le_of_ble_eq_true rfl; rfl)
           | ((with_reducible apply ops_bslice1); rfl; rfl; rfl)
           | ((with_reducible apply ops_push); rfl; rfl; (first | assumption); (first | assumption); assumption; assumption; assumption; (first | rfl | assumption); omega; rfl)
           | ((with_reducible apply ops_cutN); rfl; rfl; omega)
           | exact ops_of rfl
         · dsimp only [putV, List.set]; try rfl)
      | ((with_reducible apply d_go)
         · rfl
         · first
           | ((with_reducible apply ops_add); rfl; rfl; (first | assumption | rfl); omega; omega)
           | ((with_reducible apply ops_sub); rfl; rfl; (first | assumption | rfl); omega; omega)
           | ((with_reducible apply ops_mul); rfl; rfl; (first | assumption | rfl); omega; omega)
           | ((with_reducible apply ops_quo); rfl; rfl; decide; (first | assumption | rfl); omega; omega)
           | ((with_reducible apply ops_rem); rfl; rfl; omega; (first | assumption | rfl))
           | ((with_reducible apply ops_lss); rfl; rfl; (first | assumption | rfl))
           | ((with_reducible apply ops_gtr); rfl; rfl; (first | assumption | rfl))
           | ((with_reducible apply ops_leq); rfl; rfl; (first | assumption | rfl))
           | ((with_reducible apply ops_geq); rfl; rfl; (first | assumption | rfl))
           | ((with_reducible apply ops_eql); rfl; rfl; (first | assumption | rfl))
           | ((with_reducible apply ops_neq); rfl; rfl; (first | assumption | rfl))
           | ((with_reducible apply ops_min2); rfl; (first | assumption | rfl))
           | ((with_reducible apply ops_max2); rfl; (first | assumption | rfl))
           | ((with_reducible apply ops_iaddrN); rfl; rfl; omega; rfl)
           | ((with_reducible apply ops_iaddr); rfl; rfl; omega; omega; rfl; rfl)
           | ((with_reducible apply ops_load); rfl; exact rowAt_of (by first | assumption) (Nat.zero_le _) (Nat.zero_le _); rfl; rfl)
           | ((with_reducible apply arr_loadN); rfl; (first | assumption); assumption; assumption; (first | assumption | (apply ints_get; omega) | (apply nats_get; omega)); rfl)
           | ((with_reducible apply arr_storeN); rfl; rfl; (first | assumption); assumption; assumption; (first | assumption | (apply ints_get; omega) | (apply nats_get; omega)); rfl; rfl; rfl; rfl; rfl)
           | ((apply hsl.len; rfl))
           | ((apply hsl.at_; rfl; rfl; omega))
           | (((with_reducible apply ops_conv); rfl; omega; omega))
           | ((with_reducible apply ops_struct); rfl; rfl; (first | assumption); rfl; rfl; rfl; rfl; rfl; exact Nat.le_of_ble_eq_true rfl; rfl)
           | ((with_reducible apply ops_bslice1); rfl; rfl; rfl)
           | ((with_reducible apply ops_push); rfl; rfl; (first | assumption); (first | assumption); assumption; assumption; assumption; (first | rfl | assumption); omega; rfl)
           | ((with_reducible apply ops_cutN); rfl; rfl; omega)
           | exact ops_of rfl
         · (first | with_reducible exact free_empty | rw [allW_same] | rw [allW_set] | rw [allW_push]) <;> (repeat (first | with_reducible exact free_nil | with_reducible exact free_empty | ((with_reducible apply free_mask); rfl) | ((with_reducible apply free_ne); (focus (first | rfl | (simp [clash, meets, *]; done))))))
         · first | exact note_same | exact note_read | exact note_set | exact note_push
         · dsimp only [putV, List.set]; try rfl))
      intro r1 w1 h1 hD
      obtain ⟨d1, d2⟩ := hD
      repeat (first
      | with_reducible apply q_seq
      | with_reducible apply q_reg
      | with_reducible apply q_draw
      | with_reducible apply q_ret
      | with_reducible apply q_skip
      | with_reducible apply q_exit
      | with_reducible apply q_block
      | with_reducible apply k_norm
      | with_reducible apply k_ret
      | with_reducible apply k_exit
      | with_reducible apply b_norm
      | with_reducible apply b_ret
      | with_reducible apply b_leave
      | ((with_reducible apply b_exit); decide)
      | with_reducible apply g_nil
      | with_reducible apply d_nil
      | ((with_reducible apply q_true); rfl)
      | ((with_reducible apply q_false); rfl)
      | ((with_reducible apply g_skip)
         · rfl
         · dsimp only [putV, List.set]; try rfl)
      | ((with_reducible apply d_skip)
         · rfl
         · dsimp only [putV, List.set]; try rfl)
      | ((with_reducible apply g_go)
         · rfl
         · first
           | ((with_reducible apply ops_add); rfl; rfl; (first | assumption | rfl); omega; omega)
           | ((with_reducible apply ops_sub); rfl; rfl; (first | assumption | rfl); omega; omega)
           | ((with_reducible apply ops_mul); rfl; rfl; (first | assumption | rfl); omega; omega)
           | ((with_reducible apply ops_quo); rfl; rfl; decide; (first | assumption | rfl); omega; omega)
           | ((with_reducible apply ops_rem); rfl; rfl; omega; (first | assumption | rfl))
           | ((with_reducible apply ops_lss); rfl; rfl; (first | assumption | rfl))
           | ((with_reducible apply ops_gtr); rfl; rfl; (first | assumption | rfl))
           | ((with_reducible apply ops_leq); rfl; rfl; (first | assumption | rfl))
           | ((with_reducible apply ops_geq); rfl; rfl; (first | assumption | rfl))
           | ((with_reducible apply ops_eql); rfl; rfl; (first | assumption | rfl))
           | ((with_reducible apply ops_neq); rfl; rfl; (first | assumption | rfl))
           | ((with_reducible apply ops_min2); rfl; (first | assumption | rfl))
           | ((with_reducible apply ops_max2); rfl; (first | assumption | rfl))
           | ((with_reducible apply ops_iaddrN); rfl; rfl; omega; rfl)
           | ((with_reducible apply ops_iaddr); rfl; rfl; omega; omega; rfl; rfl)
           | ((with_reducible apply ops_load); rfl; exact rowAt_of (by first | assumption) (Nat.zero_le _) (Nat.zero_le _); rfl; rfl)
           | ((with_reducible apply arr_loadN); rfl; (first | assumption); assumption; assumption; (first | assumption | (apply ints_get; omega) | (apply nats_get; omega)); rfl)
           | ((with_reducible apply arr_storeN); rfl; rfl; (first | assumption); assumption; assumption; (first | assumption | (apply ints_get; omega) | (apply nats_get; omega)); rfl; rfl; rfl; rfl; rfl)
           | ((apply hsl.len; rfl))
           | ((apply hsl.at_; rfl; rfl; omega))
           | (((with_reducible apply ops_conv); rfl; omega; omega))
           | ((with_reducible apply ops_struct); rfl; rfl; (first | assumption); rfl; rfl; rfl; rfl; rfl; exact Nat.le_of_ble_eq_true rfl; rfl)
           | ((with_reducible apply ops_bslice1); rfl; rfl; rfl)
           | ((with_reducible apply ops_push); rfl; rfl; (first | assumption); (first | assumption); assumption; assumption; assumption; (first | rfl | assumption); omega; rfl)
           | ((with_reducible apply ops_cutN); rfl; rfl; omega)
           | exact ops_of rfl
         · dsimp only [putV, List.set]; try rfl)
      | ((with_reducible apply d_go)
         · rfl
         · first
           | ((with_reducible apply ops_add); rfl; rfl; (first | assumption | rfl); omega; omega)
           | ((with_reducible apply ops_sub); rfl; rfl; (first | assumption | rfl); omega; omega)
           | ((with_reducible apply ops_mul); rfl; rfl; (first | assumption | rfl); omega; omega)
           | ((with_reducible apply ops_quo); rfl; rfl; decide; (first | assumption | rfl); omega; omega)
           | ((with_reducible apply ops_rem); rfl; rfl; omega; (first | assumption | rfl))
           | ((with_reducible apply ops_lss); rfl; rfl; (first | assumption | rfl))
           | ((with_reducible apply ops_gtr); rfl; rfl; (first | assumption | rfl))
           | ((with_reducible apply ops_leq); rfl; rfl; (first | assumption | rfl))
           | ((with_reducible apply ops_geq); rfl; rfl; (first | assumption | rfl))
           | ((with_reducible apply ops_eql); rfl; rfl; (first | assumption | rfl))
           | ((with_reducible apply ops_neq); rfl; rfl; (first | assumption | rfl))
           | ((with_reducible apply ops_min2); rfl; (first | assumption | rfl))
           | ((with_reducible apply ops_max2); rfl; (first | assumption | rfl))
           | ((with_reducible apply ops_iaddrN); rfl; rfl; omega; rfl)
           | ((with_reducible apply ops_iaddr); rfl; rfl; omega; omega; rfl; rfl)
           | ((with_reducible apply ops_load); rfl; exact rowAt_of (by first | assumption) (Nat.zero_le _) (Nat.zero_le _); rfl; rfl)
           | ((with_reducible apply arr_loadN); rfl; (first | assumption); assumption; assumption; (first | assumption | (apply ints_get; omega) | (apply nats_get; omega)); rfl)
           | ((with_reducible apply arr_storeN); rfl; rfl; (first | assumption); assumption; assumption; (first | assumption | (apply ints_get; omega) | (apply nats_get; omega)); rfl; rfl; rfl; rfl; rfl)
           | ((apply hsl.len; rfl))
           | ((apply hsl.at_; rfl; rfl; omega))
           | (((with_reducible apply ops_conv); rfl; omega; omega))
           | ((with_reducible apply ops_struct); rfl; rfl; (first | assumption); rfl; rfl; rfl; rfl; rfl; exact Nat.le_of_ble_eq_true rfl; rfl)
           | ((with_reducible apply ops_bslice1); rfl; rfl; rfl)
           | ((with_reducible apply ops_push); rfl; rfl; (first | assumption); (first | assumption); assumption; assumption; assumption; (first | rfl | assumption); omega; rfl)
           | ((with_reducible apply ops_cutN); rfl; rfl; omega)
           | exact ops_of rfl
         · (first | with_reducible exact free_empty | rw [allW_same] | rw [allW_set] | rw [allW_push]) <;> (repeat (first | with_reducible exact free_nil | with_reducible exact free_empty | ((with_reducible apply free_mask); rfl) | ((with_reducible apply free_ne); (focus (first | rfl | (simp [clash, meets, *]; done))))))
         · first | exact note_same | exact note_read | exact note_set | exact note_push
         · dsimp only [putV, List.set]; try rfl))
      exact half_loop2 (bL := bL) (bP := bP) (bA := bA) hsl hn2 ha R d (i + 1) _ h1 _ _ _ _ _ _ _ _ _ _ _ _ _ _ _ _ _ _ _ _ _ _ _ _ _ _ _ _ _ _ _ _ _ _ _ _ _ _ _ _ _ _ _ _ _ _ _ _ _ _ _ _ _ _ _ _ _ _ _ _ _ _ _ _ _ _ _ _ _ _ _ _ _ _ _ _ _ _ _ _ _ (by omega) d1 hR
theorem half_loop6 {i : Nat} {x0 : V} {g : Nat → Int} {b bL bP bA a n : Nat} (hsl : Sl x0 n g) (hn2 : n ≤ 40) (ha : a < 256) (R : Ex → St → Prop) : ∀ (d k : Nat) (y : Int) (h : H) (r w : List Nat) (j2 j3 j4 j6 j7 j8 j12 j13 j14 j15 j16 j17 j18 j19 j20 j21 j22 j23 j24 j25 j26 j27 j28 j29 j30 j31 j32 j33 j34 j35 j36 j37 j38 j39 j40 j41 j42 j43 j44 j45 j46 j47 j48 j49 j50 j51 j52 j53 j54 j55 j56 j57 j58 j59 j60 j61 j62 j63 j64 j65 j66 j67 j68 j69 j70 j71 j72 j73 j74 j75 j76 j77 j78 j79 j80 j81 j82 : V), a % 70 = k + d → 0 ≤ y → y ≤ 1152921504606846976 →
    (∀ (r' w' : List Nat) (z : V) (k2 k3 k4 k6 k7 k8 k12 k13 k14 k15 k16 k17 k18 k19 k20 k21 k22 k23 k24 k25 k26 k27 k28 k29 k30 k31 k32 k33 k34 k35 k36 k37 k38 k39 k40 k41 k42 k43 k44 k45 k46 k47 k48 k49 k50 k51 k52 k53 k54 k55 k56 k57 k58 k59 k60 k61 k62 k63 k64 k65 k66 k67 k68 k69 k70 k71 k72 k73 k74 k75 k76 k77 k78 k79 k80 k81 k82 : V), R (.exit 6) ⟨[x0, (.int .u8 (a : Nat)), k2, k3, k4, (.ptr b 0 0 0), k6, k7, k8, (.int .i64 (i : Nat)), (.int .i64 (dn d y)), z, k12, k13, k14, k15, k16, k17, k18, k19, k20, k21, k22, k23, k24, k25, k26, k27, k28, k29, k30, k31, k32, k33, k34, k35, k36, k37, k38, k39, k40, k41, k42, k43, k44, k45, k46, k47, k48, k49, k50, k51, k52, k53, k54, k55, k56, k57, k58, k59, k60, k61, k62, k63, k64, k65, k66, k67, k68, k69, k70, k71, k72, k73, k74, k75, k76, k77, k78, k79, k80, k81, k82], h, r', w'⟩) →
    RQ EH 0 hLoop6 ⟨[x0, (.int .u8 (a : Nat)), j2, j3, j4, (.ptr b 0 0 0), j6, j7, j8, (.int .i64 (i : Nat)), (.int .i64 y), (.int .i64 (k : Nat)), j12, j13, j14, j15, j16, j17, j18, j19, j20, j21, j22, j23, j24, j25, j26, j27, j28, j29, j30, j31, j32, j33, j34, j35, j36, j37, j38, j39, j40, j41, j42, j43, j44, j45, j46, j47, j48, j49, j50, j51, j52, j53, j54, j55, j56, j57, j58, j59, j60, j61, j62, j63, j64, j65, j66, j67, j68, j69, j70, j71, j72, j73, j74, j75, j76, j77, j78, j79, j80, j81, j82], h, r, w⟩ R
  | d, k, y, h, r, w, j2, j3, j4, j6, j7, j8, j12, j13, j14, j15, j16, j17, j18, j19, j20, j21, j22, j23, j24, j25, j26, j27, j28, j29, j30, j31, j32, j33, j34, j35, j36, j37, j38, j39, j40, j41, j42, j43, j44, j45, j46, j47, j48, j49, j50, j51, j52, j53, j54, j55, j56, j57, j58, j59, j60, j61, j62, j63, j64, j65, j66, j67, j68, j69, j70, j71, j72, j73, j74, j75, j76, j77, j78, j79, j80, j81, j82, hd, y0, y1, hR => by
    have er : ((a : Nat) : Int).tmod 70 = ((a % 70 : Nat) : Int) := rfl
    unfold hLoop6
    apply q_loop
    match d, hd with
    | 0, hd =>
      have hc : decide ((k : Int) < ((a % 70 : Nat) : Int)) = false := decide_eq_false (by omega)
      repeat (first
      | with_reducible apply q_seq
      | with_reducible apply q_reg
      | with_reducible apply q_draw
      | with_reducible apply q_ret
      | with_reducible apply q_skip
      | with_reducible apply q_exit
      | with_reducible apply q_block
      | with_reducible apply k_norm
      | with_reducible apply k_ret
      | with_reducible apply k_exit
      | with_reducible apply b_norm
      | with_reducible apply b_ret
      | with_reducible apply b_leave
      | ((with_reducible apply b_exit); decide)
      | with_reducible apply g_nil
      | with_reducible apply d_nil
      | ((with_reducible apply q_true); rfl)
      | ((with_reducible apply q_false); rfl)
      | ((with_reducible apply g_skip)
         · rfl
         · dsimp only [putV, List.set]; try rfl)
      | ((with_reducible apply d_skip)
         · rfl
         · dsimp only [putV, List.set]; try rfl)
      | ((with_reducible apply g_go)
         · rfl
         · first
           | ((with_reducible apply ops_add); rfl; rfl; (first | assumption | rfl); omega; omega)
           | ((with_reducible apply ops_sub); rfl; rfl; (first | assumption | rfl); omega; omega)
           | ((with_reducible apply ops_mul); rfl; rfl; (first | assumption | rfl); omega; omega)
           | ((with_reducible apply ops_quo); rfl; rfl; decide; (first | assumption | rfl); omega; omega)
           | ((with_reducible apply ops_rem); rfl; rfl; omega; (first | assumption | rfl))
           | ((with_reducible apply ops_lss); rfl; rfl; (first | assumption | rfl))
           | ((with_reducible apply ops_gtr); rfl; rfl; (first | assumption | rfl))
           | ((with_reducible apply ops_leq); rfl; rfl; (first | assumption | rfl))
           | ((with_reducible apply ops_geq); rfl; rfl; (first | assumption | rfl))
           | ((with_reducible apply ops_eql); rfl; rfl; (first | assumption | rfl))
           | ((with_reducible apply ops_neq); rfl; rfl; (first | assumption | rfl))
           | ((with_reducible apply ops_min2); rfl; (first | assumption | rfl))
           | ((with_reducible apply ops_max2); rfl; (first | assumption | rfl))
           | ((with_reducible apply ops_iaddrN); rfl; rfl; omega; rfl)
           | ((with_reducible apply ops_iaddr); rfl; rfl; omega; omega; rfl; rfl)
           | ((with_reducible apply ops_load); rfl; exact rowAt_of (by first | assumption) (Nat.zero_le _) (Nat.zero_le _); rfl; rfl)
           | ((with_reducible apply arr_loadN); rfl; (first | assumption); assumption; assumption; (first | assumption | (apply ints_get; omega) | (apply nats_get; omega)); rfl)
           | ((with_reducible apply arr_storeN); rfl; rfl; (first | assumption); assumption; assumption; (first | assumption | (apply ints_get; omega) | (apply nats_get; omega)); rfl; rfl; rfl; rfl; rfl)
           | ((apply hsl.len; rfl))
           | ((apply hsl.at_; rfl; rfl; omega))
           | (((with_reducible apply ops_conv); rfl; omega; omega))
           | ((with_reducible apply ops_struct); rfl; rfl; (first | assumption); rfl; rfl; rfl; rfl; rfl; exact Nat.le_of_ble_eq_true rfl; rfl)
           | ((with_reducible apply ops_bslice1); rfl; rfl; rfl)
           | ((with_reducible apply ops_push); rfl; rfl; (first | assumption); (first | assumption); assumption; assumption; assumption; (first | rfl | assumption); omega; rfl)
           | ((with_reducible apply ops_cutN); rfl; rfl; omega)
           | exact ops_of rfl
         · dsimp only [putV, List.set]; try rfl)
      | ((with_reducible apply d_go)
         · rfl
         · first
           | ((with_reducible apply ops_add); rfl; rfl; (first | assumption | rfl); omega; omega)
           | ((with_reducible apply ops_sub); rfl; rfl; (first | assumption | rfl); omega; omega)
           | ((with_reducible apply ops_mul); rfl; rfl; (first | assumption | rfl); omega; omega)
           | ((with_reducible apply ops_quo); rfl; rfl; decide; (first | assumption | rfl); omega; omega)
           | ((with_reducible apply ops_rem); rfl; rfl; omega; (first | assumption | rfl))
           | ((with_reducible apply ops_lss); rfl; rfl; (first | assumption | rfl))
           | ((with_reducible apply ops_gtr); rfl; rfl; (first | assumption | rfl))
           | ((with_reducible apply ops_leq); rfl; rfl; (first | assumption | rfl))
           | ((with_reducible apply ops_geq); rfl; rfl; (first | assumption | rfl))
           | ((with_reducible apply ops_eql); rfl; rfl; (first | assumption | rfl))
           | ((with_reducible apply ops_neq); rfl; rfl; (first | assumption | rfl))
           | ((with_reducible apply ops_min2); rfl; (first | assumption | rfl))
           | ((with_reducible apply ops_max2); rfl; (first | assumption | rfl))
           | ((with_reducible apply ops_iaddrN); rfl; rfl; omega; rfl)
           | ((with_reducible apply ops_iaddr); rfl; rfl; omega; omega; rfl; rfl)
           | ((with_reducible apply ops_load); rfl; exact rowAt_of (by first | assumption) (Nat.zero_le _) (Nat.zero_le _); rfl; rfl)
           | ((with_reducible apply arr_loadN); rfl; (first | assumption); assumption; assumption; (first | assumption | (apply ints_get; omega) | (apply nats_get; omega)); rfl)
           | ((with_reducible apply arr_storeN); rfl; rfl; (first | assumption); assumption; assumption; (first | assumption | (apply ints_get; omega) | (apply nats_get; omega)); rfl; rfl; rfl; rfl; rfl)
           | ((apply hsl.len; rfl))
           | ((apply hsl.at_; rfl; rfl; omega))
           | (((with_reducible apply ops_conv); rfl; omega; omega))
           | ((with_reducible apply ops_struct); rfl; rfl; (first | assumption); rfl; rfl; rfl; rfl; rfl; exact Nat.le_of_ble_eq_true rfl; rfl)
           | ((with_reducible apply ops_bslice1); rfl; rfl; rfl)
           | ((with_reducible apply ops_push); rfl; rfl; (first | assumption); (first | assumption); assumption; assumption; assumption; (first | rfl | assumption); omega; rfl)
           | ((with_reducible apply ops_cutN); rfl; rfl; omega)
           | exact ops_of rfl
         · (first | with_reducible exact free_empty | rw [allW_same] | rw [allW_set] | rw [allW_push]) <;> (repeat (first | with_reducible exact free_nil | with_reducible exact free_empty | ((with_reducible apply free_mask); rfl) | ((with_reducible apply free_ne); (focus (first | rfl | (simp [clash, meets, *]; done))))))
         · first | exact note_same | exact note_read | exact note_set | exact note_push
         · dsimp only [putV, List.set]; try rfl))
      exact hR _ _ _ _ _ _ _ _ _ _ _ _ _ _ _ _ _ _ _ _ _ _ _ _ _ _ _ _ _ _ _ _ _ _ _ _ _ _ _ _ _ _ _ _ _ _ _ _ _ _ _ _ _ _ _ _ _ _ _ _ _ _ _ _ _ _ _ _ _ _ _ _ _ _ _ _ _ _ _ _
    | d + 1, hd =>
      have hc : decide ((k : Int) < ((a % 70 : Nat) : Int)) = true := decide_eq_true (by omega)
      have e1 : (k : Int) + 1 = ((k + 1 : Nat) : Int) := by omega
      obtain ⟨q, hq⟩ : ∃ q, y.tdiv 2 = q := ⟨_, rfl⟩
      have hqb : 0 ≤ q ∧ q ≤ y := by
        rw [← hq]
        exact ⟨Int.tdiv_nonneg y0 (by omega), by rw [Int.tdiv_eq_ediv_of_nonneg y0]; omega⟩
      repeat (first
      | with_reducible apply q_seq
      | with_reducible apply q_reg
      | with_reducible apply q_draw
      | with_reducible apply q_ret
      | with_reducible apply q_skip
      | with_reducible apply q_exit
      | with_reducible apply q_block
      | with_reducible apply k_norm
      | with_reducible apply k_ret
      | with_reducible apply k_exit
      | with_reducible apply b_norm
      | with_reducible apply b_ret
      | with_reducible apply b_leave
      | ((with_reducible apply b_exit); decide)
      | with_reducible apply g_nil
      | with_reducible apply d_nil
      | ((with_reducible apply q_true); rfl)
      | ((with_reducible apply q_false); rfl)
      | ((with_reducible apply g_skip)
         · rfl
         · dsimp only [putV, List.set]; try rfl)
      | ((with_reducible apply d_skip)
         · rfl
         · dsimp only [putV, List.set]; try rfl)
      | ((with_reducible apply g_go)
         · rfl
         · first
           | ((with_reducible apply ops_add); rfl; rfl; (first | assumption | rfl); omega; omega)
           | ((with_reducible apply ops_sub); rfl; rfl; (first | assumption | rfl); omega; omega)
           | ((with_reducible apply ops_mul); rfl; rfl; (first | assumption | rfl); omega; omega)
           | ((with_reducible apply ops_quo); rfl; rfl; decide; (first | assumption | rfl); omega; omega)
           | ((with_reducible apply ops_rem); rfl; rfl; omega; (first | assumption | rfl))
           | ((with_reducible apply ops_lss); rfl; rfl; (first | assumption | rfl))
           | ((with_reducible apply ops_gtr); rfl; rfl; (first | assumption | rfl))
           | ((with_reducible apply ops_leq); rfl; rfl; (first | assumption | rfl))
           | ((with_reducible apply ops_geq); rfl; rfl; (first | assumption | rfl))
           | ((with_reducible apply ops_eql); rfl; rfl; (first | assumption | rfl))
           | ((with_reducible apply ops_neq); rfl; rfl; (first | assumption | rfl))
           | ((with_reducible apply ops_min2); rfl; (first | assumption | rfl))
           | ((with_reducible apply ops_max2); rfl; (first | assumption | rfl))
           | ((with_reducible apply ops_iaddrN); rfl; rfl; omega; rfl)
           | ((with_reducible apply ops_iaddr); rfl; rfl; omega; omega; rfl; rfl)
           | ((with_reducible apply ops_load); rfl; exact rowAt_of (by first | assumption) (Nat.zero_le _) (Nat.zero_le _); rfl; rfl)
           | ((with_reducible apply arr_loadN); rfl; (first | assumption); assumption; assumption; (first | assumption | (apply ints_get; omega) | (apply nats_get; omega)); rfl)
           | ((with_reducible apply arr_storeN); rfl; rfl; (first | assumption); assumption; assumption; (first | assumption | (apply ints_get; omega) | (apply nats_get; omega)); rfl; rfl; rfl; rfl; rfl)
           | ((apply hsl.len; rfl))
           | ((apply hsl.at_; rfl; rfl; omega))
           | (((with_reducible apply ops_conv); rfl; omega; omega))
           | ((with_reducible apply ops_struct); rfl; rfl; (first | assumption); rfl; rfl; rfl; rfl; rfl; exact Nat.le_of_ble_eq_true rfl; rfl)
           | ((with_reducible apply ops_bslice1); rfl; rfl; rfl)
           | ((with_reducible apply ops_push); rfl; rfl; (first | assumption); (first | assumption); assumption; assumption; assumption; (first | rfl | assumption); omega; rfl)
           | ((with_reducible apply ops_cutN); rfl; rfl; omega)
           | exact ops_of rfl
         · dsimp only [putV, List.set]; try rfl)
      | ((with_reducible apply d_go)
         · rfl
         · first
           | ((with_reducible apply ops_add); rfl; rfl; (first | assumption | rfl); omega; omega)
           | ((with_reducible apply ops_sub); rfl; rfl; (first | assumption | rfl); omega; omega)
           | ((with_reducible apply ops_mul); rfl; rfl; (first | assumption | rfl); omega; omega)
           | ((with_reducible apply ops_quo); rfl; rfl; decide; (first | assumption | rfl); omega; omega)
           | ((with_reducible apply ops_rem); rfl; rfl; omega; (first | assumption | rfl))
           | ((with_reducible apply ops_lss); rfl; rfl; (first | assumption | rfl))
           | ((with_reducible apply ops_gtr); rfl; rfl; (first | assumption | rfl))
           | ((with_reducible apply ops_leq); rfl; rfl; (first | assumption | rfl))
           | ((with_reducible apply ops_geq); rfl; rfl; (first | assumption | rfl))
           | ((with_reducible apply ops_eql); rfl; rfl; (first | assumption | rfl))
           | ((with_reducible apply ops_neq); rfl; rfl; (first | assumption | rfl))
           | ((with_reducible apply ops_min2); rfl; (first | assumption | rfl))
           | ((with_reducible apply ops_max2); rfl; (first | assumption | rfl))
           | ((with_reducible apply ops_iaddrN); rfl; rfl; omega; rfl)
           | ((with_reducible apply ops_iaddr); rfl; rfl; omega; omega; rfl; rfl)
           | ((with_reducible apply ops_load); rfl; exact rowAt_of (by first | assumption) (Nat.zero_le _) (Nat.zero_le _); rfl; rfl)
           | ((with_reducible apply arr_loadN); rfl; (first | assumption); assumption; assumption; (first | assumption | (apply ints_get; omega) | (apply nats_get; omega)); rfl)
           | ((with_reducible apply arr_storeN); rfl; rfl; (first | assumption); assumption; assumption; (first | assumption | (apply ints_get; omega) | (apply nats_get; omega)); rfl; rfl; rfl; rfl; rfl)
           | ((apply hsl.len; rfl))
           | ((apply hsl.at_; rfl; rfl; omega))
           | (((with_reducible apply ops_conv); rfl; omega; omega))
           | ((with_reducible apply ops_struct); rfl; rfl; (first | assumption); rfl; rfl; rfl; rfl; rfl; exact Nat.le_of_ble_eq_true rfl; rfl)
           | ((with_reducible apply ops_bslice1); rfl; rfl; rfl)
           | ((with_reducible apply ops_push); rfl; rfl; (first | assumption); (first | assumption); assumption; assumption; assumption; (first | rfl | assumption); omega; rfl)
           | ((with_reducible apply ops_cutN); rfl; rfl; omega)
           | exact ops_of rfl
         · (first | with_reducible exact free_empty | rw [allW_same] | rw [allW_set] | rw [allW_push]) <;> (repeat (first | with_reducible exact free_nil | with_reducible exact free_empty | ((with_reducible apply free_mask); rfl) | ((with_reducible apply free_ne); (focus (first | rfl | (simp [clash, meets, *]; done))))))
         · first | exact note_same | exact note_read | exact note_set | exact note_push
         · dsimp only [putV, List.set]; try rfl))
      refine half_loop6 (b := b) (bL := bL) (bP := bP) (bA := bA) hsl hn2 ha R d (k + 1) q h _ _ _ _ _ _ _ _ _ _ _ _ _ _ _ _ _ _ _ _ _ _ _ _ _ _ _ _ _ _ _ _ _ _ _ _ _ _ _ _ _ _ _ _ _ _ _ _ _ _ _ _ _ _ _ _ _ _ _ _ _ _ _ _ _ _ _ _ _ _ _ _ _ _ _ _ _ _ _ (by omega) hqb.1 (by omega) ?_
      intro r' w' z k2 k3 k4 k6 k7 k8 k12 k13 k14 k15 k16 k17 k18 k19 k20 k21 k22 k23 k24 k25 k26 k27 k28 k29 k30 k31 k32 k33 k34 k35 k36 k37 k38 k39 k40 k41 k42 k43 k44 k45 k46 k47 k48 k49 k50 k51 k52 k53 k54 k55 k56 k57 k58 k59 k60 k61 k62 k63 k64 k65 k66 k67 k68 k69 k70 k71 k72 k73 k74 k75 k76 k77 k78 k79 k80 k81 k82
      have := hR r' w' z k2 k3 k4 k6 k7 k8 k12 k13 k14 k15 k16 k17 k18 k19 k20 k21 k22 k23 k24 k25 k26 k27 k28 k29 k30 k31 k32 k33 k34 k35 k36 k37 k38 k39 k40 k41 k42 k43 k44 k45 k46 k47 k48 k49 k50 k51 k52 k53 k54 k55 k56 k57 k58 k59 k60 k61 k62 k63 k64 k65 k66 k67 k68 k69 k70 k71 k72 k73 k74 k75 k76 k77 k78 k79 k80 k81 k82
      simp only [dn, hq] at this
      exact this
theorem half_loop4 {F : Nat → Int} {x0 : V} {g : Nat → Int} {b bL bP bA a n : Nat} (hsl : Sl x0 n g) (hn2 : n ≤ 40) (ha : a < 256) (hF : ∀ u, F u = if 1 ≤ u ∧ u ≤ n then capH (g (u - 1)) else 0) (R : Ex → St → Prop) : ∀ (d i : Nat) (h : H) (r w : List Nat) (j2 j3 j4 j6 j7 j8 j10 j11 j12 j13 j14 j15 j16 j17 j18 j19 j20 j21 j22 j23 j24 j25 j26 j27 j28 j29 j30 j31 j32 j33 j34 j35 j36 j37 j38 j39 j40 j41 j42 j43 j44 j45 j46 j47 j48 j49 j50 j51 j52 j53 j54 j55 j56 j57 j58 j59 j60 j61 j62 j63 j64 j65 j66 j67 j68 j69 j70 j71 j72 j73 j74 j75 j76 j77 j78 j79 j80 j81 j82 : V), n = i + d → Hv h b bL bP bA n n (fun _ => true) (fun u => dn (a % 70) (F u)) →
    (∀ (r' w' : List Nat) (z : V) (k2 k3 k4 k6 k7 k8 k10 k11 k12 k13 k14 k15 k16 k17 k18 k19 k20 k21 k22 k23 k24 k25 k26 k27 k28 k29 k30 k31 k32 k33 k34 k35 k36 k37 k38 k39 k40 k41 k42 k43 k44 k45 k46 k47 k48 k49 k50 k51 k52 k53 k54 k55 k56 k57 k58 k59 k60 k61 k62 k63 k64 k65 k66 k67 k68 k69 k70 k71 k72 k73 k74 k75 k76 k77 k78 k79 k80 k81 k82 : V), R (.exit 4) ⟨[x0, (.int .u8 (a : Nat)), k2, k3, k4, (.ptr b 0 0 0), k6, k7, k8, z, k10, k11, k12, k13, k14, k15, k16, k17, k18, k19, k20, k21, k22, k23, k24, k25, k26, k27, k28, k29, k30, k31, k32, k33, k34, k35, k36, k37, k38, k39, k40, k41, k42, k43, k44, k45, k46, k47, k48, k49, k50, k51, k52, k53, k54, k55, k56, k57, k58, k59, k60, k61, k62, k63, k64, k65, k66, k67, k68, k69, k70, k71, k72, k73, k74, k75, k76, k77, k78, k79, k80, k81, k82], h, r', w'⟩) →
    RQ EH 0 hLoop4 ⟨[x0, (.int .u8 (a : Nat)), j2, j3, j4, (.ptr b 0 0 0), j6, j7, j8, (.int .i64 (i : Nat)), j10, j11, j12, j13, j14, j15, j16, j17, j18, j19, j20, j21, j22, j23, j24, j25, j26, j27, j28, j29, j30, j31, j32, j33, j34, j35, j36, j37, j38, j39, j40, j41, j42, j43, j44, j45, j46, j47, j48, j49, j50, j51, j52, j53, j54, j55, j56, j57, j58, j59, j60, j61, j62, j63, j64, j65, j66, j67, j68, j69, j70, j71, j72, j73, j74, j75, j76, j77, j78, j79, j80, j81, j82], h, r, w⟩ R
  | d, i, h, r, w, j2, j3, j4, j6, j7, j8, j10, j11, j12, j13, j14, j15, j16, j17, j18, j19, j20, j21, j22, j23, j24, j25, j26, j27, j28, j29, j30, j31, j32, j33, j34, j35, j36, j37, j38, j39, j40, j41, j42, j43, j44, j45, j46, j47, j48, j49, j50, j51, j52, j53, j54, j55, j56, j57, j58, j59, j60, j61, j62, j63, j64, j65, j66, j67, j68, j69, j70, j71, j72, j73, j74, j75, j76, j77, j78, j79, j80, j81, j82, hd, hv, hR => by
    unfold hLoop4
    apply q_loop
    match d, hd with
    | 0, hd =>
      have hi : i = n := by omega
      subst hi
      have hc : decide ((i : Int) < (i : Int)) = false := decide_eq_false (by omega)
      repeat (first
      | with_reducible apply q_seq
      | with_reducible apply q_reg
      | with_reducible apply q_draw
      | with_reducible apply q_ret
      | with_reducible apply q_skip
      | with_reducible apply q_exit
      | with_reducible apply q_block
      | with_reducible apply k_norm
      | with_reducible apply k_ret
      | with_reducible apply k_exit
      | with_reducible apply b_norm
      | with_reducible apply b_ret
      | with_reducible apply b_leave
      | ((with_reducible apply b_exit); decide)
      | with_reducible apply g_nil
      | with_reducible apply d_nil
      | ((with_reducible apply q_true); rfl)
      | ((with_reducible apply q_false); rfl)
      | ((with_reducible apply g_skip)
         · rfl
         · dsimp only [putV, List.set]; try rfl)
      | ((with_reducible apply d_skip)
         · rfl
         · dsimp only [putV, List.set]; try rfl)
      | ((with_reducible apply g_go)
         · rfl
         · first
           | ((with_reducible apply ops_add); rfl; rfl; (first | assumption | rfl); omega; omega)
           | ((with_reducible apply ops_sub); rfl; rfl; (first | assumption | rfl); omega; omega)
           | ((with_reducible apply ops_mul); rfl; rfl; (first | assumption | rfl); omega; omega)
           | ((with_reducible apply ops_quo); rfl; rfl; decide; (first | assumption | rfl); omega; omega)
           | ((with_reducible apply ops_rem); rfl; rfl; omega; (first | assumption | rfl))
           | ((with_reducible apply ops_lss); rfl; rfl; (first | assumption | rfl))
           | ((with_reducible apply ops_gtr); rfl; rfl; (first | assumption | rfl))
           | ((with_reducible apply ops_leq); rfl; rfl; (first | assumption | rfl))
           | ((with_reducible apply ops_geq); rfl; rfl; (first | assumption | rfl))
           | ((with_reducible apply ops_eql); rfl; rfl; (first | assumption | rfl))
           | ((with_reducible apply ops_neq); rfl; rfl; (first | assumption | rfl))
           | ((with_reducible apply ops_min2); rfl; (first | assumption | rfl))
           | ((with_reducible apply ops_max2); rfl; (first | assumption | rfl))
           | ((with_reducible apply ops_iaddrN); rfl; rfl; omega; rfl)
           | ((with_reducible apply ops_iaddr); rfl; rfl; omega; omega; rfl; rfl)
           | ((with_reducible apply ops_load); rfl; exact rowAt_of (by first | assumption) (Nat.zero_le _) (Nat.zero_le _); rfl; rfl)
           | ((with_reducible apply arr_loadN); rfl; (first | assumption); assumption; assumption; (first | assumption | (apply ints_get; omega) | (apply nats_get; omega)); rfl)
           | ((with_reducible apply arr_storeN); rfl; rfl; (first | assumption); assumption; assumption; (first | assumption | (apply ints_get; omega) | (apply nats_get; omega)); rfl; rfl; rfl; rfl; rfl)
           | ((apply hsl.len; rfl))
           | ((apply hsl.at_; rfl; rfl; omega))
           | (((with_reducible apply ops_conv); rfl; omega; omega))
           | ((with_reducible apply ops_struct); rfl; rfl; (first | assumption); rfl; rfl; rfl; rfl; rfl; exact Nat.le_of_ble_eq_true rfl; rfl)
           | ((with_reducible apply ops_bslice1); rfl; rfl; rfl)
           | ((with_reducible apply ops_push); rfl; rfl; (first | assumption); (first | assumption); assumption; assumption; assumption; (first | rfl | assumption); omega; rfl)
           | ((with_reducible apply ops_cutN); rfl; rfl; omega)
           | exact ops_of rfl
         · dsimp only [putV, List.set]; try rfl)
      | ((with_reducible apply d_go)
         · rfl
         · first
           | ((with_reducible apply ops_add); rfl; rfl; (first | assumption | rfl); omega; omega)
           | ((with_reducible apply ops_sub); rfl; rfl; (first | assumption | rfl); omega; omega)
           | ((with_reducible apply ops_mul); rfl; rfl; (first | assumption | rfl); omega; omega)
           | ((with_reducible apply ops_quo); rfl; rfl; decide; (first | assumption | rfl); omega; omega)
           | ((with_reducible apply ops_rem); rfl; rfl; omega; (first | assumption | rfl))
           | ((with_reducible apply ops_lss); rfl; rfl; (first | assumption | rfl))
           | ((with_reducible apply ops_gtr); rfl; rfl; (first | assumption | rfl))
           | ((with_reducible apply ops_leq); rfl; rfl; (first | assumption | rfl))
           | ((with_reducible apply ops_geq); rfl; rfl; (first | assumption | rfl))
           | ((with_reducible apply ops_eql); rfl; rfl; (first | assumption | rfl))
           | ((with_reducible apply ops_neq); rfl; rfl; (first | assumption | rfl))
           | ((with_reducible apply ops_min2); rfl; (first | assumption | rfl))
           | ((with_reducible apply ops_max2); rfl; (first | assumption | rfl))
           | ((with_reducible apply ops_iaddrN); rfl; rfl; omega; rfl)
           | ((with_reducible apply ops_iaddr); rfl; rfl; omega; omega; rfl; rfl)
           | ((with_reducible apply ops_load); rfl; exact rowAt_of (by first | assumption) (Nat.zero_le _) (Nat.zero_le _); rfl; rfl)
           | ((with_reducible apply arr_loadN); rfl; (first | assumption); assumption; assumption; (first | assumption | (apply ints_get; omega) | (apply nats_get; omega)); rfl)
           | ((with_reducible apply arr_storeN); rfl; rfl; (first | assumption); assumption; assumption; (first | assumption | (apply ints_get; omega) | (apply nats_get; omega)); rfl; rfl; rfl; rfl; rfl)
           | ((apply hsl.len; rfl))
           | ((apply hsl.at_; rfl; rfl; omega))
           | (((with_reducible apply ops_conv); rfl; omega; omega))
           | ((with_reducible apply ops_struct); rfl; rfl; (first | assumption); rfl; rfl; rfl; rfl; rfl; exact Nat.le_of_ble_eq_true rfl; rfl)
           | ((with_reducible apply ops_bslice1); rfl; rfl; rfl)
           | ((with_reducible apply ops_push); rfl; rfl; (first | assumption); (first | assumption); assumption; assumption; assumption; (first | rfl | assumption); omega; rfl)
           | ((with_reducible apply ops_cutN); rfl; rfl; omega)
           | exact ops_of rfl
         · (first | with_reducible exact free_empty | rw [allW_same] | rw [allW_set] | rw [allW_push]) <;> (repeat (first | with_reducible exact free_nil | with_reducible exact free_empty | ((with_reducible apply free_mask); rfl) | ((with_reducible apply free_ne); (focus (first | rfl | (simp [clash, meets, *]; done))))))
         · first | exact note_same | exact note_read | exact note_set | exact note_push
         · dsimp only [putV, List.set]; try rfl))
      exact hR _ _ _ _ _ _ _ _ _ _ _ _ _ _ _ _ _ _ _ _ _ _ _ _ _ _ _ _ _ _ _ _ _ _ _ _ _ _ _ _ _ _ _ _ _ _ _ _ _ _ _ _ _ _ _ _ _ _ _ _ _ _ _ _ _ _ _ _ _ _ _ _ _ _ _ _ _ _ _ _ _ _
    | d + 1, hd =>
      have hc : decide ((i : Int) < (n : Int)) = true := decide_eq_true (by omega)
      have e1 : (i : Int) + 1 = ((i + 1 : Nat) : Int) := by omega
      have hi1 : i + 1 - 1 = i := by omega
      obtain ⟨y1, hy1⟩ : ∃ y1, (if g i < 0 then 0 else g i) = y1 := ⟨_, rfl⟩
      obtain ⟨y2, hy2⟩ : ∃ y2, (if (1152921504606846976 : Int) < y1 then 1152921504606846976 else y1) = y2 := ⟨_, rfl⟩
      have hcap : capH (g i) = y2 := by unfold capH; rw [hy1, hy2]
      have hy1b : 0 ≤ y1 := by rw [← hy1]; split <;> omega
      have hy2b : 0 ≤ y2 ∧ y2 ≤ 1152921504606846976 := by rw [← hy2]; split <;> omega
      have hFi : F (i + 1) = y2 := by rw [hF, if_pos (show 1 ≤ i + 1 ∧ i + 1 ≤ n by omega), hi1, hcap]
      have hz := hv_act hv (u := i + 1) (by omega) (by omega)
      rw [hFi] at hz
      repeat (first
      | with_reducible apply q_seq
      | with_reducible apply q_reg
      | with_reducible apply q_draw
      | with_reducible apply q_ret
      | with_reducible apply q_skip
      | with_reducible apply q_exit
      | with_reducible apply q_block
      | with_reducible apply k_norm
      | with_reducible apply k_ret
      | with_reducible apply k_exit
      | with_reducible apply b_norm
      | with_reducible apply b_ret
      | with_reducible apply b_leave
      | ((with_reducible apply b_exit); decide)
      | with_reducible apply g_nil
      | with_reducible apply d_nil
      | ((with_reducible apply q_true); rfl)
      | ((with_reducible apply q_false); rfl)
      | ((with_reducible apply g_skip)
         · rfl
         · dsimp only [putV, List.set]; try rfl)
      | ((with_reducible apply d_skip)
         · rfl
         · dsimp only [putV, List.set]; try rfl)
      | ((with_reducible apply g_go)
         · rfl
         · first
           | ((with_reducible apply ops_add); rfl; rfl; (first | assumption | rfl); omega; omega)
           | ((with_reducible apply ops_sub); rfl; rfl; (first | assumption | rfl); omega; omega)
           | ((with_reducible apply ops_mul); rfl; rfl; (first | assumption | rfl); omega; omega)
           | ((with_reducible apply ops_quo); rfl; rfl; decide; (first | assumption | rfl); omega; omega)
           | ((with_reducible apply ops_rem); rfl; rfl; omega; (first | assumption | rfl))
           | ((with_reducible apply ops_lss); rfl; rfl; (first | assumption | rfl))
           | ((with_reducible apply ops_gtr); rfl; rfl; (first | assumption | rfl))
           | ((with_reducible apply ops_leq); rfl; rfl; (first | assumption | rfl))
           | ((with_reducible apply ops_geq); rfl; rfl; (first | assumption | rfl))
           | ((with_reducible apply ops_eql); rfl; rfl; (first | assumption | rfl))
           | ((with_reducible apply ops_neq); rfl; rfl; (first | assumption | rfl))
           | ((with_reducible apply ops_min2); rfl; (first | assumption | rfl))
           | ((with_reducible apply ops_max2); rfl; (first | assumption | rfl))
           | ((with_reducible apply ops_iaddrN); rfl; rfl; omega; rfl)
           | ((with_reducible apply ops_iaddr); rfl; rfl; omega; omega; rfl; rfl)
           | ((with_reducible apply ops_load); rfl; exact rowAt_of (by first | assumption) (Nat.zero_le _) (Nat.zero_le _); rfl; rfl)
           | ((with_reducible apply arr_loadN); rfl; (first | assumption); assumption; assumption; (first | assumption | (apply ints_get; omega) | (apply nats_get; omega)); rfl)
           | ((with_reducible apply arr_storeN); rfl; rfl; (first | assumption); assumption; assumption; (first | assumption | (apply ints_get; omega) | (apply nats_get; omega)); rfl; rfl; rfl; rfl; rfl)
           | ((apply hsl.len; rfl))
           | ((apply hsl.at_; rfl; rfl; omega))
           | (((with_reducible apply ops_conv); rfl; omega; omega))
           | ((with_reducible apply ops_struct); rfl; rfl; (first | assumption); rfl; rfl; rfl; rfl; rfl; exact Nat.le_of_ble_eq_true rfl; rfl)
           | ((with_reducible apply ops_bslice1); rfl; rfl; rfl)
           | ((with_reducible apply ops_push); rfl; rfl; (first | assumption); (first | assumption); assumption; assumption; assumption; (first | rfl | assumption); omega; rfl)
           | ((with_reducible apply ops_cutN); rfl; rfl; omega)
           | exact ops_of rfl
         · dsimp only [putV, List.set]; try rfl)
      | ((with_reducible apply d_go)
         · rfl
         · first
           | ((with_reducible apply ops_add); rfl; rfl; (first | assumption | rfl); omega; omega)
           | ((with_reducible apply ops_sub); rfl; rfl; (first | assumption | rfl); omega; omega)
           | ((with_reducible apply ops_mul); rfl; rfl; (first | assumption | rfl); omega; omega)
           | ((with_reducible apply ops_quo); rfl; rfl; decide; (first | assumption | rfl); omega; omega)
           | ((with_reducible apply ops_rem); rfl; rfl; omega; (first | assumption | rfl))
           | ((with_reducible apply ops_lss); rfl; rfl; (first | assumption | rfl))
           | ((with_reducible apply ops_gtr); rfl; rfl; (first | assumption | rfl))
           | ((with_reducible apply ops_leq); rfl; rfl; (first | assumption | rfl))
           | ((with_reducible apply ops_geq); rfl; rfl; (first | assumption | rfl))
           | ((with_reducible apply ops_eql); rfl; rfl; (first | assumption | rfl))
           | ((with_reducible apply ops_neq); rfl; rfl; (first | assumption | rfl))
           | ((with_reducible apply ops_min2); rfl; (first | assumption | rfl))
           | ((with_reducible apply ops_max2); rfl; (first | assumption | rfl))
           | ((with_reducible apply ops_iaddrN); rfl; rfl; omega; rfl)
           | ((with_reducible apply ops_iaddr); rfl; rfl; omega; omega; rfl; rfl)
           | ((with_reducible apply ops_load); rfl; exact rowAt_of (by first | assumption) (Nat.zero_le _) (Nat.zero_le _); rfl; rfl)
           | ((with_reducible apply arr_loadN); rfl; (first | assumption); assumption; assumption; (first | assumption | (apply ints_get; omega) | (apply nats_get; omega)); rfl)
           | ((with_reducible apply arr_storeN); rfl; rfl; (first | assumption); assumption; assumption; (first | assumption | (apply ints_get; omega) | (apply nats_get; omega)); rfl; rfl; rfl; rfl; rfl)
           | ((apply hsl.len; rfl))
           | ((apply hsl.at_; rfl; rfl; omega))
           | (((with_reducible apply ops_conv); rfl; omega; omega))
           | ((with_reducible apply ops_struct); rfl; rfl; (first | assumption); rfl; rfl; rfl; rfl; rfl; exact Nat.le_of_ble_eq_true rfl; rfl)
           | ((with_reducible apply ops_bslice1); rfl; rfl; rfl)
           | ((with_reducible apply ops_push); rfl; rfl; (first | assumption); (first | assumption); assumption; assumption; assumption; (first | rfl | assumption); omega; rfl)
           | ((with_reducible apply ops_cutN); rfl; rfl; omega)
           | exact ops_of rfl
         · (first | with_reducible exact free_empty | rw [allW_same] | rw [allW_set] | rw [allW_push]) <;> (repeat (first | with_reducible exact free_nil | with_reducible exact free_empty | ((with_reducible apply free_mask); rfl) | ((with_reducible apply free_ne); (focus (first | rfl | (simp [clash, meets, *]; done))))))
         · first | exact note_same | exact note_read | exact note_set | exact note_push
         · dsimp only [putV, List.set]; try rfl))
      refine half_loop6 (b := b) (bL := bL) (bP := bP) (bA := bA) (i := i) hsl hn2 ha _ (a % 70) 0 y2 h _ _ _ _ _ _ _ _ _ _ _ _ _ _ _ _ _ _ _ _ _ _ _ _ _ _ _ _ _ _ _ _ _ _ _ _ _ _ _ _ _ _ _ _ _ _ _ _ _ _ _ _ _ _ _ _ _ _ _ _ _ _ _ _ _ _ _ _ _ _ _ _ _ _ _ _ _ _ _ (by omega) hy2b.1 hy2b.2 ?_
      intro r' w' z k2 k3 k4 k6 k7 k8 k12 k13 k14 k15 k16 k17 k18 k19 k20 k21 k22 k23 k24 k25 k26 k27 k28 k29 k30 k31 k32 k33 k34 k35 k36 k37 k38 k39 k40 k41 k42 k43 k44 k45 k46 k47 k48 k49 k50 k51 k52 k53 k54 k55 k56 k57 k58 k59 k60 k61 k62 k63 k64 k65 k66 k67 k68 k69 k70 k71 k72 k73 k74 k75 k76 k77 k78 k79 k80 k81 k82
      have hc2 : (!decide (dn (a % 70) y2 = dn (a % 70) y2)) = false := by simp
      repeat (first
      | with_reducible apply q_seq
      | with_reducible apply q_reg
      | with_reducible apply q_draw
      | with_reducible apply q_ret
      | with_reducible apply q_skip
      | with_reducible apply q_exit
      | with_reducible apply q_block
      | with_reducible apply k_norm
      | with_reducible apply k_ret
      | with_reducible apply k_exit
      | with_reducible apply b_norm
      | with_reducible apply b_ret
      | with_reducible apply b_leave
      | ((with_reducible apply b_exit); decide)
      | with_reducible apply g_nil
      | with_reducible apply d_nil
      | ((with_reducible apply q_true); rfl)
      | ((with_reducible apply q_false); rfl)
      | ((with_reducible apply g_skip)
         · rfl
         · dsimp only [putV, List.set]; try rfl)
      | ((with_reducible apply d_skip)
         · rfl
         · dsimp only [putV, List.set]; try rfl)
      | ((with_reducible apply g_read)
         · rfl
         · rfl
         · rfl
         · exact hz
         · dsimp only [putV, List.set]; try rfl
         intro _)
      | ((with_reducible apply d_read)
         · rfl
         · rfl
         · rfl
         · exact hz
         · rfl
         · dsimp only [putV, List.set]; try rfl
         intro _ _)
      | ((with_reducible apply g_go)
         · rfl
         · first
           | ((with_reducible apply ops_add); rfl; rfl; (first | assumption | rfl); omega; omega)
           | ((with_reducible apply ops_sub); rfl; rfl; (first | assumption | rfl); omega; omega)
           | ((with_reducible apply ops_mul); rfl; rfl; (first | assumption | rfl); omega; omega)
           | ((with_reducible apply ops_quo); rfl; rfl; decide; (first | assumption | rfl); omega; omega)
           | ((with_reducible apply ops_rem); rfl; rfl; omega; (first | assumption | rfl))
           | ((with_reducible apply ops_lss); rfl; rfl; (first | assumption | rfl))
           | ((with_reducible apply ops_gtr); rfl; rfl; (first | assumption | rfl))
           | ((with_reducible apply ops_leq); rfl; rfl; (first | assumption | rfl))
           | ((with_reducible apply ops_geq); rfl; rfl; (first | assumption | rfl))
           | ((with_reducible apply ops_eql); rfl; rfl; (first | assumption | rfl))
           | ((with_reducible apply ops_neq); rfl; rfl; (first | assumption | rfl))
           | ((with_reducible apply ops_min2); rfl; (first | assumption | rfl))
           | ((with_reducible apply ops_max2); rfl; (first | assumption | rfl))
           | ((with_reducible apply ops_iaddrN); rfl; rfl; omega; rfl)
           | ((with_reducible apply ops_iaddr); rfl; rfl; omega; omega; rfl; rfl)
           | ((with_reducible apply ops_load); rfl; exact rowAt_of (by first | assumption) (Nat.zero_le _) (Nat.zero_le _); rfl; rfl)
           | ((with_reducible apply arr_loadN); rfl; (first | assumption); assumption; assumption; (first | assumption | (apply ints_get; omega) | (apply nats_get; omega)); rfl)
           | ((with_reducible apply arr_storeN); rfl; rfl; (first | assumption); assumption; assumption; (first | assumption | (apply ints_get; omega) | (apply nats_get; omega)); rfl; rfl; rfl; rfl; rfl)
           | ((apply hsl.len; rfl))
           | ((apply hsl.at_; rfl; rfl; omega))
           | (((with_reducible apply ops_conv); rfl; omega; omega))
           | ((with_reducible apply ops_struct); rfl; rfl; (first | assumption); rfl; rfl; rfl; rfl; rfl; exact Nat.le_of_ble_eq_true rfl; rfl)
           | ((with_reducible apply ops_bslice1); rfl; rfl; rfl)
           | ((with_reducible apply ops_push); rfl; rfl; (first | assumption); (first | assumption); assumption; assumption; assumption; (first | rfl | assumption); omega; rfl)
           | ((with_reducible apply ops_cutN); rfl; rfl; omega)
           | exact ops_of rfl
         · dsimp only [putV, List.set]; try rfl)
      | ((with_reducible apply d_go)
         · rfl
         · first
           | ((with_reducible apply ops_add); rfl; rfl; (first | assumption | rfl); omega; omega)
           | ((with_reducible apply ops_sub); rfl; rfl; (first | assumption | rfl); omega; omega)
           | ((with_reducible apply ops_mul); rfl; rfl; (first | assumption | rfl); omega; omega)
           | ((with_reducible apply ops_quo); rfl; rfl; decide; (first | assumption | rfl); omega; omega)
           | ((with_reducible apply ops_rem); rfl; rfl; omega; (first | assumption | rfl))
           | ((with_reducible apply ops_lss); rfl; rfl; (first | assumption | rfl))
           | ((with_reducible apply ops_gtr); rfl; rfl; (first | assumption | rfl))
           | ((with_reducible apply ops_leq); rfl; rfl; (first | assumption | rfl))
           | ((with_reducible apply ops_geq); rfl; rfl; (first | assumption | rfl))
           | ((with_reducible apply ops_eql); rfl; rfl; (first | assumption | rfl))
           | ((with_reducible apply ops_neq); rfl; rfl; (first | assumption | rfl))
           | ((with_reducible apply ops_min2); rfl; (first | assumption | rfl))
           | ((with_reducible apply ops_max2); rfl; (first | assumption | rfl))
           | ((with_reducible apply ops_iaddrN); rfl; rfl; omega; rfl)
           | ((with_reducible apply ops_iaddr); rfl; rfl; omega; omega; rfl; rfl)
           | ((with_reducible apply ops_load); rfl; exact rowAt_of (by first | assumption) (Nat.zero_le _) (Nat.zero_le _); rfl; rfl)
           | ((with_reducible apply arr_loadN); rfl; (first | assumption); assumption; assumption; (first | assumption | (apply ints_get; omega) | (apply nats_get; omega)); rfl)
           | ((with_reducible apply arr_storeN); rfl; rfl; (first | assumption); assumption; assumption; (first | assumption | (apply ints_get; omega) | (apply nats_get; omega)); rfl; rfl; rfl; rfl; rfl)
           | ((apply hsl.len; rfl))
           | ((apply hsl.at_; rfl; rfl; omega))
           | (((with_reducible apply ops_conv); rfl; omega; omega))
           | ((with_reducible apply ops_struct); rfl; rfl; (first | assumption); rfl; rfl; rfl; rfl; rfl; exact Nat.le_of_ble_eq_true rfl; rfl)
           | ((with_reducible apply ops_bslice1); rfl; rfl; rfl)
           | ((with_reducible apply ops_push); rfl; rfl; (first | assumption); (first | assumption); assumption; assumption; assumption; (first | rfl | assumption); omega; rfl)
           | ((with_reducible apply ops_cutN); rfl; rfl; omega)
           | exact ops_of rfl
         · (first | with_reducible exact free_empty | rw [allW_same] | rw [allW_set] | rw [allW_push]) <;> (repeat (first | with_reducible exact free_nil | with_reducible exact free_empty | ((with_reducible apply free_mask); rfl) | ((with_reducible apply free_ne); (focus (first | rfl | (simp [clash, meets, *]; done))))))
         · first | exact note_same | exact note_read | exact note_set | exact note_push
         · dsimp only [putV, List.set]; try rfl))
      exact half_loop4 (bL := bL) (bP := bP) (bA := bA) hsl hn2 ha hF R d (i + 1) h _ _ _ _ _ _ _ _ _ _ _ _ _ _ _ _ _ _ _ _ _ _ _ _ _ _ _ _ _ _ _ _ _ _ _ _ _ _ _ _ _ _ _ _ _ _ _ _ _ _ _ _ _ _ _ _ _ _ _ _ _ _ _ _ _ _ _ _ _ _ _ _ _ _ _ _ _ _ _ _ _ (by omega) hv hR
theorem half_law {x0 : V} {g : Nat → Int} {a n : Nat} (hsl : Sl x0 n g) (ha : a < 256) : Pures EH 6 [x0, .int .u8 (a : Nat)] (.bool true) := by
  have hw := @awake8
  apply pures_qq (by rfl) (by rfl) (by simp only [List.length_cons, List.length_nil, List.replicate, List.cons_append, List.nil_append]; try rfl)
  by_cases h40 : 40 < n
  · have c0 : decide ((40 : Int) < (n : Int)) = true := decide_eq_true (by omega)
    repeat (first
      | with_reducible apply q_seq
      | with_reducible apply q_reg
      | with_reducible apply q_draw
      | with_reducible apply q_ret
      | with_reducible apply q_skip
      | with_reducible apply q_exit
      | with_reducible apply q_block
      | with_reducible apply k_norm
      | with_reducible apply k_ret
      | with_reducible apply k_exit
      | with_reducible apply b_norm
      | with_reducible apply b_ret
      | with_reducible apply b_leave
      | ((with_reducible apply b_exit); decide)
      | with_reducible apply g_nil
      | with_reducible apply d_nil
      | ((with_reducible apply q_true); rfl)
      | ((with_reducible apply q_false); rfl)
      | ((with_reducible apply g_skip)
         · rfl
         · dsimp only [putV, List.set]; try rfl)
      | ((with_reducible apply d_skip)
         · rfl
         · dsimp only [putV, List.set]; try rfl)
      | ((with_reducible apply g_read)
         · rfl
         · rfl
         · rfl
         · exact hw
         · dsimp only [putV, List.set]; try rfl
         intro _)
      | ((with_reducible apply d_read)
         · rfl
         · rfl
         · rfl
         · exact hw
         · rfl
         · dsimp only [putV, List.set]; try rfl
         intro _ _)
      | ((with_reducible apply g_go)
         · rfl
         · first
           | ((with_reducible apply ops_add); rfl; rfl; (first | assumption | rfl); omega; omega)
           | ((with_reducible apply ops_sub); rfl; rfl; (first | assumption | rfl); omega; omega)
           | ((with_reducible apply ops_mul); rfl; rfl; (first | assumption | rfl); omega; omega)
           | ((with_reducible apply ops_quo); rfl; rfl; decide; (first | assumption | rfl); omega; omega)
           | ((with_reducible apply ops_rem); rfl; rfl; omega; (first | assumption | rfl))
           | ((with_reducible apply ops_lss); rfl; rfl; (first | assumption | rfl))
           | ((with_reducible apply ops_gtr); rfl; rfl; (first | assumption | rfl))
           | ((with_reducible apply ops_leq); rfl; rfl; (first | assumption | rfl))
           | ((with_reducible apply ops_geq); rfl; rfl; (first | assumption | rfl))
           | ((with_reducible apply ops_eql); rfl; rfl; (first | assumption | rfl))
           | ((with_reducible apply ops_neq); rfl; rfl; (first | assumption | rfl))
           | ((with_reducible apply ops_min2); rfl; (first | assumption | rfl))
           | ((with_reducible apply ops_max2); rfl; (first | assumption | rfl))
           | ((with_reducible apply ops_iaddrN); rfl; rfl; omega; rfl)
           | ((with_reducible apply ops_iaddr); rfl; rfl; omega; omega; rfl; rfl)
           | ((with_reducible apply ops_load); rfl; exact rowAt_of (by first | assumption) (Nat.zero_le _) (Nat.zero_le _); rfl; rfl)
           | ((with_reducible apply arr_loadN); rfl; (first | assumption); assumption; assumption; (first | assumption | (apply ints_get; omega) | (apply nats_get; omega)); rfl)
           | ((with_reducible apply arr_storeN); rfl; rfl; (first | assumption); assumption; assumption; (first | assumption | (apply ints_get; omega) | (apply nats_get; omega)); rfl; rfl; rfl; rfl; rfl)
           | ((apply hsl.len; rfl))
           | ((apply hsl.at_; rfl; rfl; omega))
           | (((with_reducible apply ops_conv); rfl; omega; omega))
           | ((with_reducible apply ops_struct); rfl; rfl; (first | assumption); rfl; rfl; rfl; rfl; rfl; exact Nat.le_of_ble_eq_true rfl; rfl)
           | ((with_reducible apply ops_bslice1); rfl; rfl; rfl)
           | ((with_reducible apply ops_push); rfl; rfl; (first | assumption); (first | assumption); assumption; assumption; assumption; (first | rfl | assumption); omega; rfl)
           | ((with_reducible apply ops_cutN); rfl; rfl; omega)
           | exact ops_of rfl
         · dsimp only [putV, List.set]; try rfl)
      | ((with_reducible apply d_go)
         · rfl
         · first
           | ((with_reducible apply ops_add); rfl; rfl; (first | assumption | rfl); omega; omega)
           | ((with_reducible apply ops_sub); rfl; rfl; (first | assumption | rfl); omega; omega)
           | ((with_reducible apply ops_mul); rfl; rfl; (first | assumption | rfl); omega; omega)
           | ((with_reducible apply ops_quo); rfl; rfl; decide; (first | assumption | rfl); omega; omega)
           | ((with_reducible apply ops_rem); rfl; rfl; omega; (first | assumption | rfl))
           | ((with_reducible apply ops_lss); rfl; rfl; (first | assumption | rfl))
           | ((with_reducible apply ops_gtr); rfl; rfl; (first | assumption | rfl))
           | ((with_reducible apply ops_leq); rfl; rfl; (first | assumption | rfl))
           | ((with_reducible apply ops_geq); rfl; rfl; (first | assumption | rfl))
           | ((with_reducible apply ops_eql); rfl; rfl; (first | assumption | rfl))
           | ((with_reducible apply ops_neq); rfl; rfl; (first | assumption | rfl))
           | ((with_reducible apply ops_min2); rfl; (first | assumption | rfl))
           | ((with_reducible apply ops_max2); rfl; (first | assumption | rfl))
           | ((with_reducible apply ops_iaddrN); rfl; rfl; omega; rfl)
           | ((with_reducible apply ops_iaddr); rfl; rfl; omega; omega; rfl; rfl)
           | ((with_reducible apply ops_load); rfl; exact rowAt_of (by first | assumption) (Nat.zero_le _) (Nat.zero_le _); rfl; rfl)
           | ((with_reducible apply arr_loadN); rfl; (first | assumption); assumption; assumption; (first | assumption | (apply ints_get; omega) | (apply nats_get; omega)); rfl)
           | ((with_reducible apply arr_storeN); rfl; rfl; (first | assumption); assumption; assumption; (first | assumption | (apply ints_get; omega) | (apply nats_get; omega)); rfl; rfl; rfl; rfl; rfl)
           | ((apply hsl.len; rfl))
           | ((apply hsl.at_; rfl; rfl; omega))
           | (((with_reducible apply ops_conv); rfl; omega; omega))
           | ((with_reducible apply ops_struct); rfl; rfl; (first | assumption); rfl; rfl; rfl; rfl; rfl; exact Nat.le_of_ble_eq_true rfl; rfl)
           | ((with_reducible apply ops_bslice1); rfl; rfl; rfl)
           | ((with_reducible apply ops_push); rfl; rfl; (first | assumption); (first | assumption); assumption; assumption; assumption; (first | rfl | assumption); omega; rfl)
           | ((with_reducible apply ops_cutN); rfl; rfl; omega)
           | exact ops_of rfl
         · (first | with_reducible exact free_empty | rw [allW_same] | rw [allW_set] | rw [allW_push]) <;> (repeat (first | with_reducible exact free_nil | with_reducible exact free_empty | ((with_reducible apply free_mask); rfl) | ((with_reducible apply free_ne); (focus (first | rfl | (simp [clash, meets, *]; done))))))
         · first | exact note_same | exact note_read | exact note_set | exact note_push
         · dsimp only [putV, List.set]; try rfl))
    exact ⟨.inl rfl, _, _, rfl, rfl⟩
  · have c0 : decide ((40 : Int) < (n : Int)) = false := decide_eq_false (by omega)
    have hy := hv_new (h := []) (n := n) (by omega)
    repeat (first
      | with_reducible apply q_seq
      | with_reducible apply q_reg
      | with_reducible apply q_draw
      | with_reducible apply q_ret
      | with_reducible apply q_skip
      | with_reducible apply q_exit
      | with_reducible apply q_block
      | with_reducible apply k_norm
      | with_reducible apply k_ret
      | with_reducible apply k_exit
      | with_reducible apply b_norm
      | with_reducible apply b_ret
      | with_reducible apply b_leave
      | ((with_reducible apply b_exit); decide)
      | with_reducible apply g_nil
      | with_reducible apply d_nil
      | ((with_reducible apply q_true); rfl)
      | ((with_reducible apply q_false); rfl)
      | ((with_reducible apply g_skip)
         · rfl
         · dsimp only [putV, List.set]; try rfl)
      | ((with_reducible apply d_skip)
         · rfl
         · dsimp only [putV, List.set]; try rfl)
      | ((with_reducible apply g_read)
         · rfl
         · rfl
         · rfl
         · exact hw
         · dsimp only [putV, List.set]; try rfl
         intro _)
      | ((with_reducible apply d_read)
         · rfl
         · rfl
         · rfl
         · exact hw
         · rfl
         · dsimp only [putV, List.set]; try rfl
         intro _ _)
      | ((with_reducible apply g_call)
         · rfl
         · rfl
         · rfl
         · exact hy
         · dsimp only [putV, List.set]; try rfl)
      | ((with_reducible apply g_go)
         · rfl
         · first
           | ((with_reducible apply ops_add); rfl; rfl; (first | assumption | rfl); omega; omega)
           | ((with_reducible apply ops_sub); rfl; rfl; (first | assumption | rfl); omega; omega)
           | ((with_reducible apply ops_mul); rfl; rfl; (first | assumption | rfl); omega; omega)
           | ((with_reducible apply ops_quo); rfl; rfl; decide; (first | assumption | rfl); omega; omega)
           | ((with_reducible apply ops_rem); rfl; rfl; omega; (first | assumption | rfl))
           | ((with_reducible apply ops_lss); rfl; rfl; (first | assumption | rfl))
           | ((with_reducible apply ops_gtr); rfl; rfl; (first | assumption | rfl))
           | ((with_reducible apply ops_leq); rfl; rfl; (first | assumption | rfl))
           | ((with_reducible apply ops_geq); rfl; rfl; (first | assumption | rfl))
           | ((with_reducible apply ops_eql); rfl; rfl; (first | assumption | rfl))
           | ((with_reducible apply ops_neq); rfl; rfl; (first | assumption | rfl))
           | ((with_reducible apply ops_min2); rfl; (first | assumption | rfl))
           | ((with_reducible apply ops_max2); rfl; (first | assumption | rfl))
           | ((with_reducible apply ops_iaddrN); rfl; rfl; omega; rfl)
           | ((with_reducible apply ops_iaddr); rfl; rfl; omega; omega; rfl; rfl)
           | ((with_reducible apply ops_load); rfl; exact rowAt_of (by first | assumption) (Nat.zero_le _) (Nat.zero_le _); rfl; rfl)
           | ((with_reducible apply arr_loadN); rfl; (first | assumption); assumption; assumption; (first | assumption | (apply ints_get; omega) | (apply nats_get; omega)); rfl)
           | ((with_reducible apply arr_storeN); rfl; rfl; (first | assumption); assumption; assumption; (first | assumption | (apply ints_get; omega) | (apply nats_get; omega)); rfl; rfl; rfl; rfl; rfl)
           | ((apply hsl.len; rfl))
           | ((apply hsl.at_; rfl; rfl; omega))
           | (((with_reducible apply ops_conv); rfl; omega; omega))
           | ((with_reducible apply ops_struct); rfl; rfl; (first | assumption); rfl; rfl; rfl; rfl; rfl; exact Nat.le_of_ble_eq_true rfl; rfl)
           | ((with_reducible apply ops_bslice1); rfl; rfl; rfl)
           | ((with_reducible apply ops_push); rfl; rfl; (first | assumption); (first | assumption); assumption; assumption; assumption; (first | rfl | assumption); omega; rfl)
           | ((with_reducible apply ops_cutN); rfl; rfl; omega)
           | exact ops_of rfl
         · dsimp only [putV, List.set]; try rfl)
      | ((with_reducible apply d_go)
         · rfl
         · first
           | ((with_reducible apply ops_add); rfl; rfl; (first | assumption | rfl); omega; omega)
           | ((with_reducible apply ops_sub); rfl; rfl; (first | assumption | rfl); omega; omega)
           | ((with_reducible apply ops_mul); rfl; rfl; (first | assumption | rfl); omega; omega)
           | ((with_reducible apply ops_quo); rfl; rfl; decide; (first | assumption | rfl); omega; omega)
           | ((with_reducible apply ops_rem); rfl; rfl; omega; (first | assumption | rfl))
           | ((with_reducible apply ops_lss); rfl; rfl; (first | assumption | rfl))
           | ((with_reducible apply ops_gtr); rfl; rfl; (first | assumption | rfl))
           | ((with_reducible apply ops_leq); rfl; rfl; (first | assumption | rfl))
           | ((with_reducible apply ops_geq); rfl; rfl; (first | assumption | rfl))
           | ((with_reducible apply ops_eql); rfl; rfl; (first | assumption | rfl))
           | ((with_reducible apply ops_neq); rfl; rfl; (first | assumption | rfl))
           | ((with_reducible apply ops_min2); rfl; (first | assumption | rfl))
           | ((with_reducible apply ops_max2); rfl; (first | assumption | rfl))
           | ((with_reducible apply ops_iaddrN); rfl; rfl; omega; rfl)
           | ((with_reducible apply ops_iaddr); rfl; rfl; omega; omega; rfl; rfl)
           | ((with_reducible apply ops_load); rfl; exact rowAt_of (by first | assumption) (Nat.zero_le _) (Nat.zero_le _); rfl; rfl)
           | ((with_reducible apply arr_loadN); rfl; (first | assumption); assumption; assumption; (first | assumption | (apply ints_get; omega) | (apply nats_get; omega)); rfl)
           | ((with_reducible apply arr_storeN); rfl; rfl; (first | assumption); assumption; assumption; (first | assumption | (apply ints_get; omega) | (apply nats_get; omega)); rfl; rfl; rfl; rfl; rfl)
           | ((apply hsl.len; rfl))
           | ((apply hsl.at_; rfl; rfl; omega))
           | (((with_reducible apply ops_conv); rfl; omega; omega))
           | ((with_reducible apply ops_struct); rfl; rfl; (first | assumption); rfl; rfl; rfl; rfl; rfl; exact Nat.le_of_ble_eq_true rfl; rfl)
           | ((with_reducible apply ops_bslice1); rfl; rfl; rfl)
           | ((with_reducible apply ops_push); rfl; rfl; (first | assumption); (first | assumption); assumption; assumption; assumption; (first | rfl | assumption); omega; rfl)
           | ((with_reducible apply ops_cutN); rfl; rfl; omega)
           | exact ops_of rfl
         · (first | with_reducible exact free_empty | rw [allW_same] | rw [allW_set] | rw [allW_push]) <;> (repeat (first | with_reducible exact free_nil | with_reducible exact free_empty | ((with_reducible apply free_mask); rfl) | ((with_reducible apply free_ne); (focus (first | rfl | (simp [clash, meets, *]; done))))))
         · first | exact note_same | exact note_read | exact note_set | exact note_push
         · dsimp only [putV, List.set]; try rfl))
    intro r1 w1 h1 hD
    obtain ⟨bL, d1, d2, d3⟩ := hD
    repeat (first
      | with_reducible apply q_seq
      | with_reducible apply q_reg
      | with_reducible apply q_draw
      | with_reducible apply q_ret
      | with_reducible apply q_skip
      | with_reducible apply q_exit
      | with_reducible apply q_block
      | with_reducible apply k_norm
      | with_reducible apply k_ret
      | with_reducible apply k_exit
      | with_reducible apply b_norm
      | with_reducible apply b_ret
      | with_reducible apply b_leave
      | ((with_reducible apply b_exit); decide)
      | with_reducible apply g_nil
      | with_reducible apply d_nil
      | ((with_reducible apply q_true); rfl)
      | ((with_reducible apply q_false); rfl)
      | ((with_reducible apply g_skip)
         · rfl
         · dsimp only [putV, List.set]; try rfl)
      | ((with_reducible apply d_skip)
         · rfl
         · dsimp only [putV, List.set]; try rfl)
      | ((with_reducible apply g_go)
         · rfl
         · first
           | ((with_reducible apply ops_add); rfl; rfl; (first | assumption | rfl); omega; omega)
           | ((with_reducible apply ops_sub); rfl; rfl; (first | assumption | rfl); omega; omega)
           | ((with_reducible apply ops_mul); rfl; rfl; (first | assumption | rfl); omega; omega)
           | ((with_reducible apply ops_quo); rfl; rfl; decide; (first | assumption | rfl); omega; omega)
           | ((with_reducible apply ops_rem); rfl; rfl; omega; (first | assumption | rfl))
           | ((with_reducible apply ops_lss); rfl; rfl; (first | assumption | rfl))
           | ((with_reducible apply ops_gtr); rfl; rfl; (first | assumption | rfl))
           | ((with_reducible apply ops_leq); rfl; rfl; (first | assumption | rfl))
           | ((with_reducible apply ops_geq); rfl; rfl; (first | assumption | rfl))
           | ((with_reducible apply ops_eql); rfl; rfl; (first | assumption | rfl))
           | ((with_reducible apply ops_neq); rfl; rfl; (first | assumption | rfl))
           | ((with_reducible apply ops_min2); rfl; (first | assumption | rfl))
           | ((with_reducible apply ops_max2); rfl; (first | assumption | rfl))
           | ((with_reducible apply ops_iaddrN); rfl; rfl; omega; rfl)
           | ((with_reducible apply ops_iaddr); rfl; rfl; omega; omega; rfl; rfl)
           | ((with_reducible apply ops_load); rfl; exact rowAt_of (by first | assumption) (Nat.zero_le _) (Nat.zero_le _); rfl; rfl)
           | ((with_reducible apply arr_loadN); rfl; (first | assumption); assumption; assumption; (first | assumption | (apply ints_get; omega) | (apply nats_get; omega)); rfl)
           | ((with_reducible apply arr_storeN); rfl; rfl; (first | assumption); assumption; assumption; (first | assumption | (apply ints_get; omega) | (apply nats_get; omega)); rfl; rfl; rfl; rfl; rfl)
           | ((apply hsl.len; rfl))
           | ((apply hsl.at_; rfl; rfl; omega))
           | (((with_reducible apply ops_conv); rfl; omega; omega))
           | ((with_reducible apply ops_struct); rfl; rfl; (first | assumption); rfl; rfl; rfl; rfl; rfl; exact Nat.le_of_ble_eq_true rfl; rfl)
           | ((with_reducible apply ops_bslice1); rfl; rfl; rfl)
           | ((with_reducible apply ops_push); rfl; rfl; (first | assumption); (first | assumption); assumption; assumption; assumption; (first | rfl | assumption); omega; rfl)
           | ((with_reducible apply ops_cutN); rfl; rfl; omega)
           | exact ops_of rfl
         · dsimp only [putV, List.set]; try rfl)
      | ((with_reducible apply d_go)
         · rfl
         · first
           | ((with_reducible apply ops_add); rfl; rfl; (first | assumption | rfl); omega; omega)
           | ((with_reducible apply ops_sub); rfl; rfl; (first | assumption | rfl); omega; omega)
           | ((with_reducible apply ops_mul); rfl; rfl; (first | assumption | rfl); omega; omega)
           | ((with_reducible apply ops_quo); rfl; rfl; decide; (first | assumption | rfl); omega; omega)
           | ((with_reducible apply ops_rem); rfl; rfl; omega; (first | assumption | rfl))
           | ((with_reducible apply ops_lss); rfl; rfl; (first | assumption | rfl))
           | ((with_reducible apply ops_gtr); rfl; rfl; (first | assumption | rfl))
           | ((with_reducible apply ops_leq); rfl; rfl; (first | assumption | rfl))
           | ((with_reducible apply ops_geq); rfl; rfl; (first | assumption | rfl))
           | ((with_reducible apply ops_eql); rfl; rfl; (first | assumption | rfl))
           | ((with_reducible apply ops_neq); rfl; rfl; (first | assumption | rfl))
           | ((with_reducible apply ops_min2); rfl; (first | assumption | rfl))
           | ((with_reducible apply ops_max2); rfl; (first | assumption | rfl))
           | ((with_reducible apply ops_iaddrN); rfl; rfl; omega; rfl)
           | ((with_reducible apply ops_iaddr); rfl; rfl; omega; omega; rfl; rfl)
           | ((with_reducible apply ops_load); rfl; exact rowAt_of (by first | assumption) (Nat.zero_le _) (Nat.zero_le _); rfl; rfl)
           | ((with_reducible apply arr_loadN); rfl; (first | assumption); assumption; assumption; (first | assumption | (apply ints_get; omega) | (apply nats_get; omega)); rfl)
           | ((with_reducible apply arr_storeN); rfl; rfl; (first | assumption); assumption; assumption; (first | assumption | (apply ints_get; omega) | (apply nats_get; omega)); rfl; rfl; rfl; rfl; rfl)
           | ((apply hsl.len; rfl))
           | ((apply hsl.at_; rfl; rfl; omega))
           | (((with_reducible apply ops_conv); rfl; omega; omega))
           | ((with_reducible apply ops_struct); rfl; rfl; (first | assumption); rfl; rfl; rfl; rfl; rfl; exact Nat.le_of_ble_eq_true rfl; rfl)
           | ((with_reducible apply ops_bslice1); rfl; rfl; rfl)
           | ((with_reducible apply ops_push); rfl; rfl; (first | assumption); (first | assumption); assumption; assumption; assumption; (first | rfl | assumption); omega; rfl)
           | ((with_reducible apply ops_cutN); rfl; rfl; omega)
           | exact ops_of rfl
         · (first | with_reducible exact free_empty | rw [allW_same] | rw [allW_set] | rw [allW_push]) <;> (repeat (first | with_reducible exact free_nil | with_reducible exact free_empty | ((with_reducible apply free_mask); rfl) | ((with_reducible apply free_ne); (focus (first | rfl | (simp [clash, meets, *]; done))))))
         · first | exact note_same | exact note_read | exact note_set | exact note_push
         · dsimp only [putV, List.set]; try rfl))
    refine half_loop0 (bL := bL) hsl (by omega) ha _ n 0 _ h1 _ _ _ _ _ _ _ _ _ _ _ _ _ _ _ _ _ _ _ _ _ _ _ _ _ _ _ _ _ _ _ _ _ _ _ _ _ _ _ _ _ _ _ _ _ _ _ _ _ _ _ _ _ _ _ _ _ _ _ _ _ _ _ _ _ _ _ _ _ _ _ _ _ _ _ _ _ _ _ _ _ (by omega) d1 (fun u => by rw [if_neg (by omega)]) ?_
    intro F h2 r2 w2 k2 k3 k4 k6 k8 k9 k10 k11 k12 k13 k14 k15 k16 k17 k18 k19 k20 k21 k22 k23 k24 k25 k26 k27 k28 k29 k30 k31 k32 k33 k34 k35 k36 k37 k38 k39 k40 k41 k42 k43 k44 k45 k46 k47 k48 k49 k50 k51 k52 k53 k54 k55 k56 k57 k58 k59 k60 k61 k62 k63 k64 k65 k66 k67 k68 k69 k70 k71 k72 k73 k74 k75 k76 k77 k78 k79 k80 k81 k82 a1 a2
    repeat (first
      | with_reducible apply q_seq
      | with_reducible apply q_reg
      | with_reducible apply q_draw
      | with_reducible apply q_ret
      | with_reducible apply q_skip
      | with_reducible apply q_exit
      | with_reducible apply q_block
      | with_reducible apply k_norm
      | with_reducible apply k_ret
      | with_reducible apply k_exit
      | with_reducible apply b_norm
      | with_reducible apply b_ret
      | with_reducible apply b_leave
      | ((with_reducible apply b_exit); decide)
      | with_reducible apply g_nil
      | with_reducible apply d_nil
      | ((with_reducible apply q_true); rfl)
      | ((with_reducible apply q_false); rfl)
      | ((with_reducible apply g_skip)
         · rfl
         · dsimp only [putV, List.set]; try rfl)
      | ((with_reducible apply d_skip)
         · rfl
         · dsimp only [putV, List.set]; try rfl)
      | ((with_reducible apply g_go)
         · rfl
         · first
           | ((with_reducible apply ops_add); rfl; rfl; (first | assumption | rfl); omega; omega)
           | ((with_reducible apply ops_sub); rfl; rfl; (first | assumption | rfl); omega; omega)
           | ((with_reducible apply ops_mul); rfl; rfl; (first | assumption | rfl); omega; omega)
           | ((with_reducible apply ops_quo); rfl; rfl; decide; (first | assumption | rfl); omega; omega)
           | ((with_reducible apply ops_rem); rfl; rfl; omega; (first | assumption | rfl))
           | ((with_reducible apply ops_lss); rfl; rfl; (first | assumption | rfl))
           | ((with_reducible apply ops_gtr); rfl; rfl; (first | assumption | rfl))
           | ((with_reducible apply ops_leq); rfl; rfl; (first | assumption | rfl))
           | ((with_reducible apply ops_geq); rfl; rfl; (first | assumption | rfl))
           | ((with_reducible apply ops_eql); rfl; rfl; (first | assumption | rfl))
           | ((with_reducible apply ops_neq); rfl; rfl; (first | assumption | rfl))
           | ((with_reducible apply ops_min2); rfl; (first | assumption | rfl))
           | ((with_reducible apply ops_max2); rfl; (first | assumption | rfl))
           | ((with_reducible apply ops_iaddrN); rfl; rfl; omega; rfl)
           | ((with_reducible apply ops_iaddr); rfl; rfl; omega; omega; rfl; rfl)
           | ((with_reducible apply ops_load); rfl; exact rowAt_of (by first | assumption) (Nat.zero_le _) (Nat.zero_le _); rfl; rfl)
           | ((with_reducible apply arr_loadN); rfl; (first | assumption); assumption; assumption; (first | assumption | (apply ints_get; omega) | (apply nats_get; omega)); rfl)
           | ((with_reducible apply arr_storeN); rfl; rfl; (first | assumption); assumption; assumption; (first | assumption | (apply ints_get; omega) | (apply nats_get; omega)); rfl; rfl; rfl; rfl; rfl)
           | ((apply hsl.len; rfl))
           | ((apply hsl.at_; rfl; rfl; omega))
           | (((with_reducible apply ops_conv); rfl; omega; omega))
           | ((with_reducible apply ops_struct); rfl; rfl; (first | assumption); rfl; rfl; rfl; rfl; rfl; exact Nat.le_of_ble_eq_true rfl; rfl)
           | ((with_reducible apply ops_bslice1); rfl; rfl; rfl)
           | ((with_reducible apply ops_push); rfl; rfl; (first | assumption); (first | assumption); assumption; assumption; assumption; (first | rfl | assumption); omega; rfl)
           | ((with_reducible apply ops_cutN); rfl; rfl; omega)
           | exact ops_of rfl
         · dsimp only [putV, List.set]; try rfl)
      | ((with_reducible apply d_go)
         · rfl
         · first
           | ((with_reducible apply ops_add); rfl; rfl; (first | assumption | rfl); omega; omega)
           | ((with_reducible apply ops_sub); rfl; rfl; (first | assumption | rfl); omega; omega)
           | ((with_reducible apply ops_mul); rfl; rfl; (first | assumption | rfl); omega; omega)
           | ((with_reducible apply ops_quo); rfl; rfl; decide; (first | assumption | rfl); omega; omega)
           | ((with_reducible apply ops_rem); rfl; rfl; omega; (first | assumption | rfl))
           | ((with_reducible apply ops_lss); rfl; rfl; (first | assumption | rfl))
           | ((with_reducible apply ops_gtr); rfl; rfl; (first | assumption | rfl))
           | ((with_reducible apply ops_leq); rfl; rfl; (first | assumption | rfl))
           | ((with_reducible apply ops_geq); rfl; rfl; (first | assumption | rfl))
           | ((with_reducible apply ops_eql); rfl; rfl; (first | assumption | rfl))
           | ((with_reducible apply ops_neq); rfl; rfl; (first | assumption | rfl))
           | ((with_reducible apply ops_min2); rfl; (first | assumption | rfl))
           | ((with_reducible apply ops_max2); rfl; (first | assumption | rfl))
           | ((with_reducible apply ops_iaddrN); rfl; rfl; omega; rfl)
           | ((with_reducible apply ops_iaddr); rfl; rfl; omega; omega; rfl; rfl)
           | ((with_reducible apply ops_load); rfl; exact rowAt_of (by first | assumption) (Nat.zero_le _) (Nat.zero_le _); rfl; rfl)
           | ((with_reducible apply arr_loadN); rfl; (first | assumption); assumption; assumption; (first | assumption | (apply ints_get; omega) | (apply nats_get; omega)); rfl)
           | ((with_reducible apply arr_storeN); rfl; rfl; (first | assumption); assumption; assumption; (first | assumption | (apply ints_get; omega) | (apply nats_get; omega)); rfl; rfl; rfl; rfl; rfl)
           | ((apply hsl.len; rfl))
           | ((apply hsl.at_; rfl; rfl; omega))
           | (((with_reducible apply ops_conv); rfl; omega; omega))
           | ((with_reducible apply ops_struct); rfl; rfl; (first | assumption); rfl; rfl; rfl; rfl; rfl; exact Nat.le_of_ble_eq_true rfl; rfl)
           | ((with_reducible apply ops_bslice1); rfl; rfl; rfl)
           | ((with_reducible apply ops_push); rfl; rfl; (first | assumption); (first | assumption); assumption; assumption; assumption; (first | rfl | assumption); omega; rfl)
           | ((with_reducible apply ops_cutN); rfl; rfl; omega)
           | exact ops_of rfl
         · (first | with_reducible exact free_empty | rw [allW_same] | rw [allW_set] | rw [allW_push]) <;> (repeat (first | with_reducible exact free_nil | with_reducible exact free_empty | ((with_reducible apply free_mask); rfl) | ((with_reducible apply free_ne); (focus (first | rfl | (simp [clash, meets, *]; done))))))
         · first | exact note_same | exact note_read | exact note_set | exact note_push
         · dsimp only [putV, List.set]; try rfl))
    refine half_loop2 (bL := bL) hsl (by omega) ha _ (a % 70) 0 F h2 _ _ _ _ _ _ _ _ _ _ _ _ _ _ _ _ _ _ _ _ _ _ _ _ _ _ _ _ _ _ _ _ _ _ _ _ _ _ _ _ _ _ _ _ _ _ _ _ _ _ _ _ _ _ _ _ _ _ _ _ _ _ _ _ _ _ _ _ _ _ _ _ _ _ _ _ _ _ _ _ _ (by omega) a1 ?_
    intro h3 r3 w3 z k2 k3 k4 k6 k7 k9 k10 k11 k12 k13 k14 k15 k16 k17 k18 k19 k20 k21 k22 k23 k24 k25 k26 k27 k28 k29 k30 k31 k32 k33 k34 k35 k36 k37 k38 k39 k40 k41 k42 k43 k44 k45 k46 k47 k48 k49 k50 k51 k52 k53 k54 k55 k56 k57 k58 k59 k60 k61 k62 k63 k64 k65 k66 k67 k68 k69 k70 k71 k72 k73 k74 k75 k76 k77 k78 k79 k80 k81 k82 b1
    repeat (first
      | with_reducible apply q_seq
      | with_reducible apply q_reg
      | with_reducible apply q_draw
      | with_reducible apply q_ret
      | with_reducible apply q_skip
      | with_reducible apply q_exit
      | with_reducible apply q_block
      | with_reducible apply k_norm
      | with_reducible apply k_ret
      | with_reducible apply k_exit
      | with_reducible apply b_norm
      | with_reducible apply b_ret
      | with_reducible apply b_leave
      | ((with_reducible apply b_exit); decide)
      | with_reducible apply g_nil
      | with_reducible apply d_nil
      | ((with_reducible apply q_true); rfl)
      | ((with_reducible apply q_false); rfl)
      | ((with_reducible apply g_skip)
         · rfl
         · dsimp only [putV, List.set]; try rfl)
      | ((with_reducible apply d_skip)
         · rfl
         · dsimp only [putV, List.set]; try rfl)
      | ((with_reducible apply g_go)
         · rfl
         · first
           | ((with_reducible apply ops_add); rfl; rfl; (first | assumption | rfl); omega; omega)
           | ((with_reducible apply ops_sub); rfl; rfl; (first | assumption | rfl); omega; omega)
           | ((with_reducible apply ops_mul); rfl; rfl; (first | assumption | rfl); omega; omega)
           | ((with_reducible apply ops_quo); rfl; rfl; decide; (first | assumption | rfl); omega; omega)
           | ((with_reducible apply ops_rem); rfl; rfl; omega; (first | assumption | rfl))
           | ((with_reducible apply ops_lss); rfl; rfl; (first | assumption | rfl))
           | ((with_reducible apply ops_gtr); rfl; rfl; (first | assumption | rfl))
           | ((with_reducible apply ops_leq); rfl; rfl; (first | assumption | rfl))
           | ((with_reducible apply ops_geq); rfl; rfl; (first | assumption | rfl))
           | ((with_reducible apply ops_eql); rfl; rfl; (first | assumption | rfl))
           | ((with_reducible apply ops_neq); rfl; rfl; (first | assumption | rfl))
           | ((with_reducible apply ops_min2); rfl; (first | assumption | rfl))
           | ((with_reducible apply ops_max2); rfl; (first | assumption | rfl))
           | ((with_reducible apply ops_iaddrN); rfl; rfl; omega; rfl)
           | ((with_reducible apply ops_iaddr); rfl; rfl; omega; omega; rfl; rfl)
           | ((with_reducible apply ops_load); rfl; exact rowAt_of (by first | assumption) (Nat.zero_le _) (Nat.zero_le _); rfl; rfl)
           | ((with_reducible apply arr_loadN); rfl; (first | assumption); assumption; assumption; (first | assumption | (apply ints_get; omega) | (apply nats_get; omega)); rfl)
           | ((with_reducible apply arr_storeN); rfl; rfl; (first | assumption); assumption; assumption; (first | assumption | (apply ints_get; omega) | (apply nats_get; omega)); rfl; rfl; rfl; rfl; rfl)
           | ((apply hsl.len; rfl))
           | ((apply hsl.at_; rfl; rfl; omega))
           | (((with_reducible apply ops_conv); rfl; omega; omega))
           | ((with_reducible apply ops_struct); rfl; rfl; (first | assumption); rfl; rfl; rfl; rfl; rfl; exact Nat.le_of_ble_eq_true rfl; rfl)
           | ((with_reducible apply ops_bslice1); rfl; rfl; rfl)
           | ((with_reducible apply ops_push); rfl; rfl; (first | assumption); (first | assumption); assumption; assumption; assumption; (first | rfl | assumption); omega; rfl)
           | ((with_reducible apply ops_cutN); rfl; rfl; omega)
           | exact ops_of rfl
         · dsimp only [putV, List.set]; try rfl)
      | ((with_reducible apply d_go)
         · rfl
         · first
           | ((with_reducible apply ops_add); rfl; rfl; (first | assumption | rfl); omega; omega)
           | ((with_reducible apply ops_sub); rfl; rfl; (first | assumption | rfl); omega; omega)
           | ((with_reducible apply ops_mul); rfl; rfl; (first | assumption | rfl); omega; omega)
           | ((with_reducible apply ops_quo); rfl; rfl; decide; (first | assumption | rfl); omega; omega)
           | ((with_reducible apply ops_rem); rfl; rfl; omega; (first | assumption | rfl))
           | ((with_reducible apply ops_lss); rfl; rfl; (first | assumption | rfl))
           | ((with_reducible apply ops_gtr); rfl; rfl; (first | assumption | rfl))
           | ((with_reducible apply ops_leq); rfl; rfl; (first | assumption | rfl))
           | ((with_reducible apply ops_geq); rfl; rfl; (first | assumption | rfl))
           | ((with_reducible apply ops_eql); rfl; rfl; (first | assumption | rfl))
           | ((with_reducible apply ops_neq); rfl; rfl; (first | assumption | rfl))
           | ((with_reducible apply ops_min2); rfl; (first | assumption | rfl))
           | ((with_reducible apply ops_max2); rfl; (first | assumption | rfl))
           | ((with_reducible apply ops_iaddrN); rfl; rfl; omega; rfl)
           | ((with_reducible apply ops_iaddr); rfl; rfl; omega; omega; rfl; rfl)
           | ((with_reducible apply ops_load); rfl; exact rowAt_of (by first | assumption) (Nat.zero_le _) (Nat.zero_le _); rfl; rfl)
           | ((with_reducible apply arr_loadN); rfl; (first | assumption); assumption; assumption; (first | assumption | (apply ints_get; omega) | (apply nats_get; omega)); rfl)
           | ((with_reducible apply arr_storeN); rfl; rfl; (first | assumption); assumption; assumption; (first | assumption | (apply ints_get; omega) | (apply nats_get; omega)); rfl; rfl; rfl; rfl; rfl)
           | ((apply hsl.len; rfl))
           | ((apply hsl.at_; rfl; rfl; omega))
           | (((with_reducible apply ops_conv); rfl; omega; omega))
           | ((with_reducible apply ops_struct); rfl; rfl; (first | assumption); rfl; rfl; rfl; rfl; rfl; exact Nat.le_of_ble_eq_true rfl; rfl)
           | ((with_reducible apply ops_bslice1); rfl; rfl; rfl)
           | ((with_reducible apply ops_push); rfl; rfl; (first | assumption); (first | assumption); assumption; assumption; assumption; (first | rfl | assumption); omega; rfl)
           | ((with_reducible apply ops_cutN); rfl; rfl; omega)
           | exact ops_of rfl
         · (first | with_reducible exact free_empty | rw [allW_same] | rw [allW_set] | rw [allW_push]) <;> (repeat (first | with_reducible exact free_nil | with_reducible exact free_empty | ((with_reducible apply free_mask); rfl) | ((with_reducible apply free_ne); (focus (first | rfl | (simp [clash, meets, *]; done))))))
         · first | exact note_same | exact note_read | exact note_set | exact note_push
         · dsimp only [putV, List.set]; try rfl))
    refine half_loop4 (bL := bL) hsl (by omega) ha a2 _ n 0 h3 _ _ _ _ _ _ _ _ _ _ _ _ _ _ _ _ _ _ _ _ _ _ _ _ _ _ _ _ _ _ _ _ _ _ _ _ _ _ _ _ _ _ _ _ _ _ _ _ _ _ _ _ _ _ _ _ _ _ _ _ _ _ _ _ _ _ _ _ _ _ _ _ _ _ _ _ _ _ _ _ _ (by omega) b1 ?_
    intro r4 w4 z k2 k3 k4 k6 k7 k8 k10 k11 k12 k13 k14 k15 k16 k17 k18 k19 k20 k21 k22 k23 k24 k25 k26 k27 k28 k29 k30 k31 k32 k33 k34 k35 k36 k37 k38 k39 k40 k41 k42 k43 k44 k45 k46 k47 k48 k49 k50 k51 k52 k53 k54 k55 k56 k57 k58 k59 k60 k61 k62 k63 k64 k65 k66 k67 k68 k69 k70 k71 k72 k73 k74 k75 k76 k77 k78 k79 k80 k81 k82
    have hz := hv_len b1
    have c2 : decide ((n : Int) = (n : Int)) = true := decide_eq_true rfl
    repeat (first
      | with_reducible apply q_seq
      | with_reducible apply q_reg
      | with_reducible apply q_draw
      | with_reducible apply q_ret
      | with_reducible apply q_skip
      | with_reducible apply q_exit
      | with_reducible apply q_block
      | with_reducible apply k_norm
      | with_reducible apply k_ret
      | with_reducible apply k_exit
      | with_reducible apply b_norm
      | with_reducible apply b_ret
      | with_reducible apply b_leave
      | ((with_reducible apply b_exit); decide)
      | with_reducible apply g_nil
      | with_reducible apply d_nil
      | ((with_reducible apply q_true); rfl)
      | ((with_reducible apply q_false); rfl)
      | ((with_reducible apply g_skip)
         · rfl
         · dsimp only [putV, List.set]; try rfl)
      | ((with_reducible apply d_skip)
         · rfl
         · dsimp only [putV, List.set]; try rfl)
      | ((with_reducible apply g_read)
         · rfl
         · rfl
         · rfl
         · exact hz
         · dsimp only [putV, List.set]; try rfl
         intro _)
      | ((with_reducible apply d_read)
         · rfl
         · rfl
         · rfl
         · exact hz
         · rfl
         · dsimp only [putV, List.set]; try rfl
         intro _ _)
      | ((with_reducible apply g_go)
         · rfl
         · first
           | ((with_reducible apply ops_add); rfl; rfl; (first | assumption | rfl); omega; omega)
           | ((with_reducible apply ops_sub); rfl; rfl; (first | assumption | rfl); omega; omega)
           | ((with_reducible apply ops_mul); rfl; rfl; (first | assumption | rfl); omega; omega)
           | ((with_reducible apply ops_quo); rfl; rfl; decide; (first | assumption | rfl); omega; omega)
           | ((with_reducible apply ops_rem); rfl; rfl; omega; (first | assumption | rfl))
           | ((with_reducible apply ops_lss); rfl; rfl; (first | assumption | rfl))
           | ((with_reducible apply ops_gtr); rfl; rfl; (first | assumption | rfl))
           | ((with_reducible apply ops_leq); rfl; rfl; (first | assumption | rfl))
           | ((with_reducible apply ops_geq); rfl; rfl; (first | assumption | rfl))
           | ((with_reducible apply ops_eql); rfl; rfl; (first | assumption | rfl))
           | ((with_reducible apply ops_neq); rfl; rfl; (first | assumption | rfl))
           | ((with_reducible apply ops_min2); rfl; (first | assumption | rfl))
           | ((with_reducible apply ops_max2); rfl; (first | assumption | rfl))
           | ((with_reducible apply ops_iaddrN); rfl; rfl; omega; rfl)
           | ((with_reducible apply ops_iaddr); rfl; rfl; omega; omega; rfl; rfl)
           | ((with_reducible apply ops_load); rfl; exact rowAt_of (by first | assumption) (Nat.zero_le _) (Nat.zero_le _); rfl; rfl)
           | ((with_reducible apply arr_loadN); rfl; (first | assumption); assumption; assumption; (first | assumption | (apply ints_get; omega) | (apply nats_get; omega)); rfl)
           | ((with_reducible apply arr_storeN); rfl; rfl; (first | assumption); assumption; assumption; (first | assumption | (apply ints_get; omega) | (apply nats_get; omega)); rfl; rfl; rfl; rfl; rfl)
           | ((apply hsl.len; rfl))
           | ((apply hsl.at_; rfl; rfl; omega))
           | (((with_reducible apply ops_conv); rfl; omega; omega))
           | ((with_reducible apply ops_struct); rfl; rfl; (first | assumption); rfl; rfl; rfl; rfl; rfl; exact Nat.le_of_ble_eq_true rfl; rfl)
           | ((with_reducible apply ops_bslice1); rfl; rfl; rfl)
           | ((with_reducible apply ops_push); rfl; rfl; (first | assumption); (first | assumption); assumption; assumption; assumption; (first | rfl | assumption); omega; rfl)
           | ((with_reducible apply ops_cutN); rfl; rfl; omega)
           | exact ops_of rfl
         · dsimp only [putV, List.set]; try rfl)
      | ((with_reducible apply d_go)
         · rfl
         · first
           | ((with_reducible apply ops_add); rfl; rfl; (first | assumption | rfl); omega; omega)
           | ((with_reducible apply ops_sub); rfl; rfl; (first | assumption | rfl); omega; omega)
           | ((with_reducible apply ops_mul); rfl; rfl; (first | assumption | rfl); omega; omega)
           | ((with_reducible apply ops_quo); rfl; rfl; decide; (first | assumption | rfl); omega; omega)
           | ((with_reducible apply ops_rem); rfl; rfl; omega; (first | assumption | rfl))
           | ((with_reducible apply ops_lss); rfl; rfl; (first | assumption | rfl))
           | ((with_reducible apply ops_gtr); rfl; rfl; (first | assumption | rfl))
           | ((with_reducible apply ops_leq); rfl; rfl; (first | assumption | rfl))
           | ((with_reducible apply ops_geq); rfl; rfl; (first | assumption | rfl))
           | ((with_reducible apply ops_eql); rfl; rfl; (first | assumption | rfl))
           | ((with_reducible apply ops_neq); rfl; rfl; (first | assumption | rfl))
           | ((with_reducible apply ops_min2); rfl; (first | assumption | rfl))
           | ((with_reducible apply ops_max2); rfl; (first | assumption | rfl))
           | ((with_reducible apply ops_iaddrN); rfl; rfl; omega; rfl)
           | ((with_reducible apply ops_iaddr); rfl; rfl; omega; omega; rfl; rfl)
           | ((with_reducible apply ops_load); rfl; exact rowAt_of (by first | assumption) (Nat.zero_le _) (Nat.zero_le _); rfl; rfl)
           | ((with_reducible apply arr_loadN); rfl; (first | assumption); assumption; assumption; (first | assumption | (apply ints_get; omega) | (apply nats_get; omega)); rfl)
           | ((with_reducible apply arr_storeN); rfl; rfl; (first | assumption); assumption; assumption; (first | assumption | (apply ints_get; omega) | (apply nats_get; omega)); rfl; rfl; rfl; rfl; rfl)
           | ((apply hsl.len; rfl))
           | ((apply hsl.at_; rfl; rfl; omega))
           | (((with_reducible apply ops_conv); rfl; omega; omega))
           | ((with_reducible apply ops_struct); rfl; rfl; (first | assumption); rfl; rfl; rfl; rfl; rfl; exact Nat.le_of_ble_eq_true rfl; rfl)
           | ((with_reducible apply ops_bslice1); rfl; rfl; rfl)
           | ((with_reducible apply ops_push); rfl; rfl; (first | assumption); (first | assumption); assumption; assumption; assumption; (first | rfl | assumption); omega; rfl)
           | ((with_reducible apply ops_cutN); rfl; rfl; omega)
           | exact ops_of rfl
         · (first | with_reducible exact free_empty | rw [allW_same] | rw [allW_set] | rw [allW_push]) <;> (repeat (first | with_reducible exact free_nil | with_reducible exact free_empty | ((with_reducible apply free_mask); rfl) | ((with_reducible apply free_ne); (focus (first | rfl | (simp [clash, meets, *]; done))))))
         · first | exact note_same | exact note_read | exact note_set | exact note_push
         · dsimp only [putV, List.set]; try rfl))
    exact ⟨.inl rfl, _, _, rfl, rfl⟩
end Go.Proofs.Ytmmipfmdkoaekaa.Code
