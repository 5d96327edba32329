/- A part of the proof: HeapL5. No condition. -/
import Derived.Test.YtmmipfmdkoaekaaHeapSl
import Derived.Test.YtmmipfmdkoaekaaHeapD
set_option linter.all false
set_option maxRecDepth 100000
namespace Go.Proofs.Ytmmipfmdkoaekaa.Code
open Go.Mini Go.HeapMath Go.HeapRun
set_option linter.all false
set_option maxHeartbeats 4000000
def Seq (F : Nat → Int) (n : Nat) (vs : List Nat) : Prop := ∀ j, j < vs.length → 1 ≤ gN vs j ∧ gN vs j ≤ n ∧ (∀ i, i < j → gN vs i ≠ gN vs j) ∧ ∀ u, 1 ≤ u → u ≤ n → (∀ i, i < j → gN vs i ≠ u) → ¬ Ah F u (gN vs j)
/-- those that are not among the first k -/
def Lack (n : Nat) (S : Nat → Bool) (vs : List Nat) (k : Nat) : Prop := ∀ u, 1 ≤ u → u ≤ n → (S u = true ↔ ∀ i, i < k → gN vs i ≠ u)
def OutIn (h : H) (ov : V) (vs : List Nat) (bs : List Nat) : Prop := (ov = .nils ∧ vs = []) ∨ ∃ bO, bO ∉ bs ∧ Arr h ov (nats vs) bO ∧ noClip ov
theorem OutIn.frame {h h' : H} {ov : V} {vs : List Nat} {bs cs : List Nat} (a : OutIn h ov vs bs) (f : Keeps h h' cs) (hs : ∀ x ∈ cs, x ∈ bs) : OutIn h' ov vs bs := by
  rcases a with a | ⟨bO, h1, h2, h3⟩
  · exact .inl a
  · exact .inr ⟨bO, h1, h2.frame f (fun h => h1 (hs _ h)), h3⟩
theorem Seq.push {F : Nat → Int} {n v : Nat} {vs : List Nat} {S : Nat → Bool} (h : Seq F n vs) (hS : Lack n S vs vs.length) (v1 : 1 ≤ v) (v2 : v ≤ n) (v3 : S v = true) (v4 : ∀ u, 1 ≤ u → u ≤ n → S u = true → ¬ Ah F u v) : Seq F n (vs ++ [v]) ∧ Lack n (upd S v false) (vs ++ [v]) (vs.length + 1) := by
  have lo : ∀ i, i < vs.length → gN (vs ++ [v]) i = gN vs i := fun i hi => by rw [gN_append, if_neg (by omega)]
  have la : gN (vs ++ [v]) vs.length = v := by rw [gN_append, if_pos rfl]
  constructor
  · intro j hj
    simp only [List.length_append, List.length_singleton] at hj
    by_cases he : j = vs.length
    · subst he
      rw [la]
      refine ⟨v1, v2, fun i hi => ?_, fun u hu1 hu2 hu => ?_⟩
      · rw [lo i hi]; exact (hS v v1 v2).1 v3 i hi
      · exact v4 u hu1 hu2 ((hS u hu1 hu2).2 fun i hi => by rw [← lo i hi]; exact hu i hi)
    · have hj' : j < vs.length := by omega
      obtain ⟨a1, a2, a3, a4⟩ := h j hj'
      rw [lo j hj']
      refine ⟨a1, a2, fun i hi => ?_, fun u hu1 hu2 hu => ?_⟩
      · rw [lo i (by omega)]; exact a3 i hi
      · exact a4 u hu1 hu2 fun i hi => by rw [← lo i (by omega)]; exact hu i hi
  · intro u hu1 hu2
    unfold upd
    by_cases hu : u = v
    · rw [if_pos hu]
      constructor
      · intro h; cases h
      · intro hh; exact absurd (by rw [la, hu]) (hh vs.length (by omega))
    · rw [if_neg hu, hS u hu1 hu2]
      constructor
      · intro hh i hi
        by_cases he : i = vs.length
        · rw [he, la]; exact fun e => hu e.symm
        · rw [lo i (by omega)]; exact hh i (by omega)
      · intro hh i hi
        rw [← lo i hi]; exact hh i (by omega)
def bLoop0 : MCode := (.loop (.seq (.seq (.reg [⟨(some 37), .mv (.t 7), none⟩, ⟨(some 38), .mv (.t 0), none⟩, ⟨(some 39), .len (.t 38), none⟩, ⟨(some 40), .bin .lss .no (.t 37) (.t 39), none⟩])
   (.cond (.t 40)
     .skip
     (.exit 0)))
   (.seq (.block 1 (.reg [⟨(some 43), .mv (.t 5), none⟩, ⟨(some 44), .mv (.t 7), none⟩, ⟨(some 45), .bin .add .no (.t 44) (.c (.int .i64 1)), none⟩, ⟨(some 46), .mv (.t 0), none⟩, ⟨(some 47), .mv (.t 7), none⟩, ⟨(some 48), .iaddr 1 (.t 46) (.t 47), none⟩, ⟨(some 49), .load none (.t 48), none⟩, ⟨(some 50), .call (.c (.fn 10 [])) [(.t 43), (.t 45), (.t 49)], none⟩]))
   (.reg [⟨(some 41), .mv (.t 7), none⟩, ⟨(some 42), .bin .add .no (.t 41) (.c (.int .i64 1)), none⟩, ⟨(some 7), .mv (.t 42), none⟩]))))
def bLoop2 : MCode := (.loop (.seq (.seq (.reg [⟨(some 51), .mv (.t 9), none⟩, ⟨(some 52), .mv (.t 1), none⟩, ⟨(some 53), .convI .i64 (.t 52), none⟩, ⟨(some 54), .mv (.t 0), none⟩, ⟨(some 55), .len (.t 54), none⟩, ⟨(some 56), .bin .rem .no (.t 53) (.t 55), none⟩, ⟨(some 57), .bin .leq .no (.t 51) (.t 56), none⟩])
   (.cond (.t 57)
     .skip
     (.exit 2)))
   (.seq (.block 3 (.seq (.reg [⟨(some 61), .mv (.t 5), none⟩, ⟨(some 62), .call (.c (.fn 11 [])) [(.t 61)], none⟩, ⟨(some 60), .mv (.t 62), none⟩, ⟨(some 63), .extract (.t 60) 0, none⟩, ⟨(some 64), .extract (.t 60) 1, none⟩, ⟨(some 10), .mv (.t 63), none⟩, ⟨(some 11), .mv (.t 64), none⟩])
    (.seq (.seq (.reg [⟨(some 65), .mv (.t 11), none⟩, ⟨(some 66), .un .not (.t 65), none⟩, ⟨(some 67), .mv (.t 66), none⟩, ⟨(some 68), .mv (.t 5), (some (67, false))⟩, ⟨(some 69), .mv (.t 10), (some (67, false))⟩, ⟨(some 70), .call (.c (.fn 12 [])) [(.t 68), (.t 69)], (some (67, false))⟩, ⟨(some 71), .pick (.t 67) (.c (.bool true)) (.t 70), none⟩])
    (.cond (.t 71)
      (.seq (.reg [⟨(some 4), .mv (.c (.bool false)), none⟩])
      .ret)
      .skip))
    (.reg [⟨(some 72), .mv (.t 8), none⟩, ⟨(some 73), .mv (.t 10), none⟩, ⟨(some 74), .bslice 1 1 [(.int .i64 0)] [(0, 1, (.t 73))], none⟩, ⟨(some 75), .append 1 8 (.t 72) (.t 74), none⟩, ⟨(some 8), .mv (.t 75), none⟩]))))
   (.reg [⟨(some 58), .mv (.t 9), none⟩, ⟨(some 59), .bin .add .no (.t 58) (.c (.int .i64 1)), none⟩, ⟨(some 9), .mv (.t 59), none⟩]))))
def bLoop4 : MCode := (.loop (.seq (.seq (.reg [⟨(some 79), .mv (.t 12), none⟩, ⟨(some 80), .bin .geq .no (.t 79) (.c (.int .i64 0)), none⟩])
   (.cond (.t 80)
     .skip
     (.exit 4)))
   (.seq (.block 5 (.seq (.reg [⟨(some 83), .mv (.t 5), none⟩, ⟨(some 84), .mv (.t 8), none⟩, ⟨(some 85), .mv (.t 12), none⟩, ⟨(some 86), .iaddr 1 (.t 84) (.t 85), none⟩, ⟨(some 87), .load none (.t 86), none⟩, ⟨(some 88), .call (.c (.fn 15 [])) [(.t 83), (.t 87)], none⟩, ⟨(some 89), .un .not (.t 88), none⟩, ⟨(some 90), .mv (.t 89), none⟩, ⟨(some 91), .mv (.t 5), (some (90, false))⟩, ⟨(some 92), .mv (.t 8), (some (90, false))⟩, ⟨(some 93), .mv (.t 12), (some (90, false))⟩, ⟨(some 94), .iaddr 1 (.t 92) (.t 93), (some (90, false))⟩, ⟨(some 95), .load none (.t 94), (some (90, false))⟩, ⟨(some 96), .call (.c (.fn 15 [])) [(.t 91), (.t 95)], (some (90, false))⟩, ⟨(some 97), .pick (.t 90) (.c (.bool true)) (.t 96), none⟩])
    (.cond (.t 97)
      (.seq (.reg [⟨(some 4), .mv (.c (.bool false)), none⟩])
      .ret)
      .skip)))
   (.reg [⟨(some 81), .mv (.t 12), none⟩, ⟨(some 82), .bin .sub .no (.t 81) (.c (.int .i64 1)), none⟩, ⟨(some 12), .mv (.t 82), none⟩]))))
def bLoop6 : MCode := (.loop (.seq (.seq (.reg [⟨(some 98), .mv (.t 13), none⟩, ⟨(some 99), .mv (.t 8), none⟩, ⟨(some 100), .len (.t 99), none⟩, ⟨(some 101), .bin .lss .no (.t 98) (.t 100), none⟩])
   (.cond (.t 101)
     .skip
     (.exit 6)))
   (.seq (.block 7 (.seq (.reg [⟨(some 105), .mv (.t 5), none⟩, ⟨(some 106), .call (.c (.fn 11 [])) [(.t 105)], none⟩, ⟨(some 104), .mv (.t 106), none⟩, ⟨(some 107), .extract (.t 104) 0, none⟩, ⟨(some 108), .extract (.t 104) 1, none⟩, ⟨(some 14), .mv (.t 107), none⟩, ⟨(some 15), .mv (.t 108), none⟩])
    (.seq (.reg [⟨(some 109), .mv (.t 14), none⟩, ⟨(some 110), .mv (.t 8), none⟩, ⟨(some 111), .mv (.t 13), none⟩, ⟨(some 112), .iaddr 1 (.t 110) (.t 111), none⟩, ⟨(some 113), .load none (.t 112), none⟩, ⟨(some 114), .bin .neq .no (.t 109) (.t 113), none⟩])
    (.cond (.t 114)
      (.seq (.reg [⟨(some 4), .mv (.c (.bool false)), none⟩])
      .ret)
      .skip))))
   (.reg [⟨(some 102), .mv (.t 13), none⟩, ⟨(some 103), .bin .add .no (.t 102) (.c (.int .i64 1)), none⟩, ⟨(some 13), .mv (.t 103), none⟩]))))
theorem back_loop0 {x0 : V} {g : Nat → Int} {b bL bP bA a n : Nat} (hsl : Sl x0 n g) (hn2 : n ≤ 40) (ha : a < 256) (R : Ex → St → Prop) : ∀ (d i : Nat) (F : Nat → Int) (h : H) (r w : List Nat) (j2 j3 j4 j6 j8 j9 j10 j11 j12 j13 j14 j15 j16 j17 j18 j19 j20 j21 j22 j23 j24 j25 j26 j27 j28 j29 j30 j31 j32 j33 j34 j35 j36 j37 j38 j39 j40 j41 j42 j43 j44 j45 j46 j47 j48 j49 j50 j51 j52 j53 j54 j55 j56 j57 j58 j59 j60 j61 j62 j63 j64 j65 j66 j67 j68 j69 j70 j71 j72 j73 j74 j75 j76 j77 j78 j79 j80 j81 j82 j83 j84 j85 j86 j87 j88 j89 j90 j91 j92 j93 j94 j95 j96 j97 j98 j99 j100 j101 j102 j103 j104 j105 j106 j107 j108 j109 j110 j111 j112 j113 j114 j115 j116 j117 j118 j119 j120 j121 j122 : V), n = i + d → Hv h b bL bP bA n n (fun _ => true) F →
    (∀ (F' : Nat → Int) (h' : H) (r' w' : List Nat) (k2 k3 k4 k6 k8 k9 k10 k11 k12 k13 k14 k15 k16 k17 k18 k19 k20 k21 k22 k23 k24 k25 k26 k27 k28 k29 k30 k31 k32 k33 k34 k35 k36 k37 k38 k39 k40 k41 k42 k43 k44 k45 k46 k47 k48 k49 k50 k51 k52 k53 k54 k55 k56 k57 k58 k59 k60 k61 k62 k63 k64 k65 k66 k67 k68 k69 k70 k71 k72 k73 k74 k75 k76 k77 k78 k79 k80 k81 k82 k83 k84 k85 k86 k87 k88 k89 k90 k91 k92 k93 k94 k95 k96 k97 k98 k99 k100 k101 k102 k103 k104 k105 k106 k107 k108 k109 k110 k111 k112 k113 k114 k115 k116 k117 k118 k119 k120 k121 k122 : V), Hv h' b bL bP bA n n (fun _ => true) F' → R (.exit 0) ⟨[x0, (.int .u8 (a : Nat)), k2, k3, k4, (.ptr b 0 0 0), k6, (.int .i64 (n : Nat)), k8, k9, k10, k11, k12, k13, k14, k15, k16, k17, k18, k19, k20, k21, k22, k23, k24, k25, k26, k27, k28, k29, k30, k31, k32, k33, k34, k35, k36, k37, k38, k39, k40, k41, k42, k43, k44, k45, k46, k47, k48, k49, k50, k51, k52, k53, k54, k55, k56, k57, k58, k59, k60, k61, k62, k63, k64, k65, k66, k67, k68, k69, k70, k71, k72, k73, k74, k75, k76, k77, k78, k79, k80, k81, k82, k83, k84, k85, k86, k87, k88, k89, k90, k91, k92, k93, k94, k95, k96, k97, k98, k99, k100, k101, k102, k103, k104, k105, k106, k107, k108, k109, k110, k111, k112, k113, k114, k115, k116, k117, k118, k119, k120, k121, k122], h', r', w'⟩) →
    RQ EH 0 bLoop0 ⟨[x0, (.int .u8 (a : Nat)), j2, j3, j4, (.ptr b 0 0 0), j6, (.int .i64 (i : Nat)), j8, j9, j10, j11, j12, j13, j14, j15, j16, j17, j18, j19, j20, j21, j22, j23, j24, j25, j26, j27, j28, j29, j30, j31, j32, j33, j34, j35, j36, j37, j38, j39, j40, j41, j42, j43, j44, j45, j46, j47, j48, j49, j50, j51, j52, j53, j54, j55, j56, j57, j58, j59, j60, j61, j62, j63, j64, j65, j66, j67, j68, j69, j70, j71, j72, j73, j74, j75, j76, j77, j78, j79, j80, j81, j82, j83, j84, j85, j86, j87, j88, j89, j90, j91, j92, j93, j94, j95, j96, j97, j98, j99, j100, j101, j102, j103, j104, j105, j106, j107, j108, j109, j110, j111, j112, j113, j114, j115, j116, j117, j118, j119, j120, j121, j122], h, r, w⟩ R
  | d, i, F, h, r, w, j2, j3, j4, j6, j8, j9, j10, j11, j12, j13, j14, j15, j16, j17, j18, j19, j20, j21, j22, j23, j24, j25, j26, j27, j28, j29, j30, j31, j32, j33, j34, j35, j36, j37, j38, j39, j40, j41, j42, j43, j44, j45, j46, j47, j48, j49, j50, j51, j52, j53, j54, j55, j56, j57, j58, j59, j60, j61, j62, j63, j64, j65, j66, j67, j68, j69, j70, j71, j72, j73, j74, j75, j76, j77, j78, j79, j80, j81, j82, j83, j84, j85, j86, j87, j88, j89, j90, j91, j92, j93, j94, j95, j96, j97, j98, j99, j100, j101, j102, j103, j104, j105, j106, j107, j108, j109, j110, j111, j112, j113, j114, j115, j116, j117, j118, j119, j120, j121, j122, hd, hv, hR => by
    unfold bLoop0
    apply q_loop
    match d, hd with
    | 0, hd =>
      have hi : i = n := by omega
      subst hi
      have hc : decide ((i : Int) < (i : Int)) = false := decide_eq_false (by omega)
      repeat (first
      | with_reducible apply q_seq
      | with_reducible apply q_reg
      | with_reducible apply q_draw
      | with_reducible apply q_ret
      | with_reducible apply q_skip
      | with_reducible apply q_exit
      | with_reducible apply q_block
      | with_reducible apply k_norm
      | with_reducible apply k_ret
      | with_reducible apply k_exit
      | with_reducible apply b_norm
      | with_reducible apply b_ret
      | with_reducible apply b_leave
      | ((with_reducible apply b_exit); decide)
      | with_reducible apply g_nil
      | with_reducible apply d_nil
      | ((with_reducible apply q_true); rfl)
      | ((with_reducible apply q_false); rfl)
      | ((with_reducible apply g_skip)
         · rfl
         · dsimp only [putV, List.set]; try rfl)
      | ((with_reducible apply d_skip)
         · rfl
         · dsimp only [putV, List.set]; try rfl)
      | ((with_reducible apply g_go)
         · rfl
         · first
           | ((with_reducible apply ops_add); rfl; rfl; (first | assumption | rfl); omega; omega)
           | ((with_reducible apply ops_sub); rfl; rfl; (first | assumption | rfl); omega; omega)
           | ((with_reducible apply ops_mul); rfl; rfl; (first | assumption | rfl); omega; omega)
           | ((with_reducible apply ops_quo); rfl; rfl; decide; (first | assumption | rfl); omega; omega)
           | ((with_reducible apply ops_rem); rfl; rfl; omega; (first | assumption | rfl))
           | ((with_reducible apply ops_lss); rfl; rfl; (first | assumption | rfl))
           | ((with_reducible apply ops_gtr); rfl; rfl; (first | assumption | rfl))
           | ((with_reducible apply ops_leq); rfl; rfl; (first | assumption | rfl))
           | ((with_reducible apply ops_geq); rfl; rfl; (first | assumption | rfl))
           | ((with_reducible apply ops_eql); rfl; rfl; (first | assumption | rfl))
           | ((with_reducible apply ops_neq); rfl; rfl; (first | assumption | rfl))
           | ((with_reducible apply ops_min2); rfl; (first | assumption | rfl))
           | ((with_reducible apply ops_max2); rfl; (first | assumption | rfl))
           | ((with_reducible apply ops_iaddrN); rfl; rfl; omega; rfl)
           | ((with_reducible apply ops_iaddr); rfl; rfl; omega; omega; rfl; rfl)
           | ((with_reducible apply ops_load); rfl; exact rowAt_of (by first | assumption) (Nat.zero_le _) (Nat.zero_le _); rfl; rfl)
           | ((with_reducible apply arr_loadN); rfl; (first | assumption); assumption; assumption; (first | assumption | (apply ints_get; omega) | (apply nats_get; omega)); rfl)
           | ((with_reducible apply arr_storeN); rfl; rfl; (first | assumption); assumption; assumption; (first | assumption | (apply ints_get; omega) | (apply nats_get; omega)); rfl; rfl; rfl; rfl; rfl)
           | ((apply hsl.len; rfl))
           | ((apply hsl.at_; rfl; rfl; omega))
           | (((with_reducible apply ops_conv); rfl; omega; omega))
           | (((with_reducible apply ops_push0); rfl; rfl; (first | assumption | exact hT _ _)))
           | ((with_reducible apply ops_struct); rfl; rfl; (first | assumption); rfl; rfl; rfl; rfl; rfl; exact Nat.le_of_ble_eq_true rfl; rfl)
           | ((with_reducible apply ops_bslice1); rfl; rfl; rfl)
           | ((with_reducible apply ops_push); rfl; rfl; (first | assumption); (first | assumption); assumption; assumption; assumption; (first | rfl | assumption); omega; rfl)
           | ((with_reducible apply ops_cutN); rfl; rfl; omega)
           | exact ops_of rfl
         · dsimp only [putV, List.set]; try rfl)
      | ((with_reducible apply d_go)
         · rfl
         · first
           | ((with_reducible apply ops_add); rfl; rfl; (first | assumption | rfl); omega; omega)
           | ((with_reducible apply ops_sub); rfl; rfl; (first | assumption | rfl); omega; omega)
           | ((with_reducible apply ops_mul); rfl; rfl; (first | assumption | rfl); omega; omega)
           | ((with_reducible apply ops_quo); rfl; rfl; decide; (first | assumption | rfl); omega; omega)
           | ((with_reducible apply ops_rem); rfl; rfl; omega; (first | assumption | rfl))
           | ((with_reducible apply ops_lss); rfl; rfl; (first | assumption | rfl))
           | ((with_reducible apply ops_gtr); rfl; rfl; (first | assumption | rfl))
           | ((with_reducible apply ops_leq); rfl; rfl; (first | assumption | rfl))
           | ((with_reducible apply ops_geq); rfl; rfl; (first | assumption | rfl))
           | ((with_reducible apply ops_eql); rfl; rfl; (first | assumption | rfl))
           | ((with_reducible apply ops_neq); rfl; rfl; (first | assumption | rfl))
           | ((with_reducible apply ops_min2); rfl; (first | assumption | rfl))
           | ((with_reducible apply ops_max2); rfl; (first | assumption | rfl))
           | ((with_reducible apply ops_iaddrN); rfl; rfl; omega; rfl)
           | ((with_reducible apply ops_iaddr); rfl; rfl; omega; omega; rfl; rfl)
           | ((with_reducible apply ops_load); rfl; exact rowAt_of (by first | assumption) (Nat.zero_le _) (Nat.zero_le _); rfl; rfl)
           | ((with_reducible apply arr_loadN); rfl; (first | assumption); assumption; assumption; (first | assumption | (apply ints_get; omega) | (apply nats_get; omega)); rfl)
           | ((with_reducible apply arr_storeN); rfl; rfl; (first | assumption); assumption; assumption; (first | assumption | (apply ints_get; omega) | (apply nats_get; omega)); rfl; rfl; rfl; rfl; rfl)
           | ((apply hsl.len; rfl))
           | ((apply hsl.at_; rfl; rfl; omega))
           | (((with_reducible apply ops_conv); rfl; omega; omega))
           | (((with_reducible apply ops_push0); rfl; rfl; (first | assumption | exact hT _ _)))
           | ((with_reducible apply ops_struct); rfl; rfl; (first | assumption); rfl; rfl; rfl; rfl; rfl; exact Nat.le_of_ble_eq_true rfl; rfl)
           | ((with_reducible apply ops_bslice1); rfl; rfl; rfl)
           | ((with_reducible apply ops_push); rfl; rfl; (first | assumption); (first | assumption); assumption; assumption; assumption; (first | rfl | assumption); omega; rfl)
           | ((with_reducible apply ops_cutN); rfl; rfl; omega)
           | exact ops_of rfl
         · (first | with_reducible exact free_empty | rw [allW_same] | rw [allW_set] | rw [allW_push]) <;> (repeat (first | with_reducible exact free_nil | with_reducible exact free_empty | ((with_reducible apply free_mask); rfl) | ((with_reducible apply free_ne); (focus (first | rfl | (simp [clash, meets, *]; done))))))
         · first | exact note_same | exact note_read | exact note_set | exact note_push
         · dsimp only [putV, List.set]; try rfl))
      exact hR F h _ _ _ _ _ _ _ _ _ _ _ _ _ _ _ _ _ _ _ _ _ _ _ _ _ _ _ _ _ _ _ _ _ _ _ _ _ _ _ _ _ _ _ _ _ _ _ _ _ _ _ _ _ _ _ _ _ _ _ _ _ _ _ _ _ _ _ _ _ _ _ _ _ _ _ _ _ _ _ _ _ _ _ _ _ _ _ _ _ _ _ _ _ _ _ _ _ _ _ _ _ _ _ _ _ _ _ _ _ _ _ _ _ _ _ _ _ _ _ _ _ hv
    | d + 1, hd =>
      have hc : decide ((i : Int) < (n : Int)) = true := decide_eq_true (by omega)
      have e1 : (i : Int) + 1 = ((i + 1 : Nat) : Int) := by omega
      by_cases hyg : 0 ≤ g i
      · have hy := hv_bump hv (by omega) (u := i + 1) (y := g i) (by omega) (by omega) hyg
        repeat (first
      | with_reducible apply q_seq
      | with_reducible apply q_reg
      | with_reducible apply q_draw
      | with_reducible apply q_ret
      | with_reducible apply q_skip
      | with_reducible apply q_exit
      | with_reducible apply q_block
      | with_reducible apply k_norm
      | with_reducible apply k_ret
      | with_reducible apply k_exit
      | with_reducible apply b_norm
      | with_reducible apply b_ret
      | with_reducible apply b_leave
      | ((with_reducible apply b_exit); decide)
      | with_reducible apply g_nil
      | with_reducible apply d_nil
      | ((with_reducible apply q_true); rfl)
      | ((with_reducible apply q_false); rfl)
      | ((with_reducible apply g_skip)
         · rfl
         · dsimp only [putV, List.set]; try rfl)
      | ((with_reducible apply d_skip)
         · rfl
         · dsimp only [putV, List.set]; try rfl)
      | ((with_reducible apply g_call)
         · rfl
         · rfl
         · rfl
         · exact hy
         · dsimp only [putV, List.set]; try rfl)
      | ((with_reducible apply d_first)
         · rfl
         · rfl
         · rfl
         · exact hy
         · dsimp only [putV, List.set]; try rfl)
      | ((with_reducible apply g_go)
         · rfl
         · first
           | ((with_reducible apply ops_add); rfl; rfl; (first | assumption | rfl); omega; omega)
           | ((with_reducible apply ops_sub); rfl; rfl; (first | assumption | rfl); omega; omega)
           | ((with_reducible apply ops_mul); rfl; rfl; (first | assumption | rfl); omega; omega)
           | ((with_reducible apply ops_quo); rfl; rfl; decide; (first | assumption | rfl); omega; omega)
           | ((with_reducible apply ops_rem); rfl; rfl; omega; (first | assumption | rfl))
           | ((with_reducible apply ops_lss); rfl; rfl; (first | assumption | rfl))
           | ((with_reducible apply ops_gtr); rfl; rfl; (first | assumption | rfl))
           | ((with_reducible apply ops_leq); rfl; rfl; (first | assumption | rfl))
           | ((with_reducible apply ops_geq); rfl; rfl; (first | assumption | rfl))
           | ((with_reducible apply ops_eql); rfl; rfl; (first | assumption | rfl))
           | ((with_reducible apply ops_neq); rfl; rfl; (first | assumption | rfl))
           | ((with_reducible apply ops_min2); rfl; (first | assumption | rfl))
           | ((with_reducible apply ops_max2); rfl; (first | assumption | rfl))
           | ((with_reducible apply ops_iaddrN); rfl; rfl; omega; rfl)
           | ((with_reducible apply ops_iaddr); rfl; rfl; omega; omega; rfl; rfl)
           | ((with_reducible apply ops_load); rfl; exact rowAt_of (by first | assumption) (Nat.zero_le _) (Nat.zero_le _); rfl; rfl)
           | ((with_reducible apply arr_loadN); rfl; (first | assumption); assumption; assumption; (first | assumption | (apply ints_get; omega) | (apply nats_get; omega)); rfl)
           | ((with_reducible apply arr_storeN); rfl; rfl; (first | assumption); assumption; assumption; (first | assumption | (apply ints_get; omega) | (apply nats_get; omega)); rfl; rfl; rfl; rfl; rfl)
           | ((apply hsl.len; rfl))
           | ((apply hsl.at_; rfl; rfl; omega))
           | (((with_reducible apply ops_conv); rfl; omega; omega))
           | (((with_reducible apply ops_push0); rfl; rfl; (first | assumption | exact hT _ _)))
           | ((with_reducible apply ops_struct); rfl; rfl; (first | assumption); rfl; rfl; rfl; rfl; rfl; exact Nat.le_of_ble_eq_true rfl; rfl)
           | ((with_reducible apply ops_bslice1); rfl; rfl; rfl)
           | ((with_reducible apply ops_push); rfl; rfl; (first | assumption); (first | assumption); assumption; assumption; assumption; (first | rfl | assumption); omega; rfl)
           | ((with_reducible apply ops_cutN); rfl; rfl; omega)
           | exact ops_of rfl
         · dsimp only [putV, List.set]; try rfl)
      | ((with_reducible apply d_go)
         · rfl
         · first
           | ((with_reducible apply ops_add); rfl; rfl; (first | assumption | rfl); omega; omega)
           | ((with_reducible apply ops_sub); rfl; rfl; (first | assumption | rfl); omega; omega)
           | ((with_reducible apply ops_mul); rfl; rfl; (first | assumption | rfl); omega; omega)
           | ((with_reducible apply ops_quo); rfl; rfl; decide; (first | assumption | rfl); omega; omega)
           | ((with_reducible apply ops_rem); rfl; rfl; omega; (first | assumption | rfl))
           | ((with_reducible apply ops_lss); rfl; rfl; (first | assumption | rfl))
           | ((with_reducible apply ops_gtr); rfl; rfl; (first | assumption | rfl))
           | ((with_reducible apply ops_leq); rfl; rfl; (first | assumption | rfl))
           | ((with_reducible apply ops_geq); rfl; rfl; (first | assumption | rfl))
           | ((with_reducible apply ops_eql); rfl; rfl; (first | assumption | rfl))
           | ((with_reducible apply ops_neq); rfl; rfl; (first | assumption | rfl))
           | ((with_reducible apply ops_min2); rfl; (first | assumption | rfl))
           | ((with_reducible apply ops_max2); rfl; (first | assumption | rfl))
           | ((with_reducible apply ops_iaddrN); rfl; rfl; omega; rfl)
           | ((with_reducible apply ops_iaddr); rfl; rfl; omega; omega; rfl; rfl)
           | ((with_reducible apply ops_load); rfl; exact rowAt_of (by first | assumption) (Nat.zero_le _) (Nat.zero_le _); rfl; rfl)
           | ((with_reducible apply arr_loadN); rfl; (first | assumption); assumption; assumption; (first | assumption | (apply ints_get; omega) | (apply nats_get; omega)); rfl)
           | ((with_reducible apply arr_storeN); rfl; rfl; (first | assumption); assumption; assumption; (first | assumption | (apply ints_get; omega) | (apply nats_get; omega)); rfl; rfl; rfl; rfl; rfl)
           | ((apply hsl.len; rfl))
           | ((apply hsl.at_; rfl; rfl; omega))
           | (((with_reducible apply ops_conv); rfl; omega; omega))
           | (((with_reducible apply ops_push0); rfl; rfl; (first | assumption | exact hT _ _)))
           | ((with_reducible apply ops_struct); rfl; rfl; (first | assumption); rfl; rfl; rfl; rfl; rfl; exact Nat.le_of_ble_eq_true rfl; rfl)
           | ((with_reducible apply ops_bslice1); rfl; rfl; rfl)
           | ((with_reducible apply ops_push); rfl; rfl; (first | assumption); (first | assumption); assumption; assumption; assumption; (first | rfl | assumption); omega; rfl)
           | ((with_reducible apply ops_cutN); rfl; rfl; omega)
           | exact ops_of rfl
         · (first | with_reducible exact free_empty | rw [allW_same] | rw [allW_set] | rw [allW_push]) <;> (repeat (first | with_reducible exact free_nil | with_reducible exact free_empty | ((with_reducible apply free_mask); rfl) | ((with_reducible apply free_ne); (focus (first | rfl | (simp [clash, meets, *]; done))))))
         · first | exact note_same | exact note_read | exact note_set | exact note_push
         · dsimp only [putV, List.set]; try rfl))
        intro r1 w1 h1 hD
        obtain ⟨d1, d2⟩ := hD
        repeat (first
      | with_reducible apply q_seq
      | with_reducible apply q_reg
      | with_reducible apply q_draw
      | with_reducible apply q_ret
      | with_reducible apply q_skip
      | with_reducible apply q_exit
      | with_reducible apply q_block
      | with_reducible apply k_norm
      | with_reducible apply k_ret
      | with_reducible apply k_exit
      | with_reducible apply b_norm
      | with_reducible apply b_ret
      | with_reducible apply b_leave
      | ((with_reducible apply b_exit); decide)
      | with_reducible apply g_nil
      | with_reducible apply d_nil
      | ((with_reducible apply q_true); rfl)
      | ((with_reducible apply q_false); rfl)
      | ((with_reducible apply g_skip)
         · rfl
         · dsimp only [putV, List.set]; try rfl)
      | ((with_reducible apply d_skip)
         · rfl
         · dsimp only [putV, List.set]; try rfl)
      | ((with_reducible apply g_go)
         · rfl
         · first
           | ((with_reducible apply ops_add); rfl; rfl; (first | assumption | rfl); omega; omega)
           | ((with_reducible apply ops_sub); rfl; rfl; (first | assumption | rfl); omega; omega)
           | ((with_reducible apply ops_mul); rfl; rfl; (first | assumption | rfl); omega; omega)
           | ((with_reducible apply ops_quo); rfl; rfl; decide; (first | assumption | rfl); omega; omega)
           | ((with_reducible apply ops_rem); rfl; rfl; omega; (first | assumption | rfl))
           | ((with_reducible apply ops_lss); rfl; rfl; (first | assumption | rfl))
           | ((with_reducible apply ops_gtr); rfl; rfl; (first | assumption | rfl))
           | ((with_reducible apply ops_leq); rfl; rfl; (first | assumption | rfl))
           | ((with_reducible apply ops_geq); rfl; rfl; (first | assumption | rfl))
           | ((with_reducible apply ops_eql); rfl; rfl; (first | assumption | rfl))
           | ((with_reducible apply ops_neq); rfl; rfl; (first | assumption | rfl))
           | ((with_reducible apply ops_min2); rfl; (first | assumption | rfl))
           | ((with_reducible apply ops_max2); rfl; (first | assumption | rfl))
           | ((with_reducible apply ops_iaddrN); rfl; rfl; omega; rfl)
           | ((with_reducible apply ops_iaddr); rfl; rfl; omega; omega; rfl; rfl)
           | ((with_reducible apply ops_load); rfl; exact rowAt_of (by first | assumption) (Nat.zero_le _) (Nat.zero_le _); rfl; rfl)
           | ((with_reducible apply arr_loadN); rfl; (first | assumption); assumption; assumption; (first | assumption | (apply ints_get; omega) | (apply nats_get; omega)); rfl)
           | ((with_reducible apply arr_storeN); rfl; rfl; (first | assumption); assumption; assumption; (first | assumption | (apply ints_get; omega) | (apply nats_get; omega)); rfl; rfl; rfl; rfl; rfl)
           | ((apply hsl.len; rfl))
           | ((apply hsl.at_; rfl; rfl; omega))
           | (((with_reducible apply ops_conv); rfl; omega; omega))
           | (((with_reducible apply ops_push0); rfl; rfl; (first | assumption | exact hT _ _)))
           | ((with_reducible apply ops_struct); rfl; rfl; (first | assumption); rfl; rfl; rfl; rfl; rfl; exact Nat.le_of_ble_eq_true rfl; rfl)
           | ((with_reducible apply ops_bslice1); rfl; rfl; rfl)
           | ((with_reducible apply ops_push); rfl; rfl; (first | assumption); (first | assumption); assumption; assumption; assumption; (first | rfl | assumption); omega; rfl)
           | ((with_reducible apply ops_cutN); rfl; rfl; omega)
           | exact ops_of rfl
         · dsimp only [putV, List.set]; try rfl)
      | ((with_reducible apply d_go)
         · rfl
         · first
           | ((with_reducible apply ops_add); rfl; rfl; (first | assumption | rfl); omega; omega)
           | ((with_reducible apply ops_sub); rfl; rfl; (first | assumption | rfl); omega; omega)
           | ((with_reducible apply ops_mul); rfl; rfl; (first | assumption | rfl); omega; omega)
           | ((with_reducible apply ops_quo); rfl; rfl; decide; (first | assumption | rfl); omega; omega)
           | ((with_reducible apply ops_rem); rfl; rfl; omega; (first | assumption | rfl))
           | ((with_reducible apply ops_lss); rfl; rfl; (first | assumption | rfl))
           | ((with_reducible apply ops_gtr); rfl; rfl; (first | assumption | rfl))
           | ((with_reducible apply ops_leq); rfl; rfl; (first | assumption | rfl))
           | ((with_reducible apply ops_geq); rfl; rfl; (first | assumption | rfl))
           | ((with_reducible apply ops_eql); rfl; rfl; (first | assumption | rfl))
           | ((with_reducible apply ops_neq); rfl; rfl; (first | assumption | rfl))
           | ((with_reducible apply ops_min2); rfl; (first | assumption | rfl))
           | ((with_reducible apply ops_max2); rfl; (first | assumption | rfl))
           | ((with_reducible apply ops_iaddrN); rfl; rfl; omega; rfl)
           | ((with_reducible apply ops_iaddr); rfl; rfl; omega; omega; rfl; rfl)
           | ((with_reducible apply ops_load); rfl; exact rowAt_of (by first | assumption) (Nat.zero_le _) (Nat.zero_le _); rfl; rfl)
           | ((with_reducible apply arr_loadN); rfl; (first | assumption); assumption; assumption; (first | assumption | (apply ints_get; omega) | (apply nats_get; omega)); rfl)
           | ((with_reducible apply arr_storeN); rfl; rfl; (first | assumption); assumption; assumption; (first | assumption | (apply ints_get; omega) | (apply nats_get; omega)); rfl; rfl; rfl; rfl; rfl)
           | ((apply hsl.len; rfl))
           | ((apply hsl.at_; rfl; rfl; omega))
           | (((with_reducible apply ops_conv); rfl; omega; omega))
           | (((with_reducible apply ops_push0); rfl; rfl; (first | assumption | exact hT _ _)))
           | ((with_reducible apply ops_struct); rfl; rfl; (first | assumption); rfl; rfl; rfl; rfl; rfl; exact Nat.le_of_ble_eq_true rfl; rfl)
           | ((with_reducible apply ops_bslice1); rfl; rfl; rfl)
           | ((with_reducible apply ops_push); rfl; rfl; (first | assumption); (first | assumption); assumption; assumption; assumption; (first | rfl | assumption); omega; rfl)
           | ((with_reducible apply ops_cutN); rfl; rfl; omega)
           | exact ops_of rfl
         · (first | with_reducible exact free_empty | rw [allW_same] | rw [allW_set] | rw [allW_push]) <;> (repeat (first | with_reducible exact free_nil | with_reducible exact free_empty | ((with_reducible apply free_mask); rfl) | ((with_reducible apply free_ne); (focus (first | rfl | (simp [clash, meets, *]; done))))))
         · first | exact note_same | exact note_read | exact note_set | exact note_push
         · dsimp only [putV, List.set]; try rfl))
        exact back_loop0 (bL := bL) (bP := bP) (bA := bA) hsl hn2 ha R d (i + 1) _ h1 _ _ _ _ _ _ _ _ _ _ _ _ _ _ _ _ _ _ _ _ _ _ _ _ _ _ _ _ _ _ _ _ _ _ _ _ _ _ _ _ _ _ _ _ _ _ _ _ _ _ _ _ _ _ _ _ _ _ _ _ _ _ _ _ _ _ _ _ _ _ _ _ _ _ _ _ _ _ _ _ _ _ _ _ _ _ _ _ _ _ _ _ _ _ _ _ _ _ _ _ _ _ _ _ _ _ _ _ _ _ _ _ _ _ _ _ _ _ _ _ _ (by omega) d1 hR
      · have hz := hv_bump_no hv (v := ((i + 1 : Nat) : Int)) (y := g i) (.inr (by omega))
        repeat (first
      | with_reducible apply q_seq
      | with_reducible apply q_reg
      | with_reducible apply q_draw
      | with_reducible apply q_ret
      | with_reducible apply q_skip
      | with_reducible apply q_exit
      | with_reducible apply q_block
      | with_reducible apply k_norm
      | with_reducible apply k_ret
      | with_reducible apply k_exit
      | with_reducible apply b_norm
      | with_reducible apply b_ret
      | with_reducible apply b_leave
      | ((with_reducible apply b_exit); decide)
      | with_reducible apply g_nil
      | with_reducible apply d_nil
      | ((with_reducible apply q_true); rfl)
      | ((with_reducible apply q_false); rfl)
      | ((with_reducible apply g_skip)
         · rfl
         · dsimp only [putV, List.set]; try rfl)
      | ((with_reducible apply d_skip)
         · rfl
         · dsimp only [putV, List.set]; try rfl)
      | ((with_reducible apply g_read)
         · rfl
         · rfl
         · rfl
         · exact hz
         · dsimp only [putV, List.set]; try rfl
         intro _)
      | ((with_reducible apply d_read)
         · rfl
         · rfl
         · rfl
         · exact hz
         · rfl
         · dsimp only [putV, List.set]; try rfl
         intro _ _)
      | ((with_reducible apply g_go)
         · rfl
         · first
           | ((with_reducible apply ops_add); rfl; rfl; (first | assumption | rfl); omega; omega)
           | ((with_reducible apply ops_sub); rfl; rfl; (first | assumption | rfl); omega; omega)
           | ((with_reducible apply ops_mul); rfl; rfl; (first | assumption | rfl); omega; omega)
           | ((with_reducible apply ops_quo); rfl; rfl; decide; (first | assumption | rfl); omega; omega)
           | ((with_reducible apply ops_rem); rfl; rfl; omega; (first | assumption | rfl))
           | ((with_reducible apply ops_lss); rfl; rfl; (first | assumption | rfl))
           | ((with_reducible apply ops_gtr); rfl; rfl; (first | assumption | rfl))
           | ((with_reducible apply ops_leq); rfl; rfl; (first | assumption | rfl))
           | ((with_reducible apply ops_geq); rfl; rfl; (first | assumption | rfl))
           | ((with_reducible apply ops_eql); rfl; rfl; (first | assumption | rfl))
           | ((with_reducible apply ops_neq); rfl; rfl; (first | assumption | rfl))
           | ((with_reducible apply ops_min2); rfl; (first | assumption | rfl))
           | ((with_reducible apply ops_max2); rfl; (first | assumption | rfl))
           | ((with_reducible apply ops_iaddrN); rfl; rfl; omega; rfl)
           | ((with_reducible apply ops_iaddr); rfl; rfl; omega; omega; rfl; rfl)
           | ((with_reducible apply ops_load); rfl; exact rowAt_of (by first | assumption) (Nat.zero_le _) (Nat.zero_le _); rfl; rfl)
           | ((with_reducible apply arr_loadN); rfl; (first | assumption); assumption; assumption; (first | assumption | (apply ints_get; omega) | (apply nats_get; omega)); rfl)
           | ((with_reducible apply arr_storeN); rfl; rfl; (first | assumption); assumption; assumption; (first | assumption | (apply ints_get; omega) | (apply nats_get; omega)); rfl; rfl; rfl; rfl; rfl)
           | ((apply hsl.len; rfl))
           | ((apply hsl.at_; rfl; rfl; omega))
           | (((with_reducible apply ops_conv); rfl; omega; omega))
           | (((with_reducible apply ops_push0); rfl; rfl; (first | assumption | exact hT _ _)))
           | ((with_reducible apply ops_struct); rfl; rfl; (first | assumption); rfl; rfl; rfl; rfl; rfl; exact Nat.le_of_ble_eq_true rfl; rfl)
           | ((with_reducible apply ops_bslice1); rfl; rfl; rfl)
           | ((with_reducible apply ops_push); rfl; rfl; (first | assumption); (first | assumption); assumption; assumption; assumption; (first | rfl | assumption); omega; rfl)
           | ((with_reducible apply ops_cutN); rfl; rfl; omega)
           | exact ops_of rfl
         · dsimp only [putV, List.set]; try rfl)
      | ((with_reducible apply d_go)
         · rfl
         · first
           | ((with_reducible apply ops_add); rfl; rfl; (first | assumption | rfl); omega; omega)
           | ((with_reducible apply ops_sub); rfl; rfl; (first | assumption | rfl); omega; omega)
           | ((with_reducible apply ops_mul); rfl; rfl; (first | assumption | rfl); omega; omega)
           | ((with_reducible apply ops_quo); rfl; rfl; decide; (first | assumption | rfl); omega; omega)
           | ((with_reducible apply ops_rem); rfl; rfl; omega; (first | assumption | rfl))
           | ((with_reducible apply ops_lss); rfl; rfl; (first | assumption | rfl))
           | ((with_reducible apply ops_gtr); rfl; rfl; (first | assumption | rfl))
           | ((with_reducible apply ops_leq); rfl; rfl; (first | assumption | rfl))
           | ((with_reducible apply ops_geq); rfl; rfl; (first | assumption | rfl))
           | ((with_reducible apply ops_eql); rfl; rfl; (first | assumption | rfl))
           | ((with_reducible apply ops_neq); rfl; rfl; (first | assumption | rfl))
           | ((with_reducible apply ops_min2); rfl; (first | assumption | rfl))
           | ((with_reducible apply ops_max2); rfl; (first | assumption | rfl))
           | ((with_reducible apply ops_iaddrN); rfl; rfl; omega; rfl)
           | ((with_reducible apply ops_iaddr); rfl; rfl; omega; omega; rfl; rfl)
           | ((with_reducible apply ops_load); rfl; exact rowAt_of (by first | assumption) (Nat.zero_le _) (Nat.zero_le _); rfl; rfl)
           | ((with_reducible apply arr_loadN); rfl; (first | assumption); assumption; assumption; (first | assumption | (apply ints_get; omega) | (apply nats_get; omega)); rfl)
           | ((with_reducible apply arr_storeN); rfl; rfl; (first | assumption); assumption; assumption; (first | assumption | (apply ints_get; omega) | (apply nats_get; omega)); rfl; rfl; rfl; rfl; rfl)
           | ((apply hsl.len; rfl))
           | ((apply hsl.at_; rfl; rfl; omega))
           | (((with_reducible apply ops_conv); rfl; omega; omega))
           | (((with_reducible apply ops_push0); rfl; rfl; (first | assumption | exact hT _ _)))
           | ((with_reducible apply ops_struct); rfl; rfl; (first | assumption); rfl; rfl; rfl; rfl; rfl; exact Nat.le_of_ble_eq_true rfl; rfl)
           | ((with_reducible apply ops_bslice1); rfl; rfl; rfl)
           | ((with_reducible apply ops_push); rfl; rfl; (first | assumption); (first | assumption); assumption; assumption; assumption; (first | rfl | assumption); omega; rfl)
           | ((with_reducible apply ops_cutN); rfl; rfl; omega)
           | exact ops_of rfl
         · (first | with_reducible exact free_empty | rw [allW_same] | rw [allW_set] | rw [allW_push]) <;> (repeat (first | with_reducible exact free_nil | with_reducible exact free_empty | ((with_reducible apply free_mask); rfl) | ((with_reducible apply free_ne); (focus (first | rfl | (simp [clash, meets, *]; done))))))
         · first | exact note_same | exact note_read | exact note_set | exact note_push
         · dsimp only [putV, List.set]; try rfl))
        exact back_loop0 (bL := bL) (bP := bP) (bA := bA) hsl hn2 ha R d (i + 1) F h _ _ _ _ _ _ _ _ _ _ _ _ _ _ _ _ _ _ _ _ _ _ _ _ _ _ _ _ _ _ _ _ _ _ _ _ _ _ _ _ _ _ _ _ _ _ _ _ _ _ _ _ _ _ _ _ _ _ _ _ _ _ _ _ _ _ _ _ _ _ _ _ _ _ _ _ _ _ _ _ _ _ _ _ _ _ _ _ _ _ _ _ _ _ _ _ _ _ _ _ _ _ _ _ _ _ _ _ _ _ _ _ _ _ _ _ _ _ _ _ _ (by omega) hv hR
theorem back_loop2 {F : Nat → Int} {x0 : V} {g : Nat → Int} {b bL bP bA a n : Nat} (hsl : Sl x0 n g) (hn2 : n ≤ 40) (ha : a < 256) (hn0 : 0 < n) (R : Ex → St → Prop) : ∀ (d i : Nat) (ov : V) (vs : List Nat) (S : Nat → Bool) (h : H) (r w : List Nat) (j2 j3 j4 j6 j7 j10 j11 j12 j13 j14 j15 j16 j17 j18 j19 j20 j21 j22 j23 j24 j25 j26 j27 j28 j29 j30 j31 j32 j33 j34 j35 j36 j37 j38 j39 j40 j41 j42 j43 j44 j45 j46 j47 j48 j49 j50 j51 j52 j53 j54 j55 j56 j57 j58 j59 j60 j61 j62 j63 j64 j65 j66 j67 j68 j69 j70 j71 j72 j73 j74 j75 j76 j77 j78 j79 j80 j81 j82 j83 j84 j85 j86 j87 j88 j89 j90 j91 j92 j93 j94 j95 j96 j97 j98 j99 j100 j101 j102 j103 j104 j105 j106 j107 j108 j109 j110 j111 j112 j113 j114 j115 j116 j117 j118 j119 j120 j121 j122 : V), a % n + 1 = i + d → vs.length = i → Hv h b bL bP bA n (n - i) S F → Lack n S vs i → Seq F n vs → OutIn h ov vs [b, bL, bP, bA] →
    (∀ (ov' : V) (vs' : List Nat) (S' : Nat → Bool) (h' : H) (r' w' : List Nat) (z : V) (k2 k3 k4 k6 k7 k10 k11 k12 k13 k14 k15 k16 k17 k18 k19 k20 k21 k22 k23 k24 k25 k26 k27 k28 k29 k30 k31 k32 k33 k34 k35 k36 k37 k38 k39 k40 k41 k42 k43 k44 k45 k46 k47 k48 k49 k50 k51 k52 k53 k54 k55 k56 k57 k58 k59 k60 k61 k62 k63 k64 k65 k66 k67 k68 k69 k70 k71 k72 k73 k74 k75 k76 k77 k78 k79 k80 k81 k82 k83 k84 k85 k86 k87 k88 k89 k90 k91 k92 k93 k94 k95 k96 k97 k98 k99 k100 k101 k102 k103 k104 k105 k106 k107 k108 k109 k110 k111 k112 k113 k114 k115 k116 k117 k118 k119 k120 k121 k122 : V), Hv h' b bL bP bA n (n - (a % n + 1)) S' F → vs'.length = a % n + 1 → Lack n S' vs' (a % n + 1) → Seq F n vs' → OutIn h' ov' vs' [b, bL, bP, bA] → R (.exit 2) ⟨[x0, (.int .u8 (a : Nat)), k2, k3, k4, (.ptr b 0 0 0), k6, k7, ov', z, k10, k11, k12, k13, k14, k15, k16, k17, k18, k19, k20, k21, k22, k23, k24, k25, k26, k27, k28, k29, k30, k31, k32, k33, k34, k35, k36, k37, k38, k39, k40, k41, k42, k43, k44, k45, k46, k47, k48, k49, k50, k51, k52, k53, k54, k55, k56, k57, k58, k59, k60, k61, k62, k63, k64, k65, k66, k67, k68, k69, k70, k71, k72, k73, k74, k75, k76, k77, k78, k79, k80, k81, k82, k83, k84, k85, k86, k87, k88, k89, k90, k91, k92, k93, k94, k95, k96, k97, k98, k99, k100, k101, k102, k103, k104, k105, k106, k107, k108, k109, k110, k111, k112, k113, k114, k115, k116, k117, k118, k119, k120, k121, k122], h', r', w'⟩) →
    RQ EH 0 bLoop2 ⟨[x0, (.int .u8 (a : Nat)), j2, j3, j4, (.ptr b 0 0 0), j6, j7, ov, (.int .i64 (i : Nat)), j10, j11, j12, j13, j14, j15, j16, j17, j18, j19, j20, j21, j22, j23, j24, j25, j26, j27, j28, j29, j30, j31, j32, j33, j34, j35, j36, j37, j38, j39, j40, j41, j42, j43, j44, j45, j46, j47, j48, j49, j50, j51, j52, j53, j54, j55, j56, j57, j58, j59, j60, j61, j62, j63, j64, j65, j66, j67, j68, j69, j70, j71, j72, j73, j74, j75, j76, j77, j78, j79, j80, j81, j82, j83, j84, j85, j86, j87, j88, j89, j90, j91, j92, j93, j94, j95, j96, j97, j98, j99, j100, j101, j102, j103, j104, j105, j106, j107, j108, j109, j110, j111, j112, j113, j114, j115, j116, j117, j118, j119, j120, j121, j122], h, r, w⟩ R
  | d, i, ov, vs, S, h, r, w, j2, j3, j4, j6, j7, j10, j11, j12, j13, j14, j15, j16, j17, j18, j19, j20, j21, j22, j23, j24, j25, j26, j27, j28, j29, j30, j31, j32, j33, j34, j35, j36, j37, j38, j39, j40, j41, j42, j43, j44, j45, j46, j47, j48, j49, j50, j51, j52, j53, j54, j55, j56, j57, j58, j59, j60, j61, j62, j63, j64, j65, j66, j67, j68, j69, j70, j71, j72, j73, j74, j75, j76, j77, j78, j79, j80, j81, j82, j83, j84, j85, j86, j87, j88, j89, j90, j91, j92, j93, j94, j95, j96, j97, j98, j99, j100, j101, j102, j103, j104, j105, j106, j107, j108, j109, j110, j111, j112, j113, j114, j115, j116, j117, j118, j119, j120, j121, j122, hd, hl, hv, hS, hq, ho, hR => by
    have er : ((a : Nat) : Int).tmod ((n : Nat) : Int) = ((a % n : Nat) : Int) := rfl
    have hml : a % n < n := Nat.mod_lt _ hn0
    unfold bLoop2
    apply q_loop
    match d, hd with
    | 0, hd =>
      have hc : decide ((i : Int) ≤ ((a % n : Nat) : Int)) = false := decide_eq_false (by omega)
      repeat (first
      | with_reducible apply q_seq
      | with_reducible apply q_reg
      | with_reducible apply q_draw
      | with_reducible apply q_ret
      | with_reducible apply q_skip
      | with_reducible apply q_exit
      | with_reducible apply q_block
      | with_reducible apply k_norm
      | with_reducible apply k_ret
      | with_reducible apply k_exit
      | with_reducible apply b_norm
      | with_reducible apply b_ret
      | with_reducible apply b_leave
      | ((with_reducible apply b_exit); decide)
      | with_reducible apply g_nil
      | with_reducible apply d_nil
      | ((with_reducible apply q_true); rfl)
      | ((with_reducible apply q_false); rfl)
      | ((with_reducible apply g_skip)
         · rfl
         · dsimp only [putV, List.set]; try rfl)
      | ((with_reducible apply d_skip)
         · rfl
         · dsimp only [putV, List.set]; try rfl)
      | ((with_reducible apply g_go)
         · rfl
         · first
           | ((with_reducible apply ops_add); rfl; rfl; (first | assumption | rfl); omega; omega)
           | ((with_reducible apply ops_sub); rfl; rfl; (first | assumption | rfl); omega; omega)
           | ((with_reducible apply ops_mul); rfl; rfl; (first | assumption | rfl); omega; omega)
           | ((with_reducible apply ops_quo); rfl; rfl; decide; (first | assumption | rfl); omega; omega)
           | ((with_reducible apply ops_rem); rfl; rfl; omega; (first | assumption | rfl))
           | ((with_reducible apply ops_lss); rfl; rfl; (first | assumption | rfl))
           | ((with_reducible apply ops_gtr); rfl; rfl; (first | assumption | rfl))
           | ((with_reducible apply ops_leq); rfl; rfl; (first | assumption | rfl))
           | ((with_reducible apply ops_geq); rfl; rfl; (first | assumption | rfl))
           | ((with_reducible apply ops_eql); rfl; rfl; (first | assumption | rfl))
           | ((with_reducible apply ops_neq); rfl; rfl; (first | assumption | rfl))
           | ((with_reducible apply ops_min2); rfl; (first | assumption | rfl))
           | ((with_reducible apply ops_max2); rfl; (first | assumption | rfl))
           | ((with_reducible apply ops_iaddrN); rfl; rfl; omega; rfl)
           | ((with_reducible apply ops_iaddr); rfl; rfl; omega; omega; rfl; rfl)
           | ((with_reducible apply ops_load); rfl; exact rowAt_of (by first | assumption) (Nat.zero_le _) (Nat.zero_le _); rfl; rfl)
           | ((with_reducible apply arr_loadN); rfl; (first | assumption); assumption; assumption; (first | assumption | (apply ints_get; omega) | (apply nats_get; omega)); rfl)
           | ((with_reducible apply arr_storeN); rfl; rfl; (first | assumption); assumption; assumption; (first | assumption | (apply ints_get; omega) | (apply nats_get; omega)); rfl; rfl; rfl; rfl; rfl)
           | ((apply hsl.len; rfl))
           | ((apply hsl.at_; rfl; rfl; omega))
           | (((with_reducible apply ops_conv); rfl; omega; omega))
           | (((with_reducible apply ops_push0); rfl; rfl; (first | assumption | exact hT _ _)))
           | ((with_reducible apply ops_struct); rfl; rfl; (first | assumption); rfl; rfl; rfl; rfl; rfl; exact Nat.le_of_ble_eq_true rfl; rfl)
           | ((with_reducible apply ops_bslice1); rfl; rfl; rfl)
           | ((with_reducible apply ops_push); rfl; rfl; (first | assumption); (first | assumption); assumption; assumption; assumption; (first | rfl | assumption); omega; rfl)
           | ((with_reducible apply ops_cutN); rfl; rfl; omega)
           | exact ops_of rfl
         · dsimp only [putV, List.set]; try rfl)
      | ((with_reducible apply d_go)
         · rfl
         · first
           | ((with_reducible apply ops_add); rfl; rfl; (first | assumption | rfl); omega; omega)
           | ((with_reducible apply ops_sub); rfl; rfl; (first | assumption | rfl); omega; omega)
           | ((with_reducible apply ops_mul); rfl; rfl; (first | assumption | rfl); omega; omega)
           | ((with_reducible apply ops_quo); rfl; rfl; decide; (first | assumption | rfl); omega; omega)
           | ((with_reducible apply ops_rem); rfl; rfl; omega; (first | assumption | rfl))
           | ((with_reducible apply ops_lss); rfl; rfl; (first | assumption | rfl))
           | ((with_reducible apply ops_gtr); rfl; rfl; (first | assumption | rfl))
           | ((with_reducible apply ops_leq); rfl; rfl; (first | assumption | rfl))
           | ((with_reducible apply ops_geq); rfl; rfl; (first | assumption | rfl))
           | ((with_reducible apply ops_eql); rfl; rfl; (first | assumption | rfl))
           | ((with_reducible apply ops_neq); rfl; rfl; (first | assumption | rfl))
           | ((with_reducible apply ops_min2); rfl; (first | assumption | rfl))
           | ((with_reducible apply ops_max2); rfl; (first | assumption | rfl))
           | ((with_reducible apply ops_iaddrN); rfl; rfl; omega; rfl)
           | ((with_reducible apply ops_iaddr); rfl; rfl; omega; omega; rfl; rfl)
           | ((with_reducible apply ops_load); rfl; exact rowAt_of (by first | assumption) (Nat.zero_le _) (Nat.zero_le _); rfl; rfl)
           | ((with_reducible apply arr_loadN); rfl; (first | assumption); assumption; assumption; (first | assumption | (apply ints_get; omega) | (apply nats_get; omega)); rfl)
           | ((with_reducible apply arr_storeN); rfl; rfl; (first | assumption); assumption; assumption; (first | assumption | (apply ints_get; omega) | (apply nats_get; omega)); rfl; rfl; rfl; rfl; rfl)
           | ((apply hsl.len; rfl))
           | ((apply hsl.at_; rfl; rfl; omega))
           | (((with_reducible apply ops_conv); rfl; omega; omega))
           | (((with_reducible apply ops_push0); rfl; rfl; (first | assumption | exact hT _ _)))
           | ((with_reducible apply ops_struct); rfl; rfl; (first | assumption); rfl; rfl; rfl; rfl; rfl; exact Nat.le_of_ble_eq_true rfl; rfl)
           | ((with_reducible apply ops_bslice1); rfl; rfl; rfl)
           | ((with_reducible apply ops_push); rfl; rfl; (first | assumption); (first | assumption); assumption; assumption; assumption; (first | rfl | assumption); omega; rfl)
           | ((with_reducible apply ops_cutN); rfl; rfl; omega)
           | exact ops_of rfl
         · (first | with_reducible exact free_empty | rw [allW_same] | rw [allW_set] | rw [allW_push]) <;> (repeat (first | with_reducible exact free_nil | with_reducible exact free_empty | ((with_reducible apply free_mask); rfl) | ((with_reducible apply free_ne); (focus (first | rfl | (simp [clash, meets, *]; done))))))
         · first | exact note_same | exact note_read | exact note_set | exact note_push
         · dsimp only [putV, List.set]; try rfl))
      have hi : i = a % n + 1 := by omega
      rw [hi] at hv hS hl
      exact hR ov vs S h _ _ _ _ _ _ _ _ _ _ _ _ _ _ _ _ _ _ _ _ _ _ _ _ _ _ _ _ _ _ _ _ _ _ _ _ _ _ _ _ _ _ _ _ _ _ _ _ _ _ _ _ _ _ _ _ _ _ _ _ _ _ _ _ _ _ _ _ _ _ _ _ _ _ _ _ _ _ _ _ _ _ _ _ _ _ _ _ _ _ _ _ _ _ _ _ _ _ _ _ _ _ _ _ _ _ _ _ _ _ _ _ _ _ _ _ _ _ _ _ _ hv hl hS hq ho
    | d + 1, hd =>
      have hc : decide ((i : Int) ≤ ((a % n : Nat) : Int)) = true := decide_eq_true (by omega)
      have e1 : (i : Int) + 1 = ((i + 1 : Nat) : Int) := by omega
      obtain ⟨v, v1, v2, v3, v4, hy⟩ := hv_next hv (by omega) (by omega)
      repeat (first
      | with_reducible apply q_seq
      | with_reducible apply q_reg
      | with_reducible apply q_draw
      | with_reducible apply q_ret
      | with_reducible apply q_skip
      | with_reducible apply q_exit
      | with_reducible apply q_block
      | with_reducible apply k_norm
      | with_reducible apply k_ret
      | with_reducible apply k_exit
      | with_reducible apply b_norm
      | with_reducible apply b_ret
      | with_reducible apply b_leave
      | ((with_reducible apply b_exit); decide)
      | with_reducible apply g_nil
      | with_reducible apply d_nil
      | ((with_reducible apply q_true); rfl)
      | ((with_reducible apply q_false); rfl)
      | ((with_reducible apply g_skip)
         · rfl
         · dsimp only [putV, List.set]; try rfl)
      | ((with_reducible apply d_skip)
         · rfl
         · dsimp only [putV, List.set]; try rfl)
      | ((with_reducible apply g_call)
         · rfl
         · rfl
         · rfl
         · exact hy
         · dsimp only [putV, List.set]; try rfl)
      | ((with_reducible apply d_first)
         · rfl
         · rfl
         · rfl
         · exact hy
         · dsimp only [putV, List.set]; try rfl)
      | ((with_reducible apply g_go)
         · rfl
         · first
           | ((with_reducible apply ops_add); rfl; rfl; (first | assumption | rfl); omega; omega)
           | ((with_reducible apply ops_sub); rfl; rfl; (first | assumption | rfl); omega; omega)
           | ((with_reducible apply ops_mul); rfl; rfl; (first | assumption | rfl); omega; omega)
           | ((with_reducible apply ops_quo); rfl; rfl; decide; (first | assumption | rfl); omega; omega)
           | ((with_reducible apply ops_rem); rfl; rfl; omega; (first | assumption | rfl))
           | ((with_reducible apply ops_lss); rfl; rfl; (first | assumption | rfl))
           | ((with_reducible apply ops_gtr); rfl; rfl; (first | assumption | rfl))
           | ((with_reducible apply ops_leq); rfl; rfl; (first | assumption | rfl))
           | ((with_reducible apply ops_geq); rfl; rfl; (first | assumption | rfl))
           | ((with_reducible apply ops_eql); rfl; rfl; (first | assumption | rfl))
           | ((with_reducible apply ops_neq); rfl; rfl; (first | assumption | rfl))
           | ((with_reducible apply ops_min2); rfl; (first | assumption | rfl))
           | ((with_reducible apply ops_max2); rfl; (first | assumption | rfl))
           | ((with_reducible apply ops_iaddrN); rfl; rfl; omega; rfl)
           | ((with_reducible apply ops_iaddr); rfl; rfl; omega; omega; rfl; rfl)
           | ((with_reducible apply ops_load); rfl; exact rowAt_of (by first | assumption) (Nat.zero_le _) (Nat.zero_le _); rfl; rfl)
           | ((with_reducible apply arr_loadN); rfl; (first | assumption); assumption; assumption; (first | assumption | (apply ints_get; omega) | (apply nats_get; omega)); rfl)
           | ((with_reducible apply arr_storeN); rfl; rfl; (first | assumption); assumption; assumption; (first | assumption | (apply ints_get; omega) | (apply nats_get; omega)); rfl; rfl; rfl; rfl; rfl)
           | ((apply hsl.len; rfl))
           | ((apply hsl.at_; rfl; rfl; omega))
           | (((with_reducible apply ops_conv); rfl; omega; omega))
           | (((with_reducible apply ops_push0); rfl; rfl; (first | assumption | exact hT _ _)))
           | ((with_reducible apply ops_struct); rfl; rfl; (first | assumption); rfl; rfl; rfl; rfl; rfl; exact Nat.le_of_ble_eq_true rfl; rfl)
           | ((with_reducible apply ops_bslice1); rfl; rfl; rfl)
           | ((with_reducible apply ops_push); rfl; rfl; (first | assumption); (first | assumption); assumption; assumption; assumption; (first | rfl | assumption); omega; rfl)
           | ((with_reducible apply ops_cutN); rfl; rfl; omega)
           | exact ops_of rfl
         · dsimp only [putV, List.set]; try rfl)
      | ((with_reducible apply d_go)
         · rfl
         · first
           | ((with_reducible apply ops_add); rfl; rfl; (first | assumption | rfl); omega; omega)
           | ((with_reducible apply ops_sub); rfl; rfl; (first | assumption | rfl); omega; omega)
           | ((with_reducible apply ops_mul); rfl; rfl; (first | assumption | rfl); omega; omega)
           | ((with_reducible apply ops_quo); rfl; rfl; decide; (first | assumption | rfl); omega; omega)
           | ((with_reducible apply ops_rem); rfl; rfl; omega; (first | assumption | rfl))
           | ((with_reducible apply ops_lss); rfl; rfl; (first | assumption | rfl))
           | ((with_reducible apply ops_gtr); rfl; rfl; (first | assumption | rfl))
           | ((with_reducible apply ops_leq); rfl; rfl; (first | assumption | rfl))
           | ((with_reducible apply ops_geq); rfl; rfl; (first | assumption | rfl))
           | ((with_reducible apply ops_eql); rfl; rfl; (first | assumption | rfl))
           | ((with_reducible apply ops_neq); rfl; rfl; (first | assumption | rfl))
           | ((with_reducible apply ops_min2); rfl; (first | assumption | rfl))
           | ((with_reducible apply ops_max2); rfl; (first | assumption | rfl))
           | ((with_reducible apply ops_iaddrN); rfl; rfl; omega; rfl)
           | ((with_reducible apply ops_iaddr); rfl; rfl; omega; omega; rfl; rfl)
           | ((with_reducible apply ops_load); rfl; exact rowAt_of (by first | assumption) (Nat.zero_le _) (Nat.zero_le _); rfl; rfl)
           | ((with_reducible apply arr_loadN); rfl; (first | assumption); assumption; assumption; (first | assumption | (apply ints_get; omega) | (apply nats_get; omega)); rfl)
           | ((with_reducible apply arr_storeN); rfl; rfl; (first | assumption); assumption; assumption; (first | assumption | (apply ints_get; omega) | (apply nats_get; omega)); rfl; rfl; rfl; rfl; rfl)
           | ((apply hsl.len; rfl))
           | ((apply hsl.at_; rfl; rfl; omega))
           | (((with_reducible apply ops_conv); rfl; omega; omega))
           | (((with_reducible apply ops_push0); rfl; rfl; (first | assumption | exact hT _ _)))
           | ((with_reducible apply ops_struct); rfl; rfl; (first | assumption); rfl; rfl; rfl; rfl; rfl; exact Nat.le_of_ble_eq_true rfl; rfl)
           | ((with_reducible apply ops_bslice1); rfl; rfl; rfl)
           | ((with_reducible apply ops_push); rfl; rfl; (first | assumption); (first | assumption); assumption; assumption; assumption; (first | rfl | assumption); omega; rfl)
           | ((with_reducible apply ops_cutN); rfl; rfl; omega)
           | exact ops_of rfl
         · (first | with_reducible exact free_empty | rw [allW_same] | rw [allW_set] | rw [allW_push]) <;> (repeat (first | with_reducible exact free_nil | with_reducible exact free_empty | ((with_reducible apply free_mask); rfl) | ((with_reducible apply free_ne); (focus (first | rfl | (simp [clash, meets, *]; done))))))
         · first | exact note_same | exact note_read | exact note_set | exact note_push
         · dsimp only [putV, List.set]; try rfl))
      intro r1 w1 h1 hD
      obtain ⟨d1, d2⟩ := hD
      have d1 : Hv h1 b bL bP bA n (n - (i + 1)) (upd S v false) F := by
        have : n - i - 1 = n - (i + 1) := by omega
        rw [← this]; exact d1
      have g1 := hv_has d1 (u := v) v1 v2
      have g2 : upd S v false v = false := by unfold upd; rw [if_pos rfl]
      rw [g2] at g1
      have hnx := hq.push (hl ▸ hS) v1 v2 v3 v4
      have ho1 := ho.frame d2 (by simp)
      have hT : ∀ (h : H) o, (h ++ [o])[h.length]? = some o := fun h o => by simp
      rcases ho1 with ⟨o1, o2⟩ | ⟨bO, o1, o2, o3⟩
      · subst o1 o2
        repeat (first
      | with_reducible apply q_seq
      | with_reducible apply q_reg
      | with_reducible apply q_draw
      | with_reducible apply q_ret
      | with_reducible apply q_skip
      | with_reducible apply q_exit
      | with_reducible apply q_block
      | with_reducible apply k_norm
      | with_reducible apply k_ret
      | with_reducible apply k_exit
      | with_reducible apply b_norm
      | with_reducible apply b_ret
      | with_reducible apply b_leave
      | ((with_reducible apply b_exit); decide)
      | with_reducible apply g_nil
      | with_reducible apply d_nil
      | ((with_reducible apply q_true); rfl)
      | ((with_reducible apply q_false); rfl)
      | ((with_reducible apply g_skip)
         · rfl
         · dsimp only [putV, List.set]; try rfl)
      | ((with_reducible apply d_skip)
         · rfl
         · dsimp only [putV, List.set]; try rfl)
      | ((with_reducible apply g_read)
         · rfl
         · rfl
         · rfl
         · exact g1
         · dsimp only [putV, List.set]; try rfl
         intro _)
      | ((with_reducible apply d_read)
         · rfl
         · rfl
         · rfl
         · exact g1
         · rfl
         · dsimp only [putV, List.set]; try rfl
         intro _ _)
      | ((with_reducible apply g_go)
         · rfl
         · first
           | ((with_reducible apply ops_add); rfl; rfl; (first | assumption | rfl); omega; omega)
           | ((with_reducible apply ops_sub); rfl; rfl; (first | assumption | rfl); omega; omega)
           | ((with_reducible apply ops_mul); rfl; rfl; (first | assumption | rfl); omega; omega)
           | ((with_reducible apply ops_quo); rfl; rfl; decide; (first | assumption | rfl); omega; omega)
           | ((with_reducible apply ops_rem); rfl; rfl; omega; (first | assumption | rfl))
           | ((with_reducible apply ops_lss); rfl; rfl; (first | assumption | rfl))
           | ((with_reducible apply ops_gtr); rfl; rfl; (first | assumption | rfl))
           | ((with_reducible apply ops_leq); rfl; rfl; (first | assumption | rfl))
           | ((with_reducible apply ops_geq); rfl; rfl; (first | assumption | rfl))
           | ((with_reducible apply ops_eql); rfl; rfl; (first | assumption | rfl))
           | ((with_reducible apply ops_neq); rfl; rfl; (first | assumption | rfl))
           | ((with_reducible apply ops_min2); rfl; (first | assumption | rfl))
           | ((with_reducible apply ops_max2); rfl; (first | assumption | rfl))
           | ((with_reducible apply ops_iaddrN); rfl; rfl; omega; rfl)
           | ((with_reducible apply ops_iaddr); rfl; rfl; omega; omega; rfl; rfl)
           | ((with_reducible apply ops_load); rfl; exact rowAt_of (by first | assumption) (Nat.zero_le _) (Nat.zero_le _); rfl; rfl)
           | ((with_reducible apply arr_loadN); rfl; (first | assumption); assumption; assumption; (first | assumption | (apply ints_get; omega) | (apply nats_get; omega)); rfl)
           | ((with_reducible apply arr_storeN); rfl; rfl; (first | assumption); assumption; assumption; (first | assumption | (apply ints_get; omega) | (apply nats_get; omega)); rfl; rfl; rfl; rfl; rfl)
           | ((apply hsl.len; rfl))
           | ((apply hsl.at_; rfl; rfl; omega))
           | (((with_reducible apply ops_conv); rfl; omega; omega))
           | (((with_reducible apply ops_push0); rfl; rfl; (first | assumption | exact hT _ _)))
           | ((with_reducible apply ops_struct); rfl; rfl; (first | assumption); rfl; rfl; rfl; rfl; rfl; exact Nat.le_of_ble_eq_true rfl; rfl)
           | ((with_reducible apply ops_bslice1); rfl; rfl; rfl)
           | ((with_reducible apply ops_push); rfl; rfl; (first | assumption); (first | assumption); assumption; assumption; assumption; (first | rfl | assumption); omega; rfl)
           | ((with_reducible apply ops_cutN); rfl; rfl; omega)
           | exact ops_of rfl
         · dsimp only [putV, List.set]; try rfl)
      | ((with_reducible apply d_go)
         · rfl
         · first
           | ((with_reducible apply ops_add); rfl; rfl; (first | assumption | rfl); omega; omega)
           | ((with_reducible apply ops_sub); rfl; rfl; (first | assumption | rfl); omega; omega)
           | ((with_reducible apply ops_mul); rfl; rfl; (first | assumption | rfl); omega; omega)
           | ((with_reducible apply ops_quo); rfl; rfl; decide; (first | assumption | rfl); omega; omega)
           | ((with_reducible apply ops_rem); rfl; rfl; omega; (first | assumption | rfl))
           | ((with_reducible apply ops_lss); rfl; rfl; (first | assumption | rfl))
           | ((with_reducible apply ops_gtr); rfl; rfl; (first | assumption | rfl))
           | ((with_reducible apply ops_leq); rfl; rfl; (first | assumption | rfl))
           | ((with_reducible apply ops_geq); rfl; rfl; (first | assumption | rfl))
           | ((with_reducible apply ops_eql); rfl; rfl; (first | assumption | rfl))
           | ((with_reducible apply ops_neq); rfl; rfl; (first | assumption | rfl))
           | ((with_reducible apply ops_min2); rfl; (first | assumption | rfl))
           | ((with_reducible apply ops_max2); rfl; (first | assumption | rfl))
           | ((with_reducible apply ops_iaddrN); rfl; rfl; omega; rfl)
           | ((with_reducible apply ops_iaddr); rfl; rfl; omega; omega; rfl; rfl)
           | ((with_reducible apply ops_load); rfl; exact rowAt_of (by first | assumption) (Nat.zero_le _) (Nat.zero_le _); rfl; rfl)
           | ((with_reducible apply arr_loadN); rfl; (first | assumption); assumption; assumption; (first | assumption | (apply ints_get; omega) | (apply nats_get; omega)); rfl)
           | ((with_reducible apply arr_storeN); rfl; rfl; (first | assumption); assumption; assumption; (first | assumption | (apply ints_get; omega) | (apply nats_get; omega)); rfl; rfl; rfl; rfl; rfl)
           | ((apply hsl.len; rfl))
           | ((apply hsl.at_; rfl; rfl; omega))
           | (((with_reducible apply ops_conv); rfl; omega; omega))
           | (((with_reducible apply ops_push0); rfl; rfl; (first | assumption | exact hT _ _)))
           | ((with_reducible apply ops_struct); rfl; rfl; (first | assumption); rfl; rfl; rfl; rfl; rfl; exact Nat.le_of_ble_eq_true rfl; rfl)
           | ((with_reducible apply ops_bslice1); rfl; rfl; rfl)
           | ((with_reducible apply ops_push); rfl; rfl; (first | assumption); (first | assumption); assumption; assumption; assumption; (first | rfl | assumption); omega; rfl)
           | ((with_reducible apply ops_cutN); rfl; rfl; omega)
           | exact ops_of rfl
         · (first | with_reducible exact free_empty | rw [allW_same] | rw [allW_set] | rw [allW_push]) <;> (repeat (first | with_reducible exact free_nil | with_reducible exact free_empty | ((with_reducible apply free_mask); rfl) | ((with_reducible apply free_ne); (focus (first | rfl | (simp [clash, meets, *]; done))))))
         · first | exact note_same | exact note_read | exact note_set | exact note_push
         · dsimp only [putV, List.set]; try rfl))
        obtain ⟨h2, hh2⟩ : ∃ h2, h2 = (h1 ++ [Ob.row ⟨1, [[V.int .i64 (v : Int)]], 0, 0⟩]) ++ [Ob.row ⟨1, [[V.int .i64 (v : Int)]], 0, 0⟩] := ⟨_, rfl⟩
        have k2 : Keeps h1 h2 [] := by rw [hh2]; exact Keeps.push.trans Keeps.push
        have d3 := d1.frame k2 (by simp) (by simp) (by simp) (by simp)
        obtain ⟨c1, c2, c3, c4⟩ : b < (h1 ++ [Ob.row ⟨1, [[V.int .i64 (v : Int)]], 0, 0⟩]).length ∧ bP < (h1 ++ [Ob.row ⟨1, [[V.int .i64 (v : Int)]], 0, 0⟩]).length ∧ bA < (h1 ++ [Ob.row ⟨1, [[V.int .i64 (v : Int)]], 0, 0⟩]).length ∧ bL < (h1 ++ [Ob.row ⟨1, [[V.int .i64 (v : Int)]], 0, 0⟩]).length := by
          obtain ⟨L, P, A, q1, q2, q3, _⟩ := d1
          obtain ⟨⟨lv, pv, av, p1, p2, p3, p4, p5⟩, _⟩ := q1
          have p1 := (List.getElem?_eq_some_iff.1 p1).1
          have p3 := p3.lt
          have p4 := p4.lt
          simp only [List.length_append, List.length_singleton]
          refine ⟨by omega, by omega, by omega, ?_⟩
          rcases p2 with ⟨_, _, p2⟩ | p2
          · have := q2.pl; omega
          · have := p2.lt; omega
        refine back_loop2 (bL := bL) (bP := bP) (bA := bA) hsl hn2 ha hn0 R d (i + 1) (.os (h1 ++ [Ob.row ⟨1, [[V.int .i64 (v : Int)]], 0, 0⟩]).length 0 1 0 1 false) [v] _ _ _ _ _ _ _ _ _ _ _ _ _ _ _ _ _ _ _ _ _ _ _ _ _ _ _ _ _ _ _ _ _ _ _ _ _ _ _ _ _ _ _ _ _ _ _ _ _ _ _ _ _ _ _ _ _ _ _ _ _ _ _ _ _ _ _ _ _ _ _ _ _ _ _ _ _ _ _ _ _ _ _ _ _ _ _ _ _ _ _ _ _ _ _ _ _ _ _ _ _ _ _ _ _ _ _ _ _ _ _ _ _ _ _ _ _ _ _ _ _ _ (by omega) (by simp at hl; simp; omega) (by rw [← hh2]; exact d3) ?_ hnx.1 (.inr ⟨(h1 ++ [Ob.row ⟨1, [[V.int .i64 (v : Int)]], 0, 0⟩]).length, by simp only [List.mem_cons, List.not_mem_nil, or_false]; omega, ⟨false, ⟨1, [[V.int .i64 (v : Int)]], 0, 0⟩, [], rfl, hT _ _, rfl, Nat.le_refl _, rfl⟩, rfl⟩) hR
        simp at hl; subst hl; exact hnx.2
      · obtain ⟨cO, rO, jO, eO, hO, sO, oO, lO⟩ := o2
        subst eO
        have o3 : cO = false := o3
        subst o3
        have lV := nats_len vs
        have Ol : bO < h1.length := (List.getElem?_eq_some_iff.1 hO).1
        have hO1 : ∀ o, (h1 ++ [o])[bO]? = some (.row rO) := fun o => by rw [List.getElem?_append_left Ol]; exact hO
        repeat (first
      | with_reducible apply q_seq
      | with_reducible apply q_reg
      | with_reducible apply q_draw
      | with_reducible apply q_ret
      | with_reducible apply q_skip
      | with_reducible apply q_exit
      | with_reducible apply q_block
      | with_reducible apply k_norm
      | with_reducible apply k_ret
      | with_reducible apply k_exit
      | with_reducible apply b_norm
      | with_reducible apply b_ret
      | with_reducible apply b_leave
      | ((with_reducible apply b_exit); decide)
      | with_reducible apply g_nil
      | with_reducible apply d_nil
      | ((with_reducible apply q_true); rfl)
      | ((with_reducible apply q_false); rfl)
      | ((with_reducible apply g_skip)
         · rfl
         · dsimp only [putV, List.set]; try rfl)
      | ((with_reducible apply d_skip)
         · rfl
         · dsimp only [putV, List.set]; try rfl)
      | ((with_reducible apply g_read)
         · rfl
         · rfl
         · rfl
         · exact g1
         · dsimp only [putV, List.set]; try rfl
         intro _)
      | ((with_reducible apply d_read)
         · rfl
         · rfl
         · rfl
         · exact g1
         · rfl
         · dsimp only [putV, List.set]; try rfl
         intro _ _)
      | ((with_reducible apply g_go)
         · rfl
         · first
           | ((with_reducible apply ops_add); rfl; rfl; (first | assumption | rfl); omega; omega)
           | ((with_reducible apply ops_sub); rfl; rfl; (first | assumption | rfl); omega; omega)
           | ((with_reducible apply ops_mul); rfl; rfl; (first | assumption | rfl); omega; omega)
           | ((with_reducible apply ops_quo); rfl; rfl; decide; (first | assumption | rfl); omega; omega)
           | ((with_reducible apply ops_rem); rfl; rfl; omega; (first | assumption | rfl))
           | ((with_reducible apply ops_lss); rfl; rfl; (first | assumption | rfl))
           | ((with_reducible apply ops_gtr); rfl; rfl; (first | assumption | rfl))
           | ((with_reducible apply ops_leq); rfl; rfl; (first | assumption | rfl))
           | ((with_reducible apply ops_geq); rfl; rfl; (first | assumption | rfl))
           | ((with_reducible apply ops_eql); rfl; rfl; (first | assumption | rfl))
           | ((with_reducible apply ops_neq); rfl; rfl; (first | assumption | rfl))
           | ((with_reducible apply ops_min2); rfl; (first | assumption | rfl))
           | ((with_reducible apply ops_max2); rfl; (first | assumption | rfl))
           | ((with_reducible apply ops_iaddrN); rfl; rfl; omega; rfl)
           | ((with_reducible apply ops_iaddr); rfl; rfl; omega; omega; rfl; rfl)
           | ((with_reducible apply ops_load); rfl; exact rowAt_of (by first | assumption | exact hT _ _ | exact hO1 _) (Nat.zero_le _) (Nat.zero_le _); rfl; rfl)
           | ((with_reducible apply arr_loadN); rfl; (first | assumption | exact hT _ _ | exact hO1 _); assumption; assumption; (first | assumption | (apply ints_get; omega) | (apply nats_get; omega)); rfl)
           | ((with_reducible apply arr_storeN); rfl; rfl; (first | assumption | exact hT _ _ | exact hO1 _); assumption; assumption; (first | assumption | (apply ints_get; omega) | (apply nats_get; omega)); rfl; rfl; rfl; rfl; rfl)
           | ((apply hsl.len; rfl))
           | ((apply hsl.at_; rfl; rfl; omega))
           | (((with_reducible apply ops_conv); rfl; omega; omega))
           | (((with_reducible apply ops_push0); rfl; rfl; (first | assumption | exact hT _ _)))
           | ((with_reducible apply ops_struct); rfl; rfl; (first | assumption | exact hT _ _ | exact hO1 _); rfl; rfl; rfl; rfl; rfl; exact Nat.le_of_ble_eq_true rfl; rfl)
           | ((with_reducible apply ops_bslice1); rfl; rfl; rfl)
           | ((with_reducible apply ops_push); rfl; rfl; (first | assumption | exact hT _ _ | exact hO1 _); (first | assumption | exact hT _ _ | exact hO1 _); assumption; assumption; assumption; (first | rfl | assumption); omega; rfl)
           | ((with_reducible apply ops_cutN); rfl; rfl; omega)
           | exact ops_of rfl
         · dsimp only [putV, List.set]; try rfl)
      | ((with_reducible apply d_go)
         · rfl
         · first
           | ((with_reducible apply ops_add); rfl; rfl; (first | assumption | rfl); omega; omega)
           | ((with_reducible apply ops_sub); rfl; rfl; (first | assumption | rfl); omega; omega)
           | ((with_reducible apply ops_mul); rfl; rfl; (first | assumption | rfl); omega; omega)
           | ((with_reducible apply ops_quo); rfl; rfl; decide; (first | assumption | rfl); omega; omega)
           | ((with_reducible apply ops_rem); rfl; rfl; omega; (first | assumption | rfl))
           | ((with_reducible apply ops_lss); rfl; rfl; (first | assumption | rfl))
           | ((with_reducible apply ops_gtr); rfl; rfl; (first | assumption | rfl))
           | ((with_reducible apply ops_leq); rfl; rfl; (first | assumption | rfl))
           | ((with_reducible apply ops_geq); rfl; rfl; (first | assumption | rfl))
           | ((with_reducible apply ops_eql); rfl; rfl; (first | assumption | rfl))
           | ((with_reducible apply ops_neq); rfl; rfl; (first | assumption | rfl))
           | ((with_reducible apply ops_min2); rfl; (first | assumption | rfl))
           | ((with_reducible apply ops_max2); rfl; (first | assumption | rfl))
           | ((with_reducible apply ops_iaddrN); rfl; rfl; omega; rfl)
           | ((with_reducible apply ops_iaddr); rfl; rfl; omega; omega; rfl; rfl)
           | ((with_reducible apply ops_load); rfl; exact rowAt_of (by first | assumption | exact hT _ _ | exact hO1 _) (Nat.zero_le _) (Nat.zero_le _); rfl; rfl)
           | ((with_reducible apply arr_loadN); rfl; (first | assumption | exact hT _ _ | exact hO1 _); assumption; assumption; (first | assumption | (apply ints_get; omega) | (apply nats_get; omega)); rfl)
           | ((with_reducible apply arr_storeN); rfl; rfl; (first | assumption | exact hT _ _ | exact hO1 _); assumption; assumption; (first | assumption | (apply ints_get; omega) | (apply nats_get; omega)); rfl; rfl; rfl; rfl; rfl)
           | ((apply hsl.len; rfl))
           | ((apply hsl.at_; rfl; rfl; omega))
           | (((with_reducible apply ops_conv); rfl; omega; omega))
           | (((with_reducible apply ops_push0); rfl; rfl; (first | assumption | exact hT _ _)))
           | ((with_reducible apply ops_struct); rfl; rfl; (first | assumption | exact hT _ _ | exact hO1 _); rfl; rfl; rfl; rfl; rfl; exact Nat.le_of_ble_eq_true rfl; rfl)
           | ((with_reducible apply ops_bslice1); rfl; rfl; rfl)
           | ((with_reducible apply ops_push); rfl; rfl; (first | assumption | exact hT _ _ | exact hO1 _); (first | assumption | exact hT _ _ | exact hO1 _); assumption; assumption; assumption; (first | rfl | assumption); omega; rfl)
           | ((with_reducible apply ops_cutN); rfl; rfl; omega)
           | exact ops_of rfl
         · (first | with_reducible exact free_empty | rw [allW_same] | rw [allW_set] | rw [allW_push]) <;> (repeat (first | with_reducible exact free_nil | with_reducible exact free_empty | ((with_reducible apply free_mask); rfl) | ((with_reducible apply free_ne); (focus (first | rfl | (simp [clash, meets, *]; done))))))
         · first | exact note_same | exact note_read | exact note_set | exact note_push
         · dsimp only [putV, List.set]; try rfl))
        obtain ⟨rd', hrd⟩ : ∃ rd', rd' = if 0 + (nats vs).length = rO.els.length then rO.rd else rO.cur + 1 := ⟨_, rfl⟩
        have hrd' : rd' ≤ rO.cur + 1 := by rw [hrd]; split <;> omega
        obtain ⟨h2, hh2⟩ : ∃ h2, h2 = (h1 ++ [Ob.row ⟨1, [[V.int .i64 (v : Int)]], 0, 0⟩]).set bO (.row ⟨1, nats vs ++ [[V.int .i64 (v : Int)]], rO.cur + 1, rd'⟩) := ⟨_, rfl⟩
        have k2 : Keeps h1 h2 [bO] := by rw [hh2]; exact Keeps.push.trans (Keeps.set (by simp))
        simp only [List.mem_cons, List.not_mem_nil, or_false, not_or] at o1
        have d3 := d1.frame k2 (by simp; omega) (by simp; omega) (by simp; omega) (by simp; omega)
        rw [← hrd]
        refine back_loop2 (bL := bL) (bP := bP) (bA := bA) hsl hn2 ha hn0 R d (i + 1) (.os bO (rO.cur + 1) 1 0 ((nats vs).length + 1) false) (vs ++ [v]) _ _ _ _ _ _ _ _ _ _ _ _ _ _ _ _ _ _ _ _ _ _ _ _ _ _ _ _ _ _ _ _ _ _ _ _ _ _ _ _ _ _ _ _ _ _ _ _ _ _ _ _ _ _ _ _ _ _ _ _ _ _ _ _ _ _ _ _ _ _ _ _ _ _ _ _ _ _ _ _ _ _ _ _ _ _ _ _ _ _ _ _ _ _ _ _ _ _ _ _ _ _ _ _ _ _ _ _ _ _ _ _ _ _ _ _ _ _ _ _ _ _ (by omega) (by simp [hl]) (by rw [← hh2]; exact d3) (by rw [← hl]; exact hnx.2) hnx.1 (.inr ⟨bO, by simp only [List.mem_cons, List.not_mem_nil, or_false, not_or]; exact o1, ⟨false, ⟨1, nats vs ++ [[V.int .i64 (v : Int)]], rO.cur + 1, rd'⟩, [], by rw [nats_len, nats_len]; simp, set_at (by simp; omega), rfl, hrd', by rw [nats_app, List.append_nil]⟩, rfl⟩) hR
theorem back_loop4 {F : Nat → Int} {x0 : V} {g : Nat → Int} {b bL bP bA a n : Nat} (hsl : Sl x0 n g) (hn2 : n ≤ 40) (ha : a < 256) {bO : Nat} {rO : Row} {jO : List (List V)} {vs : List Nat} (sO : rO.sz = 1) (oO : rO.rd ≤ rO.cur) (lO : rO.els = nats vs ++ jO) (m1 : bO ≠ b) (m2 : bO ≠ bL) (m3 : bO ≠ bP) (m4 : bO ≠ bA) (hq : Seq F n vs) (R : Ex → St → Prop) : ∀ (j : Nat) (z : Int) (S : Nat → Bool) (h : H) (r w : List Nat) (j2 j3 j4 j6 j7 j9 j10 j11 j13 j14 j15 j16 j17 j18 j19 j20 j21 j22 j23 j24 j25 j26 j27 j28 j29 j30 j31 j32 j33 j34 j35 j36 j37 j38 j39 j40 j41 j42 j43 j44 j45 j46 j47 j48 j49 j50 j51 j52 j53 j54 j55 j56 j57 j58 j59 j60 j61 j62 j63 j64 j65 j66 j67 j68 j69 j70 j71 j72 j73 j74 j75 j76 j77 j78 j79 j80 j81 j82 j83 j84 j85 j86 j87 j88 j89 j90 j91 j92 j93 j94 j95 j96 j97 j98 j99 j100 j101 j102 j103 j104 j105 j106 j107 j108 j109 j110 j111 j112 j113 j114 j115 j116 j117 j118 j119 j120 j121 j122 : V), z = (j : Int) - 1 → j ≤ vs.length → vs.length ≤ n → Hv h b bL bP bA n (n - j) S F → Lack n S vs j → h[bO]? = some (.row rO) →
    (∀ (S' : Nat → Bool) (h' : H) (r' w' : List Nat) (z' : Int) (k2 k3 k4 k6 k7 k9 k10 k11 k13 k14 k15 k16 k17 k18 k19 k20 k21 k22 k23 k24 k25 k26 k27 k28 k29 k30 k31 k32 k33 k34 k35 k36 k37 k38 k39 k40 k41 k42 k43 k44 k45 k46 k47 k48 k49 k50 k51 k52 k53 k54 k55 k56 k57 k58 k59 k60 k61 k62 k63 k64 k65 k66 k67 k68 k69 k70 k71 k72 k73 k74 k75 k76 k77 k78 k79 k80 k81 k82 k83 k84 k85 k86 k87 k88 k89 k90 k91 k92 k93 k94 k95 k96 k97 k98 k99 k100 k101 k102 k103 k104 k105 k106 k107 k108 k109 k110 k111 k112 k113 k114 k115 k116 k117 k118 k119 k120 k121 k122 : V), Hv h' b bL bP bA n n S' F → Lack n S' vs 0 → h'[bO]? = some (.row rO) → R (.exit 4) ⟨[x0, (.int .u8 (a : Nat)), k2, k3, k4, (.ptr b 0 0 0), k6, k7, (.os bO rO.cur 1 0 (nats vs).length false), k9, k10, k11, (.int .i64 z'), k13, k14, k15, k16, k17, k18, k19, k20, k21, k22, k23, k24, k25, k26, k27, k28, k29, k30, k31, k32, k33, k34, k35, k36, k37, k38, k39, k40, k41, k42, k43, k44, k45, k46, k47, k48, k49, k50, k51, k52, k53, k54, k55, k56, k57, k58, k59, k60, k61, k62, k63, k64, k65, k66, k67, k68, k69, k70, k71, k72, k73, k74, k75, k76, k77, k78, k79, k80, k81, k82, k83, k84, k85, k86, k87, k88, k89, k90, k91, k92, k93, k94, k95, k96, k97, k98, k99, k100, k101, k102, k103, k104, k105, k106, k107, k108, k109, k110, k111, k112, k113, k114, k115, k116, k117, k118, k119, k120, k121, k122], h', r', w'⟩) →
    RQ EH 0 bLoop4 ⟨[x0, (.int .u8 (a : Nat)), j2, j3, j4, (.ptr b 0 0 0), j6, j7, (.os bO rO.cur 1 0 (nats vs).length false), j9, j10, j11, (.int .i64 z), j13, j14, j15, j16, j17, j18, j19, j20, j21, j22, j23, j24, j25, j26, j27, j28, j29, j30, j31, j32, j33, j34, j35, j36, j37, j38, j39, j40, j41, j42, j43, j44, j45, j46, j47, j48, j49, j50, j51, j52, j53, j54, j55, j56, j57, j58, j59, j60, j61, j62, j63, j64, j65, j66, j67, j68, j69, j70, j71, j72, j73, j74, j75, j76, j77, j78, j79, j80, j81, j82, j83, j84, j85, j86, j87, j88, j89, j90, j91, j92, j93, j94, j95, j96, j97, j98, j99, j100, j101, j102, j103, j104, j105, j106, j107, j108, j109, j110, j111, j112, j113, j114, j115, j116, j117, j118, j119, j120, j121, j122], h, r, w⟩ R
  | 0, z, S, h, r, w, j2, j3, j4, j6, j7, j9, j10, j11, j13, j14, j15, j16, j17, j18, j19, j20, j21, j22, j23, j24, j25, j26, j27, j28, j29, j30, j31, j32, j33, j34, j35, j36, j37, j38, j39, j40, j41, j42, j43, j44, j45, j46, j47, j48, j49, j50, j51, j52, j53, j54, j55, j56, j57, j58, j59, j60, j61, j62, j63, j64, j65, j66, j67, j68, j69, j70, j71, j72, j73, j74, j75, j76, j77, j78, j79, j80, j81, j82, j83, j84, j85, j86, j87, j88, j89, j90, j91, j92, j93, j94, j95, j96, j97, j98, j99, j100, j101, j102, j103, j104, j105, j106, j107, j108, j109, j110, j111, j112, j113, j114, j115, j116, j117, j118, j119, j120, j121, j122, hz0, hj, hvn, hv, hS, hO, hR => by
    have hc : decide ((0 : Int) ≤ z) = false := decide_eq_false (by omega)
    unfold bLoop4
    apply q_loop
    repeat (first
      | with_reducible apply q_seq
      | with_reducible apply q_reg
      | with_reducible apply q_draw
      | with_reducible apply q_ret
      | with_reducible apply q_skip
      | with_reducible apply q_exit
      | with_reducible apply q_block
      | with_reducible apply k_norm
      | with_reducible apply k_ret
      | with_reducible apply k_exit
      | with_reducible apply b_norm
      | with_reducible apply b_ret
      | with_reducible apply b_leave
      | ((with_reducible apply b_exit); decide)
      | with_reducible apply g_nil
      | with_reducible apply d_nil
      | ((with_reducible apply q_true); rfl)
      | ((with_reducible apply q_false); rfl)
      | ((with_reducible apply g_skip)
         · rfl
         · dsimp only [putV, List.set]; try rfl)
      | ((with_reducible apply d_skip)
         · rfl
         · dsimp only [putV, List.set]; try rfl)
      | ((with_reducible apply g_go)
         · rfl
         · first
           | ((with_reducible apply ops_add); rfl; rfl; (first | assumption | rfl); omega; omega)
           | ((with_reducible apply ops_sub); rfl; rfl; (first | assumption | rfl); omega; omega)
           | ((with_reducible apply ops_mul); rfl; rfl; (first | assumption | rfl); omega; omega)
           | ((with_reducible apply ops_quo); rfl; rfl; decide; (first | assumption | rfl); omega; omega)
           | ((with_reducible apply ops_rem); rfl; rfl; omega; (first | assumption | rfl))
           | ((with_reducible apply ops_lss); rfl; rfl; (first | assumption | rfl))
           | ((with_reducible apply ops_gtr); rfl; rfl; (first | assumption | rfl))
           | ((with_reducible apply ops_leq); rfl; rfl; (first | assumption | rfl))
           | ((with_reducible apply ops_geq); rfl; rfl; (first | assumption | rfl))
           | ((with_reducible apply ops_eql); rfl; rfl; (first | assumption | rfl))
           | ((with_reducible apply ops_neq); rfl; rfl; (first | assumption | rfl))
           | ((with_reducible apply ops_min2); rfl; (first | assumption | rfl))
           | ((with_reducible apply ops_max2); rfl; (first | assumption | rfl))
           | ((with_reducible apply ops_iaddrN); rfl; rfl; omega; rfl)
           | ((with_reducible apply ops_iaddr); rfl; rfl; omega; omega; rfl; rfl)
           | ((with_reducible apply ops_load); rfl; exact rowAt_of (by first | assumption) (Nat.zero_le _) (Nat.zero_le _); rfl; rfl)
           | ((with_reducible apply arr_loadN); rfl; (first | assumption); assumption; assumption; (first | assumption | (apply ints_get; omega) | (apply nats_get; omega)); rfl)
           | ((with_reducible apply arr_storeN); rfl; rfl; (first | assumption); assumption; assumption; (first | assumption | (apply ints_get; omega) | (apply nats_get; omega)); rfl; rfl; rfl; rfl; rfl)
           | ((apply hsl.len; rfl))
           | ((apply hsl.at_; rfl; rfl; omega))
           | (((with_reducible apply ops_conv); rfl; omega; omega))
           | (((with_reducible apply ops_push0); rfl; rfl; (first | assumption | exact hT _ _)))
           | ((with_reducible apply ops_struct); rfl; rfl; (first | assumption); rfl; rfl; rfl; rfl; rfl; exact Nat.le_of_ble_eq_true rfl; rfl)
           | ((with_reducible apply ops_bslice1); rfl; rfl; rfl)
           | ((with_reducible apply ops_push); rfl; rfl; (first | assumption); (first | assumption); assumption; assumption; assumption; (first | rfl | assumption); omega; rfl)
           | ((with_reducible apply ops_cutN); rfl; rfl; omega)
           | exact ops_of rfl
         · dsimp only [putV, List.set]; try rfl)
      | ((with_reducible apply d_go)
         · rfl
         · first
           | ((with_reducible apply ops_add); rfl; rfl; (first | assumption | rfl); omega; omega)
           | ((with_reducible apply ops_sub); rfl; rfl; (first | assumption | rfl); omega; omega)
           | ((with_reducible apply ops_mul); rfl; rfl; (first | assumption | rfl); omega; omega)
           | ((with_reducible apply ops_quo); rfl; rfl; decide; (first | assumption | rfl); omega; omega)
           | ((with_reducible apply ops_rem); rfl; rfl; omega; (first | assumption | rfl))
           | ((with_reducible apply ops_lss); rfl; rfl; (first | assumption | rfl))
           | ((with_reducible apply ops_gtr); rfl; rfl; (first | assumption | rfl))
           | ((with_reducible apply ops_leq); rfl; rfl; (first | assumption | rfl))
           | ((with_reducible apply ops_geq); rfl; rfl; (first | assumption | rfl))
           | ((with_reducible apply ops_eql); rfl; rfl; (first | assumption | rfl))
           | ((with_reducible apply ops_neq); rfl; rfl; (first | assumption | rfl))
           | ((with_reducible apply ops_min2); rfl; (first | assumption | rfl))
           | ((with_reducible apply ops_max2); rfl; (first | assumption | rfl))
           | ((with_reducible apply ops_iaddrN); rfl; rfl; omega; rfl)
           | ((with_reducible apply ops_iaddr); rfl; rfl; omega; omega; rfl; rfl)
           | ((with_reducible apply ops_load); rfl; exact rowAt_of (by first | assumption) (Nat.zero_le _) (Nat.zero_le _); rfl; rfl)
           | ((with_reducible apply arr_loadN); rfl; (first | assumption); assumption; assumption; (first | assumption | (apply ints_get; omega) | (apply nats_get; omega)); rfl)
           | ((with_reducible apply arr_storeN); rfl; rfl; (first | assumption); assumption; assumption; (first | assumption | (apply ints_get; omega) | (apply nats_get; omega)); rfl; rfl; rfl; rfl; rfl)
           | ((apply hsl.len; rfl))
           | ((apply hsl.at_; rfl; rfl; omega))
           | (((with_reducible apply ops_conv); rfl; omega; omega))
           | (((with_reducible apply ops_push0); rfl; rfl; (first | assumption | exact hT _ _)))
           | ((with_reducible apply ops_struct); rfl; rfl; (first | assumption); rfl; rfl; rfl; rfl; rfl; exact Nat.le_of_ble_eq_true rfl; rfl)
           | ((with_reducible apply ops_bslice1); rfl; rfl; rfl)
           | ((with_reducible apply ops_push); rfl; rfl; (first | assumption); (first | assumption); assumption; assumption; assumption; (first | rfl | assumption); omega; rfl)
           | ((with_reducible apply ops_cutN); rfl; rfl; omega)
           | exact ops_of rfl
         · (first | with_reducible exact free_empty | rw [allW_same] | rw [allW_set] | rw [allW_push]) <;> (repeat (first | with_reducible exact free_nil | with_reducible exact free_empty | ((with_reducible apply free_mask); rfl) | ((with_reducible apply free_ne); (focus (first | rfl | (simp [clash, meets, *]; done))))))
         · first | exact note_same | exact note_read | exact note_set | exact note_push
         · dsimp only [putV, List.set]; try rfl))
    exact hR S h _ _ z _ _ _ _ _ _ _ _ _ _ _ _ _ _ _ _ _ _ _ _ _ _ _ _ _ _ _ _ _ _ _ _ _ _ _ _ _ _ _ _ _ _ _ _ _ _ _ _ _ _ _ _ _ _ _ _ _ _ _ _ _ _ _ _ _ _ _ _ _ _ _ _ _ _ _ _ _ _ _ _ _ _ _ _ _ _ _ _ _ _ _ _ _ _ _ _ _ _ _ _ _ _ _ _ _ _ _ _ _ _ _ _ _ _ _ _ _ _ hv hS hO
  | j + 1, z, S, h, r, w, j2, j3, j4, j6, j7, j9, j10, j11, j13, j14, j15, j16, j17, j18, j19, j20, j21, j22, j23, j24, j25, j26, j27, j28, j29, j30, j31, j32, j33, j34, j35, j36, j37, j38, j39, j40, j41, j42, j43, j44, j45, j46, j47, j48, j49, j50, j51, j52, j53, j54, j55, j56, j57, j58, j59, j60, j61, j62, j63, j64, j65, j66, j67, j68, j69, j70, j71, j72, j73, j74, j75, j76, j77, j78, j79, j80, j81, j82, j83, j84, j85, j86, j87, j88, j89, j90, j91, j92, j93, j94, j95, j96, j97, j98, j99, j100, j101, j102, j103, j104, j105, j106, j107, j108, j109, j110, j111, j112, j113, j114, j115, j116, j117, j118, j119, j120, j121, j122, hz0, hj, hvn, hv, hS, hO, hR => by
    obtain rfl : z = (j : Int) := by omega
    have hc : decide ((0 : Int) ≤ (j : Int)) = true := decide_eq_true (by omega)
    have lV := nats_len vs
    obtain ⟨q1, q2, q3, q4⟩ := hq j (by omega)
    have hSv : S (gN vs j) = false := by
      cases hs : S (gN vs j)
      · rfl
      · exact absurd rfl ((hS _ q1 q2).1 hs j (by omega))
    have hy := hv_put hv (by omega) q1 q2 hSv
    unfold bLoop4
    apply q_loop
    repeat (first
      | with_reducible apply q_seq
      | with_reducible apply q_reg
      | with_reducible apply q_draw
      | with_reducible apply q_ret
      | with_reducible apply q_skip
      | with_reducible apply q_exit
      | with_reducible apply q_block
      | with_reducible apply k_norm
      | with_reducible apply k_ret
      | with_reducible apply k_exit
      | with_reducible apply b_norm
      | with_reducible apply b_ret
      | with_reducible apply b_leave
      | ((with_reducible apply b_exit); decide)
      | with_reducible apply g_nil
      | with_reducible apply d_nil
      | ((with_reducible apply q_true); rfl)
      | ((with_reducible apply q_false); rfl)
      | ((with_reducible apply g_skip)
         · rfl
         · dsimp only [putV, List.set]; try rfl)
      | ((with_reducible apply d_skip)
         · rfl
         · dsimp only [putV, List.set]; try rfl)
      | ((with_reducible apply g_call)
         · rfl
         · rfl
         · rfl
         · exact hy
         · dsimp only [putV, List.set]; try rfl)
      | ((with_reducible apply d_first)
         · rfl
         · rfl
         · rfl
         · exact hy
         · dsimp only [putV, List.set]; try rfl)
      | ((with_reducible apply g_go)
         · rfl
         · first
           | ((with_reducible apply ops_add); rfl; rfl; (first | assumption | rfl); omega; omega)
           | ((with_reducible apply ops_sub); rfl; rfl; (first | assumption | rfl); omega; omega)
           | ((with_reducible apply ops_mul); rfl; rfl; (first | assumption | rfl); omega; omega)
           | ((with_reducible apply ops_quo); rfl; rfl; decide; (first | assumption | rfl); omega; omega)
           | ((with_reducible apply ops_rem); rfl; rfl; omega; (first | assumption | rfl))
           | ((with_reducible apply ops_lss); rfl; rfl; (first | assumption | rfl))
           | ((with_reducible apply ops_gtr); rfl; rfl; (first | assumption | rfl))
           | ((with_reducible apply ops_leq); rfl; rfl; (first | assumption | rfl))
           | ((with_reducible apply ops_geq); rfl; rfl; (first | assumption | rfl))
           | ((with_reducible apply ops_eql); rfl; rfl; (first | assumption | rfl))
           | ((with_reducible apply ops_neq); rfl; rfl; (first | assumption | rfl))
           | ((with_reducible apply ops_min2); rfl; (first | assumption | rfl))
           | ((with_reducible apply ops_max2); rfl; (first | assumption | rfl))
           | ((with_reducible apply ops_iaddrN); rfl; rfl; omega; rfl)
           | ((with_reducible apply ops_iaddr); rfl; rfl; omega; omega; rfl; rfl)
           | ((with_reducible apply ops_load); rfl; exact rowAt_of (by first | assumption) (Nat.zero_le _) (Nat.zero_le _); rfl; rfl)
           | ((with_reducible apply arr_loadN); rfl; (first | assumption); assumption; assumption; (first | assumption | (apply ints_get; omega) | (apply nats_get; omega)); rfl)
           | ((with_reducible apply arr_storeN); rfl; rfl; (first | assumption); assumption; assumption; (first | assumption | (apply ints_get; omega) | (apply nats_get; omega)); rfl; rfl; rfl; rfl; rfl)
           | ((apply hsl.len; rfl))
           | ((apply hsl.at_; rfl; rfl; omega))
           | (((with_reducible apply ops_conv); rfl; omega; omega))
           | (((with_reducible apply ops_push0); rfl; rfl; (first | assumption | exact hT _ _)))
           | ((with_reducible apply ops_struct); rfl; rfl; (first | assumption); rfl; rfl; rfl; rfl; rfl; exact Nat.le_of_ble_eq_true rfl; rfl)
           | ((with_reducible apply ops_bslice1); rfl; rfl; rfl)
           | ((with_reducible apply ops_push); rfl; rfl; (first | assumption); (first | assumption); assumption; assumption; assumption; (first | rfl | assumption); omega; rfl)
           | ((with_reducible apply ops_cutN); rfl; rfl; omega)
           | exact ops_of rfl
         · dsimp only [putV, List.set]; try rfl)
      | ((with_reducible apply d_go)
         · rfl
         · first
           | ((with_reducible apply ops_add); rfl; rfl; (first | assumption | rfl); omega; omega)
           | ((with_reducible apply ops_sub); rfl; rfl; (first | assumption | rfl); omega; omega)
           | ((with_reducible apply ops_mul); rfl; rfl; (first | assumption | rfl); omega; omega)
           | ((with_reducible apply ops_quo); rfl; rfl; decide; (first | assumption | rfl); omega; omega)
           | ((with_reducible apply ops_rem); rfl; rfl; omega; (first | assumption | rfl))
           | ((with_reducible apply ops_lss); rfl; rfl; (first | assumption | rfl))
           | ((with_reducible apply ops_gtr); rfl; rfl; (first | assumption | rfl))
           | ((with_reducible apply ops_leq); rfl; rfl; (first | assumption | rfl))
           | ((with_reducible apply ops_geq); rfl; rfl; (first | assumption | rfl))
           | ((with_reducible apply ops_eql); rfl; rfl; (first | assumption | rfl))
           | ((with_reducible apply ops_neq); rfl; rfl; (first | assumption | rfl))
           | ((with_reducible apply ops_min2); rfl; (first | assumption | rfl))
           | ((with_reducible apply ops_max2); rfl; (first | assumption | rfl))
           | ((with_reducible apply ops_iaddrN); rfl; rfl; omega; rfl)
           | ((with_reducible apply ops_iaddr); rfl; rfl; omega; omega; rfl; rfl)
           | ((with_reducible apply ops_load); rfl; exact rowAt_of (by first | assumption) (Nat.zero_le _) (Nat.zero_le _); rfl; rfl)
           | ((with_reducible apply arr_loadN); rfl; (first | assumption); assumption; assumption; (first | assumption | (apply ints_get; omega) | (apply nats_get; omega)); rfl)
           | ((with_reducible apply arr_storeN); rfl; rfl; (first | assumption); assumption; assumption; (first | assumption | (apply ints_get; omega) | (apply nats_get; omega)); rfl; rfl; rfl; rfl; rfl)
           | ((apply hsl.len; rfl))
           | ((apply hsl.at_; rfl; rfl; omega))
           | (((with_reducible apply ops_conv); rfl; omega; omega))
           | (((with_reducible apply ops_push0); rfl; rfl; (first | assumption | exact hT _ _)))
           | ((with_reducible apply ops_struct); rfl; rfl; (first | assumption); rfl; rfl; rfl; rfl; rfl; exact Nat.le_of_ble_eq_true rfl; rfl)
           | ((with_reducible apply ops_bslice1); rfl; rfl; rfl)
           | ((with_reducible apply ops_push); rfl; rfl; (first | assumption); (first | assumption); assumption; assumption; assumption; (first | rfl | assumption); omega; rfl)
           | ((with_reducible apply ops_cutN); rfl; rfl; omega)
           | exact ops_of rfl
         · (first | with_reducible exact free_empty | rw [allW_same] | rw [allW_set] | rw [allW_push]) <;> (repeat (first | with_reducible exact free_nil | with_reducible exact free_empty | ((with_reducible apply free_mask); rfl) | ((with_reducible apply free_ne); (focus (first | rfl | (simp [clash, meets, *]; done))))))
         · first | exact note_same | exact note_read | exact note_set | exact note_push
         · dsimp only [putV, List.set]; try rfl))
    intro r1 w1 h1 hD
    obtain ⟨d1, d2⟩ := hD
    have d1 : Hv h1 b bL bP bA n (n - j) (upd S (gN vs j) true) F := by
      have : n - (j + 1) + 1 = n - j := by omega
      rw [← this]; exact d1
    have hO1 : h1[bO]? = some (.row rO) := by
      rw [d2.2 bO (List.getElem?_eq_some_iff.1 hO).1 (by simp [m1, m2, m3])]; exact hO
    have hz := hv_put_no d1 (v := ((gN vs j : Nat) : Int)) (.inr ⟨gN vs j, rfl, q1, q2, by unfold upd; rw [if_pos rfl]⟩)
    repeat (first
      | with_reducible apply q_seq
      | with_reducible apply q_reg
      | with_reducible apply q_draw
      | with_reducible apply q_ret
      | with_reducible apply q_skip
      | with_reducible apply q_exit
      | with_reducible apply q_block
      | with_reducible apply k_norm
      | with_reducible apply k_ret
      | with_reducible apply k_exit
      | with_reducible apply b_norm
      | with_reducible apply b_ret
      | with_reducible apply b_leave
      | ((with_reducible apply b_exit); decide)
      | with_reducible apply g_nil
      | with_reducible apply d_nil
      | ((with_reducible apply q_true); rfl)
      | ((with_reducible apply q_false); rfl)
      | ((with_reducible apply g_skip)
         · rfl
         · dsimp only [putV, List.set]; try rfl)
      | ((with_reducible apply d_skip)
         · rfl
         · dsimp only [putV, List.set]; try rfl)
      | ((with_reducible apply g_read)
         · rfl
         · rfl
         · rfl
         · exact hz
         · dsimp only [putV, List.set]; try rfl
         intro _)
      | ((with_reducible apply d_read)
         · rfl
         · rfl
         · rfl
         · exact hz
         · rfl
         · dsimp only [putV, List.set]; try rfl
         intro _ _)
      | ((with_reducible apply g_go)
         · rfl
         · first
           | ((with_reducible apply ops_add); rfl; rfl; (first | assumption | rfl); omega; omega)
           | ((with_reducible apply ops_sub); rfl; rfl; (first | assumption | rfl); omega; omega)
           | ((with_reducible apply ops_mul); rfl; rfl; (first | assumption | rfl); omega; omega)
           | ((with_reducible apply ops_quo); rfl; rfl; decide; (first | assumption | rfl); omega; omega)
           | ((with_reducible apply ops_rem); rfl; rfl; omega; (first | assumption | rfl))
           | ((with_reducible apply ops_lss); rfl; rfl; (first | assumption | rfl))
           | ((with_reducible apply ops_gtr); rfl; rfl; (first | assumption | rfl))
           | ((with_reducible apply ops_leq); rfl; rfl; (first | assumption | rfl))
           | ((with_reducible apply ops_geq); rfl; rfl; (first | assumption | rfl))
           | ((with_reducible apply ops_eql); rfl; rfl; (first | assumption | rfl))
           | ((with_reducible apply ops_neq); rfl; rfl; (first | assumption | rfl))
           | ((with_reducible apply ops_min2); rfl; (first | assumption | rfl))
           | ((with_reducible apply ops_max2); rfl; (first | assumption | rfl))
           | ((with_reducible apply ops_iaddrN); rfl; rfl; omega; rfl)
           | ((with_reducible apply ops_iaddr); rfl; rfl; omega; omega; rfl; rfl)
           | ((with_reducible apply ops_load); rfl; exact rowAt_of (by first | assumption) (Nat.zero_le _) (Nat.zero_le _); rfl; rfl)
           | ((with_reducible apply arr_loadN); rfl; (first | assumption); assumption; assumption; (first | assumption | (apply ints_get; omega) | (apply nats_get; omega)); rfl)
           | ((with_reducible apply arr_storeN); rfl; rfl; (first | assumption); assumption; assumption; (first | assumption | (apply ints_get; omega) | (apply nats_get; omega)); rfl; rfl; rfl; rfl; rfl)
           | ((apply hsl.len; rfl))
           | ((apply hsl.at_; rfl; rfl; omega))
           | (((with_reducible apply ops_conv); rfl; omega; omega))
           | (((with_reducible apply ops_push0); rfl; rfl; (first | assumption | exact hT _ _)))
           | ((with_reducible apply ops_struct); rfl; rfl; (first | assumption); rfl; rfl; rfl; rfl; rfl; exact Nat.le_of_ble_eq_true rfl; rfl)
           | ((with_reducible apply ops_bslice1); rfl; rfl; rfl)
           | ((with_reducible apply ops_push); rfl; rfl; (first | assumption); (first | assumption); assumption; assumption; assumption; (first | rfl | assumption); omega; rfl)
           | ((with_reducible apply ops_cutN); rfl; rfl; omega)
           | exact ops_of rfl
         · dsimp only [putV, List.set]; try rfl)
      | ((with_reducible apply d_go)
         · rfl
         · first
           | ((with_reducible apply ops_add); rfl; rfl; (first | assumption | rfl); omega; omega)
           | ((with_reducible apply ops_sub); rfl; rfl; (first | assumption | rfl); omega; omega)
           | ((with_reducible apply ops_mul); rfl; rfl; (first | assumption | rfl); omega; omega)
           | ((with_reducible apply ops_quo); rfl; rfl; decide; (first | assumption | rfl); omega; omega)
           | ((with_reducible apply ops_rem); rfl; rfl; omega; (first | assumption | rfl))
           | ((with_reducible apply ops_lss); rfl; rfl; (first | assumption | rfl))
           | ((with_reducible apply ops_gtr); rfl; rfl; (first | assumption | rfl))
           | ((with_reducible apply ops_leq); rfl; rfl; (first | assumption | rfl))
           | ((with_reducible apply ops_geq); rfl; rfl; (first | assumption | rfl))
           | ((with_reducible apply ops_eql); rfl; rfl; (first | assumption | rfl))
           | ((with_reducible apply ops_neq); rfl; rfl; (first | assumption | rfl))
           | ((with_reducible apply ops_min2); rfl; (first | assumption | rfl))
           | ((with_reducible apply ops_max2); rfl; (first | assumption | rfl))
           | ((with_reducible apply ops_iaddrN); rfl; rfl; omega; rfl)
           | ((with_reducible apply ops_iaddr); rfl; rfl; omega; omega; rfl; rfl)
           | ((with_reducible apply ops_load); rfl; exact rowAt_of (by first | assumption) (Nat.zero_le _) (Nat.zero_le _); rfl; rfl)
           | ((with_reducible apply arr_loadN); rfl; (first | assumption); assumption; assumption; (first | assumption | (apply ints_get; omega) | (apply nats_get; omega)); rfl)
           | ((with_reducible apply arr_storeN); rfl; rfl; (first | assumption); assumption; assumption; (first | assumption | (apply ints_get; omega) | (apply nats_get; omega)); rfl; rfl; rfl; rfl; rfl)
           | ((apply hsl.len; rfl))
           | ((apply hsl.at_; rfl; rfl; omega))
           | (((with_reducible apply ops_conv); rfl; omega; omega))
           | (((with_reducible apply ops_push0); rfl; rfl; (first | assumption | exact hT _ _)))
           | ((with_reducible apply ops_struct); rfl; rfl; (first | assumption); rfl; rfl; rfl; rfl; rfl; exact Nat.le_of_ble_eq_true rfl; rfl)
           | ((with_reducible apply ops_bslice1); rfl; rfl; rfl)
           | ((with_reducible apply ops_push); rfl; rfl; (first | assumption); (first | assumption); assumption; assumption; assumption; (first | rfl | assumption); omega; rfl)
           | ((with_reducible apply ops_cutN); rfl; rfl; omega)
           | exact ops_of rfl
         · (first | with_reducible exact free_empty | rw [allW_same] | rw [allW_set] | rw [allW_push]) <;> (repeat (first | with_reducible exact free_nil | with_reducible exact free_empty | ((with_reducible apply free_mask); rfl) | ((with_reducible apply free_ne); (focus (first | rfl | (simp [clash, meets, *]; done))))))
         · first | exact note_same | exact note_read | exact note_set | exact note_push
         · dsimp only [putV, List.set]; try rfl))
    refine back_loop4 (bL := bL) (bP := bP) (bA := bA) hsl hn2 ha sO oO lO m1 m2 m3 m4 hq R j _ _ h1 _ _ _ _ _ _ _ _ _ _ _ _ _ _ _ _ _ _ _ _ _ _ _ _ _ _ _ _ _ _ _ _ _ _ _ _ _ _ _ _ _ _ _ _ _ _ _ _ _ _ _ _ _ _ _ _ _ _ _ _ _ _ _ _ _ _ _ _ _ _ _ _ _ _ _ _ _ _ _ _ _ _ _ _ _ _ _ _ _ _ _ _ _ _ _ _ _ _ _ _ _ _ _ _ _ _ _ _ _ _ _ _ _ _ _ _ _ _ _ _ rfl (by omega) hvn d1 ?_ hO1 hR
    intro u hu1 hu2
    unfold upd
    by_cases hu : u = gN vs j
    · rw [if_pos hu]
      constructor
      · intro _ i hi; rw [hu]; exact q3 i hi
      · intro _; rfl
    · rw [if_neg hu, hS u hu1 hu2]
      constructor
      · intro hh i hi; exact hh i (by omega)
      · intro hh i hi
        by_cases he : i = j
        · rw [he]; exact fun e => hu e.symm
        · exact hh i (by omega)
theorem back_loop6 {F : Nat → Int} {x0 : V} {g : Nat → Int} {b bL bP bA a n : Nat} (hsl : Sl x0 n g) (hn2 : n ≤ 40) (ha : a < 256) {bO : Nat} {rO : Row} {jO : List (List V)} {vs : List Nat} (sO : rO.sz = 1) (oO : rO.rd ≤ rO.cur) (lO : rO.els = nats vs ++ jO) (m1 : bO ≠ b) (m2 : bO ≠ bL) (m3 : bO ≠ bP) (m4 : bO ≠ bA) (hq : Seq F n vs) (R : Ex → St → Prop) : ∀ (d i : Nat) (S : Nat → Bool) (h : H) (r w : List Nat) (j2 j3 j4 j6 j7 j9 j10 j11 j12 j14 j15 j16 j17 j18 j19 j20 j21 j22 j23 j24 j25 j26 j27 j28 j29 j30 j31 j32 j33 j34 j35 j36 j37 j38 j39 j40 j41 j42 j43 j44 j45 j46 j47 j48 j49 j50 j51 j52 j53 j54 j55 j56 j57 j58 j59 j60 j61 j62 j63 j64 j65 j66 j67 j68 j69 j70 j71 j72 j73 j74 j75 j76 j77 j78 j79 j80 j81 j82 j83 j84 j85 j86 j87 j88 j89 j90 j91 j92 j93 j94 j95 j96 j97 j98 j99 j100 j101 j102 j103 j104 j105 j106 j107 j108 j109 j110 j111 j112 j113 j114 j115 j116 j117 j118 j119 j120 j121 j122 : V), vs.length = i + d → vs.length ≤ n → Hv h b bL bP bA n (n - i) S F → Lack n S vs i → h[bO]? = some (.row rO) →
    (∀ (S' : Nat → Bool) (h' : H) (r' w' : List Nat) (z : V) (k2 k3 k4 k6 k7 k9 k10 k11 k12 k14 k15 k16 k17 k18 k19 k20 k21 k22 k23 k24 k25 k26 k27 k28 k29 k30 k31 k32 k33 k34 k35 k36 k37 k38 k39 k40 k41 k42 k43 k44 k45 k46 k47 k48 k49 k50 k51 k52 k53 k54 k55 k56 k57 k58 k59 k60 k61 k62 k63 k64 k65 k66 k67 k68 k69 k70 k71 k72 k73 k74 k75 k76 k77 k78 k79 k80 k81 k82 k83 k84 k85 k86 k87 k88 k89 k90 k91 k92 k93 k94 k95 k96 k97 k98 k99 k100 k101 k102 k103 k104 k105 k106 k107 k108 k109 k110 k111 k112 k113 k114 k115 k116 k117 k118 k119 k120 k121 k122 : V), Hv h' b bL bP bA n (n - vs.length) S' F → R (.exit 6) ⟨[x0, (.int .u8 (a : Nat)), k2, k3, k4, (.ptr b 0 0 0), k6, k7, (.os bO rO.cur 1 0 (nats vs).length false), k9, k10, k11, k12, z, k14, k15, k16, k17, k18, k19, k20, k21, k22, k23, k24, k25, k26, k27, k28, k29, k30, k31, k32, k33, k34, k35, k36, k37, k38, k39, k40, k41, k42, k43, k44, k45, k46, k47, k48, k49, k50, k51, k52, k53, k54, k55, k56, k57, k58, k59, k60, k61, k62, k63, k64, k65, k66, k67, k68, k69, k70, k71, k72, k73, k74, k75, k76, k77, k78, k79, k80, k81, k82, k83, k84, k85, k86, k87, k88, k89, k90, k91, k92, k93, k94, k95, k96, k97, k98, k99, k100, k101, k102, k103, k104, k105, k106, k107, k108, k109, k110, k111, k112, k113, k114, k115, k116, k117, k118, k119, k120, k121, k122], h', r', w'⟩) →
    RQ EH 0 bLoop6 ⟨[x0, (.int .u8 (a : Nat)), j2, j3, j4, (.ptr b 0 0 0), j6, j7, (.os bO rO.cur 1 0 (nats vs).length false), j9, j10, j11, j12, (.int .i64 (i : Nat)), j14, j15, j16, j17, j18, j19, j20, j21, j22, j23, j24, j25, j26, j27, j28, j29, j30, j31, j32, j33, j34, j35, j36, j37, j38, j39, j40, j41, j42, j43, j44, j45, j46, j47, j48, j49, j50, j51, j52, j53, j54, j55, j56, j57, j58, j59, j60, j61, j62, j63, j64, j65, j66, j67, j68, j69, j70, j71, j72, j73, j74, j75, j76, j77, j78, j79, j80, j81, j82, j83, j84, j85, j86, j87, j88, j89, j90, j91, j92, j93, j94, j95, j96, j97, j98, j99, j100, j101, j102, j103, j104, j105, j106, j107, j108, j109, j110, j111, j112, j113, j114, j115, j116, j117, j118, j119, j120, j121, j122], h, r, w⟩ R
  | d, i, S, h, r, w, j2, j3, j4, j6, j7, j9, j10, j11, j12, j14, j15, j16, j17, j18, j19, j20, j21, j22, j23, j24, j25, j26, j27, j28, j29, j30, j31, j32, j33, j34, j35, j36, j37, j38, j39, j40, j41, j42, j43, j44, j45, j46, j47, j48, j49, j50, j51, j52, j53, j54, j55, j56, j57, j58, j59, j60, j61, j62, j63, j64, j65, j66, j67, j68, j69, j70, j71, j72, j73, j74, j75, j76, j77, j78, j79, j80, j81, j82, j83, j84, j85, j86, j87, j88, j89, j90, j91, j92, j93, j94, j95, j96, j97, j98, j99, j100, j101, j102, j103, j104, j105, j106, j107, j108, j109, j110, j111, j112, j113, j114, j115, j116, j117, j118, j119, j120, j121, j122, hd, hvn, hv, hS, hO, hR => by
    have lV := nats_len vs
    unfold bLoop6
    apply q_loop
    match d, hd with
    | 0, hd =>
      have hc : decide ((i : Int) < ((nats vs).length : Int)) = false := decide_eq_false (by omega)
      repeat (first
      | with_reducible apply q_seq
      | with_reducible apply q_reg
      | with_reducible apply q_draw
      | with_reducible apply q_ret
      | with_reducible apply q_skip
      | with_reducible apply q_exit
      | with_reducible apply q_block
      | with_reducible apply k_norm
      | with_reducible apply k_ret
      | with_reducible apply k_exit
      | with_reducible apply b_norm
      | with_reducible apply b_ret
      | with_reducible apply b_leave
      | ((with_reducible apply b_exit); decide)
      | with_reducible apply g_nil
      | with_reducible apply d_nil
      | ((with_reducible apply q_true); rfl)
      | ((with_reducible apply q_false); rfl)
      | ((with_reducible apply g_skip)
         · rfl
         · dsimp only [putV, List.set]; try rfl)
      | ((with_reducible apply d_skip)
         · rfl
         · dsimp only [putV, List.set]; try rfl)
      | ((with_reducible apply g_go)
         · rfl
         · first
           | ((with_reducible apply ops_add); rfl; rfl; (first | assumption | rfl); omega; omega)
           | ((with_reducible apply ops_sub); rfl; rfl; (first | assumption | rfl); omega; omega)
           | ((with_reducible apply ops_mul); rfl; rfl; (first | assumption | rfl); omega; omega)
           | ((with_reducible apply ops_quo); rfl; rfl; decide; (first | assumption | rfl); omega; omega)
           | ((with_reducible apply ops_rem); rfl; rfl; omega; (first | assumption | rfl))
           | ((with_reducible apply ops_lss); rfl; rfl; (first | assumption | rfl))
           | ((with_reducible apply ops_gtr); rfl; rfl; (first | assumption | rfl))
           | ((with_reducible apply ops_leq); rfl; rfl; (first | assumption | rfl))
           | ((with_reducible apply ops_geq); rfl; rfl; (first | assumption | rfl))
           | ((with_reducible apply ops_eql); rfl; rfl; (first | assumption | rfl))
           | ((with_reducible apply ops_neq); rfl; rfl; (first | assumption | rfl))
           | ((with_reducible apply ops_min2); rfl; (first | assumption | rfl))
           | ((with_reducible apply ops_max2); rfl; (first | assumption | rfl))
           | ((with_reducible apply ops_iaddrN); rfl; rfl; omega; rfl)
           | ((with_reducible apply ops_iaddr); rfl; rfl; omega; omega; rfl; rfl)
           | ((with_reducible apply ops_load); rfl; exact rowAt_of (by first | assumption) (Nat.zero_le _) (Nat.zero_le _); rfl; rfl)
           | ((with_reducible apply arr_loadN); rfl; (first | assumption); assumption; assumption; (first | assumption | (apply ints_get; omega) | (apply nats_get; omega)); rfl)
           | ((with_reducible apply arr_storeN); rfl; rfl; (first | assumption); assumption; assumption; (first | assumption | (apply ints_get; omega) | (apply nats_get; omega)); rfl; rfl; rfl; rfl; rfl)
           | ((apply hsl.len; rfl))
           | ((apply hsl.at_; rfl; rfl; omega))
           | (((with_reducible apply ops_conv); rfl; omega; omega))
           | (((with_reducible apply ops_push0); rfl; rfl; (first | assumption | exact hT _ _)))
           | ((with_reducible apply ops_struct); rfl; rfl; (first | assumption); rfl; rfl; rfl; rfl; rfl; exact Nat.le_of_ble_eq_true rfl; rfl)
           | ((with_reducible apply ops_bslice1); rfl; rfl; rfl)
           | ((with_reducible apply ops_push); rfl; rfl; (first | assumption); (first | assumption); assumption; assumption; assumption; (first | rfl | assumption); omega; rfl)
           | ((with_reducible apply ops_cutN); rfl; rfl; omega)
           | exact ops_of rfl
         · dsimp only [putV, List.set]; try rfl)
      | ((with_reducible apply d_go)
         · rfl
         · first
           | ((with_reducible apply ops_add); rfl; rfl; (first | assumption | rfl); omega; omega)
           | ((with_reducible apply ops_sub); rfl; rfl; (first | assumption | rfl); omega; omega)
           | ((with_reducible apply ops_mul); rfl; rfl; (first | assumption | rfl); omega; omega)
           | ((with_reducible apply ops_quo); rfl; rfl; decide; (first | assumption | rfl); omega; omega)
           | ((with_reducible apply ops_rem); rfl; rfl; omega; (first | assumption | rfl))
           | ((with_reducible apply ops_lss); rfl; rfl; (first | assumption | rfl))
           | ((with_reducible apply ops_gtr); rfl; rfl; (first | assumption | rfl))
           | ((with_reducible apply ops_leq); rfl; rfl; (first | assumption | rfl))
           | ((with_reducible apply ops_geq); rfl; rfl; (first | assumption | rfl))
           | ((with_reducible apply ops_eql); rfl; rfl; (first | assumption | rfl))
           | ((with_reducible apply ops_neq); rfl; rfl; (first | assumption | rfl))
           | ((with_reducible apply ops_min2); rfl; (first | assumption | rfl))
           | ((with_reducible apply ops_max2); rfl; (first | assumption | rfl))
           | ((with_reducible apply ops_iaddrN); rfl; rfl; omega; rfl)
           | ((with_reducible apply ops_iaddr); rfl; rfl; omega; omega; rfl; rfl)
           | ((with_reducible apply ops_load); rfl; exact rowAt_of (by first | assumption) (Nat.zero_le _) (Nat.zero_le _); rfl; rfl)
           | ((with_reducible apply arr_loadN); rfl; (first | assumption); assumption; assumption; (first | assumption | (apply ints_get; omega) | (apply nats_get; omega)); rfl)
           | ((with_reducible apply arr_storeN); rfl; rfl; (first | assumption); assumption; assumption; (first | assumption | (apply ints_get; omega) | (apply nats_get; omega)); rfl; rfl; rfl; rfl; rfl)
           | ((apply hsl.len; rfl))
           | ((apply hsl.at_; rfl; rfl; omega))
           | (((with_reducible apply ops_conv); rfl; omega; omega))
           | (((with_reducible apply ops_push0); rfl; rfl; (first | assumption | exact hT _ _)))
           | ((with_reducible apply ops_struct); rfl; rfl; (first | assumption); rfl; rfl; rfl; rfl; rfl; exact Nat.le_of_ble_eq_true rfl; rfl)
           | ((with_reducible apply ops_bslice1); rfl; rfl; rfl)
           | ((with_reducible apply ops_push); rfl; rfl; (first | assumption); (first | assumption); assumption; assumption; assumption; (first | rfl | assumption); omega; rfl)
           | ((with_reducible apply ops_cutN); rfl; rfl; omega)
           | exact ops_of rfl
         · (first | with_reducible exact free_empty | rw [allW_same] | rw [allW_set] | rw [allW_push]) <;> (repeat (first | with_reducible exact free_nil | with_reducible exact free_empty | ((with_reducible apply free_mask); rfl) | ((with_reducible apply free_ne); (focus (first | rfl | (simp [clash, meets, *]; done))))))
         · first | exact note_same | exact note_read | exact note_set | exact note_push
         · dsimp only [putV, List.set]; try rfl))
      have : i = vs.length := by omega
      subst this
      exact hR S h _ _ _ _ _ _ _ _ _ _ _ _ _ _ _ _ _ _ _ _ _ _ _ _ _ _ _ _ _ _ _ _ _ _ _ _ _ _ _ _ _ _ _ _ _ _ _ _ _ _ _ _ _ _ _ _ _ _ _ _ _ _ _ _ _ _ _ _ _ _ _ _ _ _ _ _ _ _ _ _ _ _ _ _ _ _ _ _ _ _ _ _ _ _ _ _ _ _ _ _ _ _ _ _ _ _ _ _ _ _ _ _ _ _ _ _ _ _ _ _ _ hv
    | d + 1, hd =>
      have hc : decide ((i : Int) < ((nats vs).length : Int)) = true := decide_eq_true (by omega)
      have e1 : (i : Int) + 1 = ((i + 1 : Nat) : Int) := by omega
      obtain ⟨q1, q2, q3, q4⟩ := hq i (by omega)
      obtain ⟨v, v1, v2, v3, v4, hy⟩ := hv_next hv (by omega) (by omega)
      have hvv : v = gN vs i := by
        have n1 := q4 v v1 v2 ((hS v v1 v2).1 v3)
        have n2 := v4 (gN vs i) q1 q2 ((hS _ q1 q2).2 q3)
        by_cases he : v = gN vs i
        · exact he
        · rcases Ah.total (A := F) he with h1 | h1
          · exact absurd h1 n1
          · exact absurd h1 n2
      subst hvv
      have hc2 : (!decide ((gN vs i : Int) = (gN vs i : Int))) = false := by simp
      repeat (first
      | with_reducible apply q_seq
      | with_reducible apply q_reg
      | with_reducible apply q_draw
      | with_reducible apply q_ret
      | with_reducible apply q_skip
      | with_reducible apply q_exit
      | with_reducible apply q_block
      | with_reducible apply k_norm
      | with_reducible apply k_ret
      | with_reducible apply k_exit
      | with_reducible apply b_norm
      | with_reducible apply b_ret
      | with_reducible apply b_leave
      | ((with_reducible apply b_exit); decide)
      | with_reducible apply g_nil
      | with_reducible apply d_nil
      | ((with_reducible apply q_true); rfl)
      | ((with_reducible apply q_false); rfl)
      | ((with_reducible apply g_skip)
         · rfl
         · dsimp only [putV, List.set]; try rfl)
      | ((with_reducible apply d_skip)
         · rfl
         · dsimp only [putV, List.set]; try rfl)
      | ((with_reducible apply g_call)
         · rfl
         · rfl
         · rfl
         · exact hy
         · dsimp only [putV, List.set]; try rfl)
      | ((with_reducible apply d_first)
         · rfl
         · rfl
         · rfl
         · exact hy
         · dsimp only [putV, List.set]; try rfl)
      | ((with_reducible apply g_go)
         · rfl
         · first
           | ((with_reducible apply ops_add); rfl; rfl; (first | assumption | rfl); omega; omega)
           | ((with_reducible apply ops_sub); rfl; rfl; (first | assumption | rfl); omega; omega)
           | ((with_reducible apply ops_mul); rfl; rfl; (first | assumption | rfl); omega; omega)
           | ((with_reducible apply ops_quo); rfl; rfl; decide; (first | assumption | rfl); omega; omega)
           | ((with_reducible apply ops_rem); rfl; rfl; omega; (first | assumption | rfl))
           | ((with_reducible apply ops_lss); rfl; rfl; (first | assumption | rfl))
           | ((with_reducible apply ops_gtr); rfl; rfl; (first | assumption | rfl))
           | ((with_reducible apply ops_leq); rfl; rfl; (first | assumption | rfl))
           | ((with_reducible apply ops_geq); rfl; rfl; (first | assumption | rfl))
           | ((with_reducible apply ops_eql); rfl; rfl; (first | assumption | rfl))
           | ((with_reducible apply ops_neq); rfl; rfl; (first | assumption | rfl))
           | ((with_reducible apply ops_min2); rfl; (first | assumption | rfl))
           | ((with_reducible apply ops_max2); rfl; (first | assumption | rfl))
           | ((with_reducible apply ops_iaddrN); rfl; rfl; omega; rfl)
           | ((with_reducible apply ops_iaddr); rfl; rfl; omega; omega; rfl; rfl)
           | ((with_reducible apply ops_load); rfl; exact rowAt_of (by first | assumption) (Nat.zero_le _) (Nat.zero_le _); rfl; rfl)
           | ((with_reducible apply arr_loadN); rfl; (first | assumption); assumption; assumption; (first | assumption | (apply ints_get; omega) | (apply nats_get; omega)); rfl)
           | ((with_reducible apply arr_storeN); rfl; rfl; (first | assumption); assumption; assumption; (first | assumption | (apply ints_get; omega) | (apply nats_get; omega)); rfl; rfl; rfl; rfl; rfl)
           | ((apply hsl.len; rfl))
           | ((apply hsl.at_; rfl; rfl; omega))
           | (((with_reducible apply ops_conv); rfl; omega; omega))
           | (((with_reducible apply ops_push0); rfl; rfl; (first | assumption | exact hT _ _)))
           | ((with_reducible apply ops_struct); rfl; rfl; (first | assumption); rfl; rfl; rfl; rfl; rfl; exact Nat.le_of_ble_eq_true rfl; rfl)
           | ((with_reducible apply ops_bslice1); rfl; rfl; rfl)
           | ((with_reducible apply ops_push); rfl; rfl; (first | assumption); (first | assumption); assumption; assumption; assumption; (first | rfl | assumption); omega; rfl)
           | ((with_reducible apply ops_cutN); rfl; rfl; omega)
           | exact ops_of rfl
         · dsimp only [putV, List.set]; try rfl)
      | ((with_reducible apply d_go)
         · rfl
         · first
           | ((with_reducible apply ops_add); rfl; rfl; (first | assumption | rfl); omega; omega)
           | ((with_reducible apply ops_sub); rfl; rfl; (first | assumption | rfl); omega; omega)
           | ((with_reducible apply ops_mul); rfl; rfl; (first | assumption | rfl); omega; omega)
           | ((with_reducible apply ops_quo); rfl; rfl; decide; (first | assumption | rfl); omega; omega)
           | ((with_reducible apply ops_rem); rfl; rfl; omega; (first | assumption | rfl))
           | ((with_reducible apply ops_lss); rfl; rfl; (first | assumption | rfl))
           | ((with_reducible apply ops_gtr); rfl; rfl; (first | assumption | rfl))
           | ((with_reducible apply ops_leq); rfl; rfl; (first | assumption | rfl))
           | ((with_reducible apply ops_geq); rfl; rfl; (first | assumption | rfl))
           | ((with_reducible apply ops_eql); rfl; rfl; (first | assumption | rfl))
           | ((with_reducible apply ops_neq); rfl; rfl; (first | assumption | rfl))
           | ((with_reducible apply ops_min2); rfl; (first | assumption | rfl))
           | ((with_reducible apply ops_max2); rfl; (first | assumption | rfl))
           | ((with_reducible apply ops_iaddrN); rfl; rfl; omega; rfl)
           | ((with_reducible apply ops_iaddr); rfl; rfl; omega; omega; rfl; rfl)
           | ((with_reducible apply ops_load); rfl; exact rowAt_of (by first | assumption) (Nat.zero_le _) (Nat.zero_le _); rfl; rfl)
           | ((with_reducible apply arr_loadN); rfl; (first | assumption); assumption; assumption; (first | assumption | (apply ints_get; omega) | (apply nats_get; omega)); rfl)
           | ((with_reducible apply arr_storeN); rfl; rfl; (first | assumption); assumption; assumption; (first | assumption | (apply ints_get; omega) | (apply nats_get; omega)); rfl; rfl; rfl; rfl; rfl)
           | ((apply hsl.len; rfl))
           | ((apply hsl.at_; rfl; rfl; omega))
           | (((with_reducible apply ops_conv); rfl; omega; omega))
           | (((with_reducible apply ops_push0); rfl; rfl; (first | assumption | exact hT _ _)))
           | ((with_reducible apply ops_struct); rfl; rfl; (first | assumption); rfl; rfl; rfl; rfl; rfl; exact Nat.le_of_ble_eq_true rfl; rfl)
           | ((with_reducible apply ops_bslice1); rfl; rfl; rfl)
           | ((with_reducible apply ops_push); rfl; rfl; (first | assumption); (first | assumption); assumption; assumption; assumption; (first | rfl | assumption); omega; rfl)
           | ((with_reducible apply ops_cutN); rfl; rfl; omega)
           | exact ops_of rfl
         · (first | with_reducible exact free_empty | rw [allW_same] | rw [allW_set] | rw [allW_push]) <;> (repeat (first | with_reducible exact free_nil | with_reducible exact free_empty | ((with_reducible apply free_mask); rfl) | ((with_reducible apply free_ne); (focus (first | rfl | (simp [clash, meets, *]; done))))))
         · first | exact note_same | exact note_read | exact note_set | exact note_push
         · dsimp only [putV, List.set]; try rfl))
      intro r1 w1 h1 hD
      obtain ⟨d1, d2⟩ := hD
      have d1 : Hv h1 b bL bP bA n (n - (i + 1)) (upd S (gN vs i) false) F := by
        have : n - i - 1 = n - (i + 1) := by omega
        rw [← this]; exact d1
      have hO1 : h1[bO]? = some (.row rO) := by
        rw [d2.2 bO (List.getElem?_eq_some_iff.1 hO).1 (by simp [m1, m2, m3])]; exact hO
      repeat (first
      | with_reducible apply q_seq
      | with_reducible apply q_reg
      | with_reducible apply q_draw
      | with_reducible apply q_ret
      | with_reducible apply q_skip
      | with_reducible apply q_exit
      | with_reducible apply q_block
      | with_reducible apply k_norm
      | with_reducible apply k_ret
      | with_reducible apply k_exit
      | with_reducible apply b_norm
      | with_reducible apply b_ret
      | with_reducible apply b_leave
      | ((with_reducible apply b_exit); decide)
      | with_reducible apply g_nil
      | with_reducible apply d_nil
      | ((with_reducible apply q_true); rfl)
      | ((with_reducible apply q_false); rfl)
      | ((with_reducible apply g_skip)
         · rfl
         · dsimp only [putV, List.set]; try rfl)
      | ((with_reducible apply d_skip)
         · rfl
         · dsimp only [putV, List.set]; try rfl)
      | ((with_reducible apply g_go)
         · rfl
         · first
           | ((with_reducible apply ops_add); rfl; rfl; (first | assumption | rfl); omega; omega)
           | ((with_reducible apply ops_sub); rfl; rfl; (first | assumption | rfl); omega; omega)
           | ((with_reducible apply ops_mul); rfl; rfl; (first | assumption | rfl); omega; omega)
           | ((with_reducible apply ops_quo); rfl; rfl; decide; (first | assumption | rfl); omega; omega)
           | ((with_reducible apply ops_rem); rfl; rfl; omega; (first | assumption | rfl))
           | ((with_reducible apply ops_lss); rfl; rfl; (first | assumption | rfl))
           | ((with_reducible apply ops_gtr); rfl; rfl; (first | assumption | rfl))
           | ((with_reducible apply ops_leq); rfl; rfl; (first | assumption | rfl))
           | ((with_reducible apply ops_geq); rfl; rfl; (first | assumption | rfl))
           | ((with_reducible apply ops_eql); rfl; rfl; (first | assumption | rfl))
           | ((with_reducible apply ops_neq); rfl; rfl; (first | assumption | rfl))
           | ((with_reducible apply ops_min2); rfl; (first | assumption | rfl))
           | ((with_reducible apply ops_max2); rfl; (first | assumption | rfl))
           | ((with_reducible apply ops_iaddrN); rfl; rfl; omega; rfl)
           | ((with_reducible apply ops_iaddr); rfl; rfl; omega; omega; rfl; rfl)
           | ((with_reducible apply ops_load); rfl; exact rowAt_of (by first | assumption) (Nat.zero_le _) (Nat.zero_le _); rfl; rfl)
           | ((with_reducible apply arr_loadN); rfl; (first | assumption); assumption; assumption; (first | assumption | (apply ints_get; omega) | (apply nats_get; omega)); rfl)
           | ((with_reducible apply arr_storeN); rfl; rfl; (first | assumption); assumption; assumption; (first | assumption | (apply ints_get; omega) | (apply nats_get; omega)); rfl; rfl; rfl; rfl; rfl)
           | ((apply hsl.len; rfl))
           | ((apply hsl.at_; rfl; rfl; omega))
           | (((with_reducible apply ops_conv); rfl; omega; omega))
           | (((with_reducible apply ops_push0); rfl; rfl; (first | assumption | exact hT _ _)))
           | ((with_reducible apply ops_struct); rfl; rfl; (first | assumption); rfl; rfl; rfl; rfl; rfl; exact Nat.le_of_ble_eq_true rfl; rfl)
           | ((with_reducible apply ops_bslice1); rfl; rfl; rfl)
           | ((with_reducible apply ops_push); rfl; rfl; (first | assumption); (first | assumption); assumption; assumption; assumption; (first | rfl | assumption); omega; rfl)
           | ((with_reducible apply ops_cutN); rfl; rfl; omega)
           | exact ops_of rfl
         · dsimp only [putV, List.set]; try rfl)
      | ((with_reducible apply d_go)
         · rfl
         · first
           | ((with_reducible apply ops_add); rfl; rfl; (first | assumption | rfl); omega; omega)
           | ((with_reducible apply ops_sub); rfl; rfl; (first | assumption | rfl); omega; omega)
           | ((with_reducible apply ops_mul); rfl; rfl; (first | assumption | rfl); omega; omega)
           | ((with_reducible apply ops_quo); rfl; rfl; decide; (first | assumption | rfl); omega; omega)
           | ((with_reducible apply ops_rem); rfl; rfl; omega; (first | assumption | rfl))
           | ((with_reducible apply ops_lss); rfl; rfl; (first | assumption | rfl))
           | ((with_reducible apply ops_gtr); rfl; rfl; (first | assumption | rfl))
           | ((with_reducible apply ops_leq); rfl; rfl; (first | assumption | rfl))
           | ((with_reducible apply ops_geq); rfl; rfl; (first | assumption | rfl))
           | ((with_reducible apply ops_eql); rfl; rfl; (first | assumption | rfl))
           | ((with_reducible apply ops_neq); rfl; rfl; (first | assumption | rfl))
           | ((with_reducible apply ops_min2); rfl; (first | assumption | rfl))
           | ((with_reducible apply ops_max2); rfl; (first | assumption | rfl))
           | ((with_reducible apply ops_iaddrN); rfl; rfl; omega; rfl)
           | ((with_reducible apply ops_iaddr); rfl; rfl; omega; omega; rfl; rfl)
           | ((with_reducible apply ops_load); rfl; exact rowAt_of (by first | assumption) (Nat.zero_le _) (Nat.zero_le _); rfl; rfl)
           | ((with_reducible apply arr_loadN); rfl; (first | assumption); assumption; assumption; (first | assumption | (apply ints_get; omega) | (apply nats_get; omega)); rfl)
           | ((with_reducible apply arr_storeN); rfl; rfl; (first | assumption); assumption; assumption; (first | assumption | (apply ints_get; omega) | (apply nats_get; omega)); rfl; rfl; rfl; rfl; rfl)
           | ((apply hsl.len; rfl))
           | ((apply hsl.at_; rfl; rfl; omega))
           | (((with_reducible apply ops_conv); rfl; omega; omega))
           | (((with_reducible apply ops_push0); rfl; rfl; (first | assumption | exact hT _ _)))
           | ((with_reducible apply ops_struct); rfl; rfl; (first | assumption); rfl; rfl; rfl; rfl; rfl; exact Nat.le_of_ble_eq_true rfl; rfl)
           | ((with_reducible apply ops_bslice1); rfl; rfl; rfl)
           | ((with_reducible apply ops_push); rfl; rfl; (first | assumption); (first | assumption); assumption; assumption; assumption; (first | rfl | assumption); omega; rfl)
           | ((with_reducible apply ops_cutN); rfl; rfl; omega)
           | exact ops_of rfl
         · (first | with_reducible exact free_empty | rw [allW_same] | rw [allW_set] | rw [allW_push]) <;> (repeat (first | with_reducible exact free_nil | with_reducible exact free_empty | ((with_reducible apply free_mask); rfl) | ((with_reducible apply free_ne); (focus (first | rfl | (simp [clash, meets, *]; done))))))
         · first | exact note_same | exact note_read | exact note_set | exact note_push
         · dsimp only [putV, List.set]; try rfl))
      refine back_loop6 (bL := bL) (bP := bP) (bA := bA) hsl hn2 ha sO oO lO m1 m2 m3 m4 hq R d (i + 1) _ h1 _ _ _ _ _ _ _ _ _ _ _ _ _ _ _ _ _ _ _ _ _ _ _ _ _ _ _ _ _ _ _ _ _ _ _ _ _ _ _ _ _ _ _ _ _ _ _ _ _ _ _ _ _ _ _ _ _ _ _ _ _ _ _ _ _ _ _ _ _ _ _ _ _ _ _ _ _ _ _ _ _ _ _ _ _ _ _ _ _ _ _ _ _ _ _ _ _ _ _ _ _ _ _ _ _ _ _ _ _ _ _ _ _ _ _ _ _ _ _ _ (by omega) hvn d1 ?_ hO1 hR
      intro u hu1 hu2
      unfold upd
      by_cases hu : u = gN vs i
      · rw [if_pos hu]
        constructor
        · intro h; cases h
        · intro hh; exact absurd hu.symm (hh i (by omega))
      · rw [if_neg hu, hS u hu1 hu2]
        constructor
        · intro hh k hk
          by_cases he : k = i
          · rw [he]; exact fun e => hu e.symm
          · exact hh k (by omega)
        · intro hh k hk; exact hh k (by omega)
theorem back_law {x0 : V} {g : Nat → Int} {a n : Nat} (hsl : Sl x0 n g) (ha : a < 256) : Pures EH 5 [x0, .int .u8 (a : Nat)] (.bool true) := by
  have hw := @awake8
  apply pures_qq (by rfl) (by rfl) (by simp only [List.length_cons, List.length_nil, List.replicate, List.cons_append, List.nil_append]; try rfl)
  by_cases h40 : 40 < n
  · have c0 : decide ((40 : Int) < (n : Int)) = true := decide_eq_true (by omega)
    repeat (first
      | with_reducible apply q_seq
      | with_reducible apply q_reg
      | with_reducible apply q_draw
      | with_reducible apply q_ret
      | with_reducible apply q_skip
      | with_reducible apply q_exit
      | with_reducible apply q_block
      | with_reducible apply k_norm
      | with_reducible apply k_ret
      | with_reducible apply k_exit
      | with_reducible apply b_norm
      | with_reducible apply b_ret
      | with_reducible apply b_leave
      | ((with_reducible apply b_exit); decide)
      | with_reducible apply g_nil
      | with_reducible apply d_nil
      | ((with_reducible apply q_true); rfl)
      | ((with_reducible apply q_false); rfl)
      | ((with_reducible apply g_skip)
         · rfl
         · dsimp only [putV, List.set]; try rfl)
      | ((with_reducible apply d_skip)
         · rfl
         · dsimp only [putV, List.set]; try rfl)
      | ((with_reducible apply g_read)
         · rfl
         · rfl
         · rfl
         · exact hw
         · dsimp only [putV, List.set]; try rfl
         intro _)
      | ((with_reducible apply d_read)
         · rfl
         · rfl
         · rfl
         · exact hw
         · rfl
         · dsimp only [putV, List.set]; try rfl
         intro _ _)
      | ((with_reducible apply g_go)
         · rfl
         · first
           | ((with_reducible apply ops_add); rfl; rfl; (first | assumption | rfl); omega; omega)
           | ((with_reducible apply ops_sub); rfl; rfl; (first | assumption | rfl); omega; omega)
           | ((with_reducible apply ops_mul); rfl; rfl; (first | assumption | rfl); omega; omega)
           | ((with_reducible apply ops_quo); rfl; rfl; decide; (first | assumption | rfl); omega; omega)
           | ((with_reducible apply ops_rem); rfl; rfl; omega; (first | assumption | rfl))
           | ((with_reducible apply ops_lss); rfl; rfl; (first | assumption | rfl))
           | ((with_reducible apply ops_gtr); rfl; rfl; (first | assumption | rfl))
           | ((with_reducible apply ops_leq); rfl; rfl; (first | assumption | rfl))
           | ((with_reducible apply ops_geq); rfl; rfl; (first | assumption | rfl))
           | ((with_reducible apply ops_eql); rfl; rfl; (first | assumption | rfl))
           | ((with_reducible apply ops_neq); rfl; rfl; (first | assumption | rfl))
           | ((with_reducible apply ops_min2); rfl; (first | assumption | rfl))
           | ((with_reducible apply ops_max2); rfl; (first | assumption | rfl))
           | ((with_reducible apply ops_iaddrN); rfl; rfl; omega; rfl)
           | ((with_reducible apply ops_iaddr); rfl; rfl; omega; omega; rfl; rfl)
           | ((with_reducible apply ops_load); rfl; exact rowAt_of (by first | assumption) (Nat.zero_le _) (Nat.zero_le _); rfl; rfl)
           | ((with_reducible apply arr_loadN); rfl; (first | assumption); assumption; assumption; (first | assumption | (apply ints_get; omega) | (apply nats_get; omega)); rfl)
           | ((with_reducible apply arr_storeN); rfl; rfl; (first | assumption); assumption; assumption; (first | assumption | (apply ints_get; omega) | (apply nats_get; omega)); rfl; rfl; rfl; rfl; rfl)
           | ((apply hsl.len; rfl))
           | ((apply hsl.at_; rfl; rfl; omega))
           | (((with_reducible apply ops_conv); rfl; omega; omega))
           | (((with_reducible apply ops_push0); rfl; rfl; (first | assumption | exact hT _ _)))
           | ((with_reducible apply ops_struct); rfl; rfl; (first | assumption); rfl; rfl; rfl; rfl; rfl; exact Nat.le_of_ble_eq_true rfl; rfl)
           | ((with_reducible apply ops_bslice1); rfl; rfl; rfl)
           | ((with_reducible apply ops_push); rfl; rfl; (first | assumption); (first | assumption); assumption; assumption; assumption; (first | rfl | assumption); omega; rfl)
           | ((with_reducible apply ops_cutN); rfl; rfl; omega)
           | exact ops_of rfl
         · dsimp only [putV, List.set]; try rfl)
      | ((with_reducible apply d_go)
         · rfl
         · first
           | ((with_reducible apply ops_add); rfl; rfl; (first | assumption | rfl); omega; omega)
           | ((with_reducible apply ops_sub); rfl; rfl; (first | assumption | rfl); omega; omega)
           | ((with_reducible apply ops_mul); rfl; rfl; (first | assumption | rfl); omega; omega)
           | ((with_reducible apply ops_quo); rfl; rfl; decide; (first | assumption | rfl); omega; omega)
           | ((with_reducible apply ops_rem); rfl; rfl; omega; (first | assumption | rfl))
           | ((with_reducible apply ops_lss); rfl; rfl; (first | assumption | rfl))
           | ((with_reducible apply ops_gtr); rfl; rfl; (first | assumption | rfl))
           | ((with_reducible apply ops_leq); rfl; rfl; (first | assumption | rfl))
           | ((with_reducible apply ops_geq); rfl; rfl; (first | assumption | rfl))
           | ((with_reducible apply ops_eql); rfl; rfl; (first | assumption | rfl))
           | ((with_reducible apply ops_neq); rfl; rfl; (first | assumption | rfl))
           | ((with_reducible apply ops_min2); rfl; (first | assumption | rfl))
           | ((with_reducible apply ops_max2); rfl; (first | assumption | rfl))
           | ((with_reducible apply ops_iaddrN); rfl; rfl; omega; rfl)
           | ((with_reducible apply ops_iaddr); rfl; rfl; omega; omega; rfl; rfl)
           | ((with_reducible apply ops_load); rfl; exact rowAt_of (by first | assumption) (Nat.zero_le _) (Nat.zero_le _); rfl; rfl)
           | ((with_reducible apply arr_loadN); rfl; (first | assumption); assumption; assumption; (first | assumption | (apply ints_get; omega) | (apply nats_get; omega)); rfl)
           | ((with_reducible apply arr_storeN); rfl; rfl; (first | assumption); assumption; assumption; (first | assumption | (apply ints_get; omega) | (apply nats_get; omega)); rfl; rfl; rfl; rfl; rfl)
           | ((apply hsl.len; rfl))
           | ((apply hsl.at_; rfl; rfl; omega))
           | (((with_reducible apply ops_conv); rfl; omega; omega))
           | (((with_reducible apply ops_push0); rfl; rfl; (first | assumption | exact hT _ _)))
           | ((with_reducible apply ops_struct); rfl; rfl; (first | assumption); rfl; rfl; rfl; rfl; rfl; exact Nat.le_of_ble_eq_true rfl; rfl)
           | ((with_reducible apply ops_bslice1); rfl; rfl; rfl)
           | ((with_reducible apply ops_push); rfl; rfl; (first | assumption); (first | assumption); assumption; assumption; assumption; (first | rfl | assumption); omega; rfl)
           | ((with_reducible apply ops_cutN); rfl; rfl; omega)
           | exact ops_of rfl
         · (first | with_reducible exact free_empty | rw [allW_same] | rw [allW_set] | rw [allW_push]) <;> (repeat (first | with_reducible exact free_nil | with_reducible exact free_empty | ((with_reducible apply free_mask); rfl) | ((with_reducible apply free_ne); (focus (first | rfl | (simp [clash, meets, *]; done))))))
         · first | exact note_same | exact note_read | exact note_set | exact note_push
         · dsimp only [putV, List.set]; try rfl))
    exact ⟨.inl rfl, _, _, rfl, rfl⟩
  · have c0 : decide ((40 : Int) < (n : Int)) = false := decide_eq_false (by omega)
    by_cases h0 : n = 0
    · have c1 : decide ((n : Int) = 0) = true := decide_eq_true (by omega)
      repeat (first
      | with_reducible apply q_seq
      | with_reducible apply q_reg
      | with_reducible apply q_draw
      | with_reducible apply q_ret
      | with_reducible apply q_skip
      | with_reducible apply q_exit
      | with_reducible apply q_block
      | with_reducible apply k_norm
      | with_reducible apply k_ret
      | with_reducible apply k_exit
      | with_reducible apply b_norm
      | with_reducible apply b_ret
      | with_reducible apply b_leave
      | ((with_reducible apply b_exit); decide)
      | with_reducible apply g_nil
      | with_reducible apply d_nil
      | ((with_reducible apply q_true); rfl)
      | ((with_reducible apply q_false); rfl)
      | ((with_reducible apply g_skip)
         · rfl
         · dsimp only [putV, List.set]; try rfl)
      | ((with_reducible apply d_skip)
         · rfl
         · dsimp only [putV, List.set]; try rfl)
      | ((with_reducible apply g_read)
         · rfl
         · rfl
         · rfl
         · exact hw
         · dsimp only [putV, List.set]; try rfl
         intro _)
      | ((with_reducible apply d_read)
         · rfl
         · rfl
         · rfl
         · exact hw
         · rfl
         · dsimp only [putV, List.set]; try rfl
         intro _ _)
      | ((with_reducible apply g_go)
         · rfl
         · first
           | ((with_reducible apply ops_add); rfl; rfl; (first | assumption | rfl); omega; omega)
           | ((with_reducible apply ops_sub); rfl; rfl; (first | assumption | rfl); omega; omega)
           | ((with_reducible apply ops_mul); rfl; rfl; (first | assumption | rfl); omega; omega)
           | ((with_reducible apply ops_quo); rfl; rfl; decide; (first | assumption | rfl); omega; omega)
           | ((with_reducible apply ops_rem); rfl; rfl; omega; (first | assumption | rfl))
           | ((with_reducible apply ops_lss); rfl; rfl; (first | assumption | rfl))
           | ((with_reducible apply ops_gtr); rfl; rfl; (first | assumption | rfl))
           | ((with_reducible apply ops_leq); rfl; rfl; (first | assumption | rfl))
           | ((with_reducible apply ops_geq); rfl; rfl; (first | assumption | rfl))
           | ((with_reducible apply ops_eql); rfl; rfl; (first | assumption | rfl))
           | ((with_reducible apply ops_neq); rfl; rfl; (first | assumption | rfl))
           | ((with_reducible apply ops_min2); rfl; (first | assumption | rfl))
           | ((with_reducible apply ops_max2); rfl; (first | assumption | rfl))
           | ((with_reducible apply ops_iaddrN); rfl; rfl; omega; rfl)
           | ((with_reducible apply ops_iaddr); rfl; rfl; omega; omega; rfl; rfl)
           | ((with_reducible apply ops_load); rfl; exact rowAt_of (by first | assumption) (Nat.zero_le _) (Nat.zero_le _); rfl; rfl)
           | ((with_reducible apply arr_loadN); rfl; (first | assumption); assumption; assumption; (first | assumption | (apply ints_get; omega) | (apply nats_get; omega)); rfl)
           | ((with_reducible apply arr_storeN); rfl; rfl; (first | assumption); assumption; assumption; (first | assumption | (apply ints_get; omega) | (apply nats_get; omega)); rfl; rfl; rfl; rfl; rfl)
           | ((apply hsl.len; rfl))
           | ((apply hsl.at_; rfl; rfl; omega))
           | (((with_reducible apply ops_conv); rfl; omega; omega))
           | (((with_reducible apply ops_push0); rfl; rfl; (first | assumption | exact hT _ _)))
           | ((with_reducible apply ops_struct); rfl; rfl; (first | assumption); rfl; rfl; rfl; rfl; rfl; exact Nat.le_of_ble_eq_true rfl; rfl)
           | ((with_reducible apply ops_bslice1); rfl; rfl; rfl)
           | ((with_reducible apply ops_push); rfl; rfl; (first | assumption); (first | assumption); assumption; assumption; assumption; (first | rfl | assumption); omega; rfl)
           | ((with_reducible apply ops_cutN); rfl; rfl; omega)
           | exact ops_of rfl
         · dsimp only [putV, List.set]; try rfl)
      | ((with_reducible apply d_go)
         · rfl
         · first
           | ((with_reducible apply ops_add); rfl; rfl; (first | assumption | rfl); omega; omega)
           | ((with_reducible apply ops_sub); rfl; rfl; (first | assumption | rfl); omega; omega)
           | ((with_reducible apply ops_mul); rfl; rfl; (first | assumption | rfl); omega; omega)
           | ((with_reducible apply ops_quo); rfl; rfl; decide; (first | assumption | rfl); omega; omega)
           | ((with_reducible apply ops_rem); rfl; rfl; omega; (first | assumption | rfl))
           | ((with_reducible apply ops_lss); rfl; rfl; (first | assumption | rfl))
           | ((with_reducible apply ops_gtr); rfl; rfl; (first | assumption | rfl))
           | ((with_reducible apply ops_leq); rfl; rfl; (first | assumption | rfl))
           | ((with_reducible apply ops_geq); rfl; rfl; (first | assumption | rfl))
           | ((with_reducible apply ops_eql); rfl; rfl; (first | assumption | rfl))
           | ((with_reducible apply ops_neq); rfl; rfl; (first | assumption | rfl))
           | ((with_reducible apply ops_min2); rfl; (first | assumption | rfl))
           | ((with_reducible apply ops_max2); rfl; (first | assumption | rfl))
           | ((with_reducible apply ops_iaddrN); rfl; rfl; omega; rfl)
           | ((with_reducible apply ops_iaddr); rfl; rfl; omega; omega; rfl; rfl)
           | ((with_reducible apply ops_load); rfl; exact rowAt_of (by first | assumption) (Nat.zero_le _) (Nat.zero_le _); rfl; rfl)
           | ((with_reducible apply arr_loadN); rfl; (first | assumption); assumption; assumption; (first | assumption | (apply ints_get; omega) | (apply nats_get; omega)); rfl)
           | ((with_reducible apply arr_storeN); rfl; rfl; (first | assumption); assumption; assumption; (first | assumption | (apply ints_get; omega) | (apply nats_get; omega)); rfl; rfl; rfl; rfl; rfl)
           | ((apply hsl.len; rfl))
           | ((apply hsl.at_; rfl; rfl; omega))
           | (((with_reducible apply ops_conv); rfl; omega; omega))
           | (((with_reducible apply ops_push0); rfl; rfl; (first | assumption | exact hT _ _)))
           | ((with_reducible apply ops_struct); rfl; rfl; (first | assumption); rfl; rfl; rfl; rfl; rfl; exact Nat.le_of_ble_eq_true rfl; rfl)
           | ((with_reducible apply ops_bslice1); rfl; rfl; rfl)
           | ((with_reducible apply ops_push); rfl; rfl; (first | assumption); (first | assumption); assumption; assumption; assumption; (first | rfl | assumption); omega; rfl)
           | ((with_reducible apply ops_cutN); rfl; rfl; omega)
           | exact ops_of rfl
         · (first | with_reducible exact free_empty | rw [allW_same] | rw [allW_set] | rw [allW_push]) <;> (repeat (first | with_reducible exact free_nil | with_reducible exact free_empty | ((with_reducible apply free_mask); rfl) | ((with_reducible apply free_ne); (focus (first | rfl | (simp [clash, meets, *]; done))))))
         · first | exact note_same | exact note_read | exact note_set | exact note_push
         · dsimp only [putV, List.set]; try rfl))
      exact ⟨.inl rfl, _, _, rfl, rfl⟩
    · have c1 : decide ((n : Int) = 0) = false := decide_eq_false (by omega)
      have hml : a % n < n := Nat.mod_lt _ (by omega)
      have hy := hv_new (h := []) (n := n) (by omega)
      repeat (first
      | with_reducible apply q_seq
      | with_reducible apply q_reg
      | with_reducible apply q_draw
      | with_reducible apply q_ret
      | with_reducible apply q_skip
      | with_reducible apply q_exit
      | with_reducible apply q_block
      | with_reducible apply k_norm
      | with_reducible apply k_ret
      | with_reducible apply k_exit
      | with_reducible apply b_norm
      | with_reducible apply b_ret
      | with_reducible apply b_leave
      | ((with_reducible apply b_exit); decide)
      | with_reducible apply g_nil
      | with_reducible apply d_nil
      | ((with_reducible apply q_true); rfl)
      | ((with_reducible apply q_false); rfl)
      | ((with_reducible apply g_skip)
         · rfl
         · dsimp only [putV, List.set]; try rfl)
      | ((with_reducible apply d_skip)
         · rfl
         · dsimp only [putV, List.set]; try rfl)
      | ((with_reducible apply g_read)
         · rfl
         · rfl
         · rfl
         · exact hw
         · dsimp only [putV, List.set]; try rfl
         intro _)
      | ((with_reducible apply d_read)
         · rfl
         · rfl
         · rfl
         · exact hw
         · rfl
         · dsimp only [putV, List.set]; try rfl
         intro _ _)
      | ((with_reducible apply g_call)
         · rfl
         · rfl
         · rfl
         · exact hy
         · dsimp only [putV, List.set]; try rfl)
      | ((with_reducible apply d_first)
         · rfl
         · rfl
         · rfl
         · exact hy
         · dsimp only [putV, List.set]; try rfl)
      | ((with_reducible apply g_go)
         · rfl
         · first
           | ((with_reducible apply ops_add); rfl; rfl; (first | assumption | rfl); omega; omega)
           | ((with_reducible apply ops_sub); rfl; rfl; (first | assumption | rfl); omega; omega)
           | ((with_reducible apply ops_mul); rfl; rfl; (first | assumption | rfl); omega; omega)
           | ((with_reducible apply ops_quo); rfl; rfl; decide; (first | assumption | rfl); omega; omega)
           | ((with_reducible apply ops_rem); rfl; rfl; omega; (first | assumption | rfl))
           | ((with_reducible apply ops_lss); rfl; rfl; (first | assumption | rfl))
           | ((with_reducible apply ops_gtr); rfl; rfl; (first | assumption | rfl))
           | ((with_reducible apply ops_leq); rfl; rfl; (first | assumption | rfl))
           | ((with_reducible apply ops_geq); rfl; rfl; (first | assumption | rfl))
           | ((with_reducible apply ops_eql); rfl; rfl; (first | assumption | rfl))
           | ((with_reducible apply ops_neq); rfl; rfl; (first | assumption | rfl))
           | ((with_reducible apply ops_min2); rfl; (first | assumption | rfl))
           | ((with_reducible apply ops_max2); rfl; (first | assumption | rfl))
           | ((with_reducible apply ops_iaddrN); rfl; rfl; omega; rfl)
           | ((with_reducible apply ops_iaddr); rfl; rfl; omega; omega; rfl; rfl)
           | ((with_reducible apply ops_load); rfl; exact rowAt_of (by first | assumption) (Nat.zero_le _) (Nat.zero_le _); rfl; rfl)
           | ((with_reducible apply arr_loadN); rfl; (first | assumption); assumption; assumption; (first | assumption | (apply ints_get; omega) | (apply nats_get; omega)); rfl)
           | ((with_reducible apply arr_storeN); rfl; rfl; (first | assumption); assumption; assumption; (first | assumption | (apply ints_get; omega) | (apply nats_get; omega)); rfl; rfl; rfl; rfl; rfl)
           | ((apply hsl.len; rfl))
           | ((apply hsl.at_; rfl; rfl; omega))
           | (((with_reducible apply ops_conv); rfl; omega; omega))
           | (((with_reducible apply ops_push0); rfl; rfl; (first | assumption | exact hT _ _)))
           | ((with_reducible apply ops_struct); rfl; rfl; (first | assumption); rfl; rfl; rfl; rfl; rfl; exact Nat.le_of_ble_eq_true rfl; rfl)
           | ((with_reducible apply ops_bslice1); rfl; rfl; rfl)
           | ((with_reducible apply ops_push); rfl; rfl; (first | assumption); (first | assumption); assumption; assumption; assumption; (first | rfl | assumption); omega; rfl)
           | ((with_reducible apply ops_cutN); rfl; rfl; omega)
           | exact ops_of rfl
         · dsimp only [putV, List.set]; try rfl)
      | ((with_reducible apply d_go)
         · rfl
         · first
           | ((with_reducible apply ops_add); rfl; rfl; (first | assumption | rfl); omega; omega)
           | ((with_reducible apply ops_sub); rfl; rfl; (first | assumption | rfl); omega; omega)
           | ((with_reducible apply ops_mul); rfl; rfl; (first | assumption | rfl); omega; omega)
           | ((with_reducible apply ops_quo); rfl; rfl; decide; (first | assumption | rfl); omega; omega)
           | ((with_reducible apply ops_rem); rfl; rfl; omega; (first | assumption | rfl))
           | ((with_reducible apply ops_lss); rfl; rfl; (first | assumption | rfl))
           | ((with_reducible apply ops_gtr); rfl; rfl; (first | assumption | rfl))
           | ((with_reducible apply ops_leq); rfl; rfl; (first | assumption | rfl))
           | ((with_reducible apply ops_geq); rfl; rfl; (first | assumption | rfl))
           | ((with_reducible apply ops_eql); rfl; rfl; (first | assumption | rfl))
           | ((with_reducible apply ops_neq); rfl; rfl; (first | assumption | rfl))
           | ((with_reducible apply ops_min2); rfl; (first | assumption | rfl))
           | ((with_reducible apply ops_max2); rfl; (first | assumption | rfl))
           | ((with_reducible apply ops_iaddrN); rfl; rfl; omega; rfl)
           | ((with_reducible apply ops_iaddr); rfl; rfl; omega; omega; rfl; rfl)
           | ((with_reducible apply ops_load); rfl; exact rowAt_of (by first | assumption) (Nat.zero_le _) (Nat.zero_le _); rfl; rfl)
           | ((with_reducible apply arr_loadN); rfl; (first | assumption); assumption; assumption; (first | assumption | (apply ints_get; omega) | (apply nats_get; omega)); rfl)
           | ((with_reducible apply arr_storeN); rfl; rfl; (first | assumption); assumption; assumption; (first | assumption | (apply ints_get; omega) | (apply nats_get; omega)); rfl; rfl; rfl; rfl; rfl)
           | ((apply hsl.len; rfl))
           | ((apply hsl.at_; rfl; rfl; omega))
           | (((with_reducible apply ops_conv); rfl; omega; omega))
           | (((with_reducible apply ops_push0); rfl; rfl; (first | assumption | exact hT _ _)))
           | ((with_reducible apply ops_struct); rfl; rfl; (first | assumption); rfl; rfl; rfl; rfl; rfl; exact Nat.le_of_ble_eq_true rfl; rfl)
           | ((with_reducible apply ops_bslice1); rfl; rfl; rfl)
           | ((with_reducible apply ops_push); rfl; rfl; (first | assumption); (first | assumption); assumption; assumption; assumption; (first | rfl | assumption); omega; rfl)
           | ((with_reducible apply ops_cutN); rfl; rfl; omega)
           | exact ops_of rfl
         · (first | with_reducible exact free_empty | rw [allW_same] | rw [allW_set] | rw [allW_push]) <;> (repeat (first | with_reducible exact free_nil | with_reducible exact free_empty | ((with_reducible apply free_mask); rfl) | ((with_reducible apply free_ne); (focus (first | rfl | (simp [clash, meets, *]; done))))))
         · first | exact note_same | exact note_read | exact note_set | exact note_push
         · dsimp only [putV, List.set]; try rfl))
      intro r1 w1 h1 hD
      obtain ⟨bL, d1, d2, d3⟩ := hD
      repeat (first
      | with_reducible apply q_seq
      | with_reducible apply q_reg
      | with_reducible apply q_draw
      | with_reducible apply q_ret
      | with_reducible apply q_skip
      | with_reducible apply q_exit
      | with_reducible apply q_block
      | with_reducible apply k_norm
      | with_reducible apply k_ret
      | with_reducible apply k_exit
      | with_reducible apply b_norm
      | with_reducible apply b_ret
      | with_reducible apply b_leave
      | ((with_reducible apply b_exit); decide)
      | with_reducible apply g_nil
      | with_reducible apply d_nil
      | ((with_reducible apply q_true); rfl)
      | ((with_reducible apply q_false); rfl)
      | ((with_reducible apply g_skip)
         · rfl
         · dsimp only [putV, List.set]; try rfl)
      | ((with_reducible apply d_skip)
         · rfl
         · dsimp only [putV, List.set]; try rfl)
      | ((with_reducible apply g_go)
         · rfl
         · first
           | ((with_reducible apply ops_add); rfl; rfl; (first | assumption | rfl); omega; omega)
           | ((with_reducible apply ops_sub); rfl; rfl; (first | assumption | rfl); omega; omega)
           | ((with_reducible apply ops_mul); rfl; rfl; (first | assumption | rfl); omega; omega)
           | ((with_reducible apply ops_quo); rfl; rfl; decide; (first | assumption | rfl); omega; omega)
           | ((with_reducible apply ops_rem); rfl; rfl; omega; (first | assumption | rfl))
           | ((with_reducible apply ops_lss); rfl; rfl; (first | assumption | rfl))
           | ((with_reducible apply ops_gtr); rfl; rfl; (first | assumption | rfl))
           | ((with_reducible apply ops_leq); rfl; rfl; (first | assumption | rfl))
           | ((with_reducible apply ops_geq); rfl; rfl; (first | assumption | rfl))
           | ((with_reducible apply ops_eql); rfl; rfl; (first | assumption | rfl))
           | ((with_reducible apply ops_neq); rfl; rfl; (first | assumption | rfl))
           | ((with_reducible apply ops_min2); rfl; (first | assumption | rfl))
           | ((with_reducible apply ops_max2); rfl; (first | assumption | rfl))
           | ((with_reducible apply ops_iaddrN); rfl; rfl; omega; rfl)
           | ((with_reducible apply ops_iaddr); rfl; rfl; omega; omega; rfl; rfl)
           | ((with_reducible apply ops_load); rfl; exact rowAt_of (by first | assumption) (Nat.zero_le _) (Nat.zero_le _); rfl; rfl)
           | ((with_reducible apply arr_loadN); rfl; (first | assumption); assumption; assumption; (first | assumption | (apply ints_get; omega) | (apply nats_get; omega)); rfl)
           | ((with_reducible apply arr_storeN); rfl; rfl; (first | assumption); assumption; assumption; (first | assumption | (apply ints_get; omega) | (apply nats_get; omega)); rfl; rfl; rfl; rfl; rfl)
           | ((apply hsl.len; rfl))
           | ((apply hsl.at_; rfl; rfl; omega))
           | (((with_reducible apply ops_conv); rfl; omega; omega))
           | (((with_reducible apply ops_push0); rfl; rfl; (first | assumption | exact hT _ _)))
           | ((with_reducible apply ops_struct); rfl; rfl; (first | assumption); rfl; rfl; rfl; rfl; rfl; exact Nat.le_of_ble_eq_true rfl; rfl)
           | ((with_reducible apply ops_bslice1); rfl; rfl; rfl)
           | ((with_reducible apply ops_push); rfl; rfl; (first | assumption); (first | assumption); assumption; assumption; assumption; (first | rfl | assumption); omega; rfl)
           | ((with_reducible apply ops_cutN); rfl; rfl; omega)
           | exact ops_of rfl
         · dsimp only [putV, List.set]; try rfl)
      | ((with_reducible apply d_go)
         · rfl
         · first
           | ((with_reducible apply ops_add); rfl; rfl; (first | assumption | rfl); omega; omega)
           | ((with_reducible apply ops_sub); rfl; rfl; (first | assumption | rfl); omega; omega)
           | ((with_reducible apply ops_mul); rfl; rfl; (first | assumption | rfl); omega; omega)
           | ((with_reducible apply ops_quo); rfl; rfl; decide; (first | assumption | rfl); omega; omega)
           | ((with_reducible apply ops_rem); rfl; rfl; omega; (first | assumption | rfl))
           | ((with_reducible apply ops_lss); rfl; rfl; (first | assumption | rfl))
           | ((with_reducible apply ops_gtr); rfl; rfl; (first | assumption | rfl))
           | ((with_reducible apply ops_leq); rfl; rfl; (first | assumption | rfl))
           | ((with_reducible apply ops_geq); rfl; rfl; (first | assumption | rfl))
           | ((with_reducible apply ops_eql); rfl; rfl; (first | assumption | rfl))
           | ((with_reducible apply ops_neq); rfl; rfl; (first | assumption | rfl))
           | ((with_reducible apply ops_min2); rfl; (first | assumption | rfl))
           | ((with_reducible apply ops_max2); rfl; (first | assumption | rfl))
           | ((with_reducible apply ops_iaddrN); rfl; rfl; omega; rfl)
           | ((with_reducible apply ops_iaddr); rfl; rfl; omega; omega; rfl; rfl)
           | ((with_reducible apply ops_load); rfl; exact rowAt_of (by first | assumption) (Nat.zero_le _) (Nat.zero_le _); rfl; rfl)
           | ((with_reducible apply arr_loadN); rfl; (first | assumption); assumption; assumption; (first | assumption | (apply ints_get; omega) | (apply nats_get; omega)); rfl)
           | ((with_reducible apply arr_storeN); rfl; rfl; (first | assumption); assumption; assumption; (first | assumption | (apply ints_get; omega) | (apply nats_get; omega)); rfl; rfl; rfl; rfl; rfl)
           | ((apply hsl.len; rfl))
           | ((apply hsl.at_; rfl; rfl; omega))
           | (((with_reducible apply ops_conv); rfl; omega; omega))
           | (((with_reducible apply ops_push0); rfl; rfl; (first | assumption | exact hT _ _)))
           | ((with_reducible apply ops_struct); rfl; rfl; (first | assumption); rfl; rfl; rfl; rfl; rfl; exact Nat.le_of_ble_eq_true rfl; rfl)
           | ((with_reducible apply ops_bslice1); rfl; rfl; rfl)
           | ((with_reducible apply ops_push); rfl; rfl; (first | assumption); (first | assumption); assumption; assumption; assumption; (first | rfl | assumption); omega; rfl)
           | ((with_reducible apply ops_cutN); rfl; rfl; omega)
           | exact ops_of rfl
         · (first | with_reducible exact free_empty | rw [allW_same] | rw [allW_set] | rw [allW_push]) <;> (repeat (first | with_reducible exact free_nil | with_reducible exact free_empty | ((with_reducible apply free_mask); rfl) | ((with_reducible apply free_ne); (focus (first | rfl | (simp [clash, meets, *]; done))))))
         · first | exact note_same | exact note_read | exact note_set | exact note_push
         · dsimp only [putV, List.set]; try rfl))
      refine back_loop0 (bL := bL) hsl (by omega) ha _ n 0 _ h1 _ _ _ _ _ _ _ _ _ _ _ _ _ _ _ _ _ _ _ _ _ _ _ _ _ _ _ _ _ _ _ _ _ _ _ _ _ _ _ _ _ _ _ _ _ _ _ _ _ _ _ _ _ _ _ _ _ _ _ _ _ _ _ _ _ _ _ _ _ _ _ _ _ _ _ _ _ _ _ _ _ _ _ _ _ _ _ _ _ _ _ _ _ _ _ _ _ _ _ _ _ _ _ _ _ _ _ _ _ _ _ _ _ _ _ _ _ _ _ _ _ (by omega) d1 ?_
      intro F h2 r2 w2 k2 k3 k4 k6 k8 k9 k10 k11 k12 k13 k14 k15 k16 k17 k18 k19 k20 k21 k22 k23 k24 k25 k26 k27 k28 k29 k30 k31 k32 k33 k34 k35 k36 k37 k38 k39 k40 k41 k42 k43 k44 k45 k46 k47 k48 k49 k50 k51 k52 k53 k54 k55 k56 k57 k58 k59 k60 k61 k62 k63 k64 k65 k66 k67 k68 k69 k70 k71 k72 k73 k74 k75 k76 k77 k78 k79 k80 k81 k82 k83 k84 k85 k86 k87 k88 k89 k90 k91 k92 k93 k94 k95 k96 k97 k98 k99 k100 k101 k102 k103 k104 k105 k106 k107 k108 k109 k110 k111 k112 k113 k114 k115 k116 k117 k118 k119 k120 k121 k122 a1
      repeat (first
      | with_reducible apply q_seq
      | with_reducible apply q_reg
      | with_reducible apply q_draw
      | with_reducible apply q_ret
      | with_reducible apply q_skip
      | with_reducible apply q_exit
      | with_reducible apply q_block
      | with_reducible apply k_norm
      | with_reducible apply k_ret
      | with_reducible apply k_exit
      | with_reducible apply b_norm
      | with_reducible apply b_ret
      | with_reducible apply b_leave
      | ((with_reducible apply b_exit); decide)
      | with_reducible apply g_nil
      | with_reducible apply d_nil
      | ((with_reducible apply q_true); rfl)
      | ((with_reducible apply q_false); rfl)
      | ((with_reducible apply g_skip)
         · rfl
         · dsimp only [putV, List.set]; try rfl)
      | ((with_reducible apply d_skip)
         · rfl
         · dsimp only [putV, List.set]; try rfl)
      | ((with_reducible apply g_go)
         · rfl
         · first
           | ((with_reducible apply ops_add); rfl; rfl; (first | assumption | rfl); omega; omega)
           | ((with_reducible apply ops_sub); rfl; rfl; (first | assumption | rfl); omega; omega)
           | ((with_reducible apply ops_mul); rfl; rfl; (first | assumption | rfl); omega; omega)
           | ((with_reducible apply ops_quo); rfl; rfl; decide; (first | assumption | rfl); omega; omega)
           | ((with_reducible apply ops_rem); rfl; rfl; omega; (first | assumption | rfl))
           | ((with_reducible apply ops_lss); rfl; rfl; (first | assumption | rfl))
           | ((with_reducible apply ops_gtr); rfl; rfl; (first | assumption | rfl))
           | ((with_reducible apply ops_leq); rfl; rfl; (first | assumption | rfl))
           | ((with_reducible apply ops_geq); rfl; rfl; (first | assumption | rfl))
           | ((with_reducible apply ops_eql); rfl; rfl; (first | assumption | rfl))
           | ((with_reducible apply ops_neq); rfl; rfl; (first | assumption | rfl))
           | ((with_reducible apply ops_min2); rfl; (first | assumption | rfl))
           | ((with_reducible apply ops_max2); rfl; (first | assumption | rfl))
           | ((with_reducible apply ops_iaddrN); rfl; rfl; omega; rfl)
           | ((with_reducible apply ops_iaddr); rfl; rfl; omega; omega; rfl; rfl)
           | ((with_reducible apply ops_load); rfl; exact rowAt_of (by first | assumption) (Nat.zero_le _) (Nat.zero_le _); rfl; rfl)
           | ((with_reducible apply arr_loadN); rfl; (first | assumption); assumption; assumption; (first | assumption | (apply ints_get; omega) | (apply nats_get; omega)); rfl)
           | ((with_reducible apply arr_storeN); rfl; rfl; (first | assumption); assumption; assumption; (first | assumption | (apply ints_get; omega) | (apply nats_get; omega)); rfl; rfl; rfl; rfl; rfl)
           | ((apply hsl.len; rfl))
           | ((apply hsl.at_; rfl; rfl; omega))
           | (((with_reducible apply ops_conv); rfl; omega; omega))
           | (((with_reducible apply ops_push0); rfl; rfl; (first | assumption | exact hT _ _)))
           | ((with_reducible apply ops_struct); rfl; rfl; (first | assumption); rfl; rfl; rfl; rfl; rfl; exact Nat.le_of_ble_eq_true rfl; rfl)
           | ((with_reducible apply ops_bslice1); rfl; rfl; rfl)
           | ((with_reducible apply ops_push); rfl; rfl; (first | assumption); (first | assumption); assumption; assumption; assumption; (first | rfl | assumption); omega; rfl)
           | ((with_reducible apply ops_cutN); rfl; rfl; omega)
           | exact ops_of rfl
         · dsimp only [putV, List.set]; try rfl)
      | ((with_reducible apply d_go)
         · rfl
         · first
           | ((with_reducible apply ops_add); rfl; rfl; (first | assumption | rfl); omega; omega)
           | ((with_reducible apply ops_sub); rfl; rfl; (first | assumption | rfl); omega; omega)
           | ((with_reducible apply ops_mul); rfl; rfl; (first | assumption | rfl); omega; omega)
           | ((with_reducible apply ops_quo); rfl; rfl; decide; (first | assumption | rfl); omega; omega)
           | ((with_reducible apply ops_rem); rfl; rfl; omega; (first | assumption | rfl))
           | ((with_reducible apply ops_lss); rfl; rfl; (first | assumption | rfl))
           | ((with_reducible apply ops_gtr); rfl; rfl; (first | assumption | rfl))
           | ((with_reducible apply ops_leq); rfl; rfl; (first | assumption | rfl))
           | ((with_reducible apply ops_geq); rfl; rfl; (first | assumption | rfl))
           | ((with_reducible apply ops_eql); rfl; rfl; (first | assumption | rfl))
           | ((with_reducible apply ops_neq); rfl; rfl; (first | assumption | rfl))
           | ((with_reducible apply ops_min2); rfl; (first | assumption | rfl))
           | ((with_reducible apply ops_max2); rfl; (first | assumption | rfl))
           | ((with_reducible apply ops_iaddrN); rfl; rfl; omega; rfl)
           | ((with_reducible apply ops_iaddr); rfl; rfl; omega; omega; rfl; rfl)
           | ((with_reducible apply ops_load); rfl; exact rowAt_of (by first | assumption) (Nat.zero_le _) (Nat.zero_le _); rfl; rfl)
           | ((with_reducible apply arr_loadN); rfl; (first | assumption); assumption; assumption; (first | assumption | (apply ints_get; omega) | (apply nats_get; omega)); rfl)
           | ((with_reducible apply arr_storeN); rfl; rfl; (first | assumption); assumption; assumption; (first | assumption | (apply ints_get; omega) | (apply nats_get; omega)); rfl; rfl; rfl; rfl; rfl)
           | ((apply hsl.len; rfl))
           | ((apply hsl.at_; rfl; rfl; omega))
           | (((with_reducible apply ops_conv); rfl; omega; omega))
           | (((with_reducible apply ops_push0); rfl; rfl; (first | assumption | exact hT _ _)))
           | ((with_reducible apply ops_struct); rfl; rfl; (first | assumption); rfl; rfl; rfl; rfl; rfl; exact Nat.le_of_ble_eq_true rfl; rfl)
           | ((with_reducible apply ops_bslice1); rfl; rfl; rfl)
           | ((with_reducible apply ops_push); rfl; rfl; (first | assumption); (first | assumption); assumption; assumption; assumption; (first | rfl | assumption); omega; rfl)
           | ((with_reducible apply ops_cutN); rfl; rfl; omega)
           | exact ops_of rfl
         · (first | with_reducible exact free_empty | rw [allW_same] | rw [allW_set] | rw [allW_push]) <;> (repeat (first | with_reducible exact free_nil | with_reducible exact free_empty | ((with_reducible apply free_mask); rfl) | ((with_reducible apply free_ne); (focus (first | rfl | (simp [clash, meets, *]; done))))))
         · first | exact note_same | exact note_read | exact note_set | exact note_push
         · dsimp only [putV, List.set]; try rfl))
      refine back_loop2 (bL := bL) (F := F) hsl (by omega) ha (by omega) _ (a % n + 1) 0 .nils [] (fun _ => true) h2 _ _ _ _ _ _ _ _ _ _ _ _ _ _ _ _ _ _ _ _ _ _ _ _ _ _ _ _ _ _ _ _ _ _ _ _ _ _ _ _ _ _ _ _ _ _ _ _ _ _ _ _ _ _ _ _ _ _ _ _ _ _ _ _ _ _ _ _ _ _ _ _ _ _ _ _ _ _ _ _ _ _ _ _ _ _ _ _ _ _ _ _ _ _ _ _ _ _ _ _ _ _ _ _ _ _ _ _ _ _ _ _ _ _ _ _ _ _ _ _ (by omega) rfl a1 (fun u _ _ => by simp) (fun j hj => by simp at hj) (.inl ⟨rfl, rfl⟩) ?_
      intro ov vs S h3 r3 w3 z k2 k3 k4 k6 k7 k10 k11 k12 k13 k14 k15 k16 k17 k18 k19 k20 k21 k22 k23 k24 k25 k26 k27 k28 k29 k30 k31 k32 k33 k34 k35 k36 k37 k38 k39 k40 k41 k42 k43 k44 k45 k46 k47 k48 k49 k50 k51 k52 k53 k54 k55 k56 k57 k58 k59 k60 k61 k62 k63 k64 k65 k66 k67 k68 k69 k70 k71 k72 k73 k74 k75 k76 k77 k78 k79 k80 k81 k82 k83 k84 k85 k86 k87 k88 k89 k90 k91 k92 k93 k94 k95 k96 k97 k98 k99 k100 k101 k102 k103 k104 k105 k106 k107 k108 k109 k110 k111 k112 k113 k114 k115 k116 k117 k118 k119 k120 k121 k122 b1 b2 b3 b4 b5
      rcases b5 with ⟨_, b5⟩ | ⟨bO, o1, o2, o3⟩
      · subst b5; simp at b2
      obtain ⟨cO, rO, jO, eO, hO, sO, oO, lO⟩ := o2
      subst eO
      have o3 : cO = false := o3
      subst o3
      simp only [List.mem_cons, List.not_mem_nil, or_false, not_or] at o1
      obtain ⟨m1, m2, m3, m4⟩ := o1
      have lV := nats_len vs
      obtain ⟨zz, hzz⟩ : ∃ zz : Int, ((nats vs).length : Int) - 1 = zz := ⟨_, rfl⟩
      repeat (first
      | with_reducible apply q_seq
      | with_reducible apply q_reg
      | with_reducible apply q_draw
      | with_reducible apply q_ret
      | with_reducible apply q_skip
      | with_reducible apply q_exit
      | with_reducible apply q_block
      | with_reducible apply k_norm
      | with_reducible apply k_ret
      | with_reducible apply k_exit
      | with_reducible apply b_norm
      | with_reducible apply b_ret
      | with_reducible apply b_leave
      | ((with_reducible apply b_exit); decide)
      | with_reducible apply g_nil
      | with_reducible apply d_nil
      | ((with_reducible apply q_true); rfl)
      | ((with_reducible apply q_false); rfl)
      | ((with_reducible apply g_skip)
         · rfl
         · dsimp only [putV, List.set]; try rfl)
      | ((with_reducible apply d_skip)
         · rfl
         · dsimp only [putV, List.set]; try rfl)
      | ((with_reducible apply g_go)
         · rfl
         · first
           | ((with_reducible apply ops_add); rfl; rfl; (first | assumption | rfl); omega; omega)
           | ((with_reducible apply ops_sub); rfl; rfl; (first | assumption | rfl); omega; omega)
           | ((with_reducible apply ops_mul); rfl; rfl; (first | assumption | rfl); omega; omega)
           | ((with_reducible apply ops_quo); rfl; rfl; decide; (first | assumption | rfl); omega; omega)
           | ((with_reducible apply ops_rem); rfl; rfl; omega; (first | assumption | rfl))
           | ((with_reducible apply ops_lss); rfl; rfl; (first | assumption | rfl))
           | ((with_reducible apply ops_gtr); rfl; rfl; (first | assumption | rfl))
           | ((with_reducible apply ops_leq); rfl; rfl; (first | assumption | rfl))
           | ((with_reducible apply ops_geq); rfl; rfl; (first | assumption | rfl))
           | ((with_reducible apply ops_eql); rfl; rfl; (first | assumption | rfl))
           | ((with_reducible apply ops_neq); rfl; rfl; (first | assumption | rfl))
           | ((with_reducible apply ops_min2); rfl; (first | assumption | rfl))
           | ((with_reducible apply ops_max2); rfl; (first | assumption | rfl))
           | ((with_reducible apply ops_iaddrN); rfl; rfl; omega; rfl)
           | ((with_reducible apply ops_iaddr); rfl; rfl; omega; omega; rfl; rfl)
           | ((with_reducible apply ops_load); rfl; exact rowAt_of (by first | assumption) (Nat.zero_le _) (Nat.zero_le _); rfl; rfl)
           | ((with_reducible apply arr_loadN); rfl; (first | assumption); assumption; assumption; (first | assumption | (apply ints_get; omega) | (apply nats_get; omega)); rfl)
           | ((with_reducible apply arr_storeN); rfl; rfl; (first | assumption); assumption; assumption; (first | assumption | (apply ints_get; omega) | (apply nats_get; omega)); rfl; rfl; rfl; rfl; rfl)
           | ((apply hsl.len; rfl))
           | ((apply hsl.at_; rfl; rfl; omega))
           | (((with_reducible apply ops_conv); rfl; omega; omega))
           | (((with_reducible apply ops_push0); rfl; rfl; (first | assumption | exact hT _ _)))
           | ((with_reducible apply ops_struct); rfl; rfl; (first | assumption); rfl; rfl; rfl; rfl; rfl; exact Nat.le_of_ble_eq_true rfl; rfl)
           | ((with_reducible apply ops_bslice1); rfl; rfl; rfl)
           | ((with_reducible apply ops_push); rfl; rfl; (first | assumption); (first | assumption); assumption; assumption; assumption; (first | rfl | assumption); omega; rfl)
           | ((with_reducible apply ops_cutN); rfl; rfl; omega)
           | exact ops_of rfl
         · dsimp only [putV, List.set]; try rfl)
      | ((with_reducible apply d_go)
         · rfl
         · first
           | ((with_reducible apply ops_add); rfl; rfl; (first | assumption | rfl); omega; omega)
           | ((with_reducible apply ops_sub); rfl; rfl; (first | assumption | rfl); omega; omega)
           | ((with_reducible apply ops_mul); rfl; rfl; (first | assumption | rfl); omega; omega)
           | ((with_reducible apply ops_quo); rfl; rfl; decide; (first | assumption | rfl); omega; omega)
           | ((with_reducible apply ops_rem); rfl; rfl; omega; (first | assumption | rfl))
           | ((with_reducible apply ops_lss); rfl; rfl; (first | assumption | rfl))
           | ((with_reducible apply ops_gtr); rfl; rfl; (first | assumption | rfl))
           | ((with_reducible apply ops_leq); rfl; rfl; (first | assumption | rfl))
           | ((with_reducible apply ops_geq); rfl; rfl; (first | assumption | rfl))
           | ((with_reducible apply ops_eql); rfl; rfl; (first | assumption | rfl))
           | ((with_reducible apply ops_neq); rfl; rfl; (first | assumption | rfl))
           | ((with_reducible apply ops_min2); rfl; (first | assumption | rfl))
           | ((with_reducible apply ops_max2); rfl; (first | assumption | rfl))
           | ((with_reducible apply ops_iaddrN); rfl; rfl; omega; rfl)
           | ((with_reducible apply ops_iaddr); rfl; rfl; omega; omega; rfl; rfl)
           | ((with_reducible apply ops_load); rfl; exact rowAt_of (by first | assumption) (Nat.zero_le _) (Nat.zero_le _); rfl; rfl)
           | ((with_reducible apply arr_loadN); rfl; (first | assumption); assumption; assumption; (first | assumption | (apply ints_get; omega) | (apply nats_get; omega)); rfl)
           | ((with_reducible apply arr_storeN); rfl; rfl; (first | assumption); assumption; assumption; (first | assumption | (apply ints_get; omega) | (apply nats_get; omega)); rfl; rfl; rfl; rfl; rfl)
           | ((apply hsl.len; rfl))
           | ((apply hsl.at_; rfl; rfl; omega))
           | (((with_reducible apply ops_conv); rfl; omega; omega))
           | (((with_reducible apply ops_push0); rfl; rfl; (first | assumption | exact hT _ _)))
           | ((with_reducible apply ops_struct); rfl; rfl; (first | assumption); rfl; rfl; rfl; rfl; rfl; exact Nat.le_of_ble_eq_true rfl; rfl)
           | ((with_reducible apply ops_bslice1); rfl; rfl; rfl)
           | ((with_reducible apply ops_push); rfl; rfl; (first | assumption); (first | assumption); assumption; assumption; assumption; (first | rfl | assumption); omega; rfl)
           | ((with_reducible apply ops_cutN); rfl; rfl; omega)
           | exact ops_of rfl
         · (first | with_reducible exact free_empty | rw [allW_same] | rw [allW_set] | rw [allW_push]) <;> (repeat (first | with_reducible exact free_nil | with_reducible exact free_empty | ((with_reducible apply free_mask); rfl) | ((with_reducible apply free_ne); (focus (first | rfl | (simp [clash, meets, *]; done))))))
         · first | exact note_same | exact note_read | exact note_set | exact note_push
         · dsimp only [putV, List.set]; try rfl))
      refine back_loop4 (bL := bL) (F := F) hsl (by omega) ha sO oO lO m1 m2 m3 m4 b4 _ vs.length zz S h3 _ _ _ _ _ _ _ _ _ _ _ _ _ _ _ _ _ _ _ _ _ _ _ _ _ _ _ _ _ _ _ _ _ _ _ _ _ _ _ _ _ _ _ _ _ _ _ _ _ _ _ _ _ _ _ _ _ _ _ _ _ _ _ _ _ _ _ _ _ _ _ _ _ _ _ _ _ _ _ _ _ _ _ _ _ _ _ _ _ _ _ _ _ _ _ _ _ _ _ _ _ _ _ _ _ _ _ _ _ _ _ _ _ _ _ _ _ _ _ _ (by omega) (Nat.le_refl _) (by omega) (by rw [b2]; exact b1) (by rw [b2]; exact b3) hO ?_
      intro S4 h4 r4 w4 z4 k2 k3 k4 k6 k7 k9 k10 k11 k13 k14 k15 k16 k17 k18 k19 k20 k21 k22 k23 k24 k25 k26 k27 k28 k29 k30 k31 k32 k33 k34 k35 k36 k37 k38 k39 k40 k41 k42 k43 k44 k45 k46 k47 k48 k49 k50 k51 k52 k53 k54 k55 k56 k57 k58 k59 k60 k61 k62 k63 k64 k65 k66 k67 k68 k69 k70 k71 k72 k73 k74 k75 k76 k77 k78 k79 k80 k81 k82 k83 k84 k85 k86 k87 k88 k89 k90 k91 k92 k93 k94 k95 k96 k97 k98 k99 k100 k101 k102 k103 k104 k105 k106 k107 k108 k109 k110 k111 k112 k113 k114 k115 k116 k117 k118 k119 k120 k121 k122 e1 e2 e3
      repeat (first
      | with_reducible apply q_seq
      | with_reducible apply q_reg
      | with_reducible apply q_draw
      | with_reducible apply q_ret
      | with_reducible apply q_skip
      | with_reducible apply q_exit
      | with_reducible apply q_block
      | with_reducible apply k_norm
      | with_reducible apply k_ret
      | with_reducible apply k_exit
      | with_reducible apply b_norm
      | with_reducible apply b_ret
      | with_reducible apply b_leave
      | ((with_reducible apply b_exit); decide)
      | with_reducible apply g_nil
      | with_reducible apply d_nil
      | ((with_reducible apply q_true); rfl)
      | ((with_reducible apply q_false); rfl)
      | ((with_reducible apply g_skip)
         · rfl
         · dsimp only [putV, List.set]; try rfl)
      | ((with_reducible apply d_skip)
         · rfl
         · dsimp only [putV, List.set]; try rfl)
      | ((with_reducible apply g_go)
         · rfl
         · first
           | ((with_reducible apply ops_add); rfl; rfl; (first | assumption | rfl); omega; omega)
           | ((with_reducible apply ops_sub); rfl; rfl; (first | assumption | rfl); omega; omega)
           | ((with_reducible apply ops_mul); rfl; rfl; (first | assumption | rfl); omega; omega)
           | ((with_reducible apply ops_quo); rfl; rfl; decide; (first | assumption | rfl); omega; omega)
           | ((with_reducible apply ops_rem); rfl; rfl; omega; (first | assumption | rfl))
           | ((with_reducible apply ops_lss); rfl; rfl; (first | assumption | rfl))
           | ((with_reducible apply ops_gtr); rfl; rfl; (first | assumption | rfl))
           | ((with_reducible apply ops_leq); rfl; rfl; (first | assumption | rfl))
           | ((with_reducible apply ops_geq); rfl; rfl; (first | assumption | rfl))
           | ((with_reducible apply ops_eql); rfl; rfl; (first | assumption | rfl))
           | ((with_reducible apply ops_neq); rfl; rfl; (first | assumption | rfl))
           | ((with_reducible apply ops_min2); rfl; (first | assumption | rfl))
           | ((with_reducible apply ops_max2); rfl; (first | assumption | rfl))
           | ((with_reducible apply ops_iaddrN); rfl; rfl; omega; rfl)
           | ((with_reducible apply ops_iaddr); rfl; rfl; omega; omega; rfl; rfl)
           | ((with_reducible apply ops_load); rfl; exact rowAt_of (by first | assumption) (Nat.zero_le _) (Nat.zero_le _); rfl; rfl)
           | ((with_reducible apply arr_loadN); rfl; (first | assumption); assumption; assumption; (first | assumption | (apply ints_get; omega) | (apply nats_get; omega)); rfl)
           | ((with_reducible apply arr_storeN); rfl; rfl; (first | assumption); assumption; assumption; (first | assumption | (apply ints_get; omega) | (apply nats_get; omega)); rfl; rfl; rfl; rfl; rfl)
           | ((apply hsl.len; rfl))
           | ((apply hsl.at_; rfl; rfl; omega))
           | (((with_reducible apply ops_conv); rfl; omega; omega))
           | (((with_reducible apply ops_push0); rfl; rfl; (first | assumption | exact hT _ _)))
           | ((with_reducible apply ops_struct); rfl; rfl; (first | assumption); rfl; rfl; rfl; rfl; rfl; exact Nat.le_of_ble_eq_true rfl; rfl)
           | ((with_reducible apply ops_bslice1); rfl; rfl; rfl)
           | ((with_reducible apply ops_push); rfl; rfl; (first | assumption); (first | assumption); assumption; assumption; assumption; (first | rfl | assumption); omega; rfl)
           | ((with_reducible apply ops_cutN); rfl; rfl; omega)
           | exact ops_of rfl
         · dsimp only [putV, List.set]; try rfl)
      | ((with_reducible apply d_go)
         · rfl
         · first
           | ((with_reducible apply ops_add); rfl; rfl; (first | assumption | rfl); omega; omega)
           | ((with_reducible apply ops_sub); rfl; rfl; (first | assumption | rfl); omega; omega)
           | ((with_reducible apply ops_mul); rfl; rfl; (first | assumption | rfl); omega; omega)
           | ((with_reducible apply ops_quo); rfl; rfl; decide; (first | assumption | rfl); omega; omega)
           | ((with_reducible apply ops_rem); rfl; rfl; omega; (first | assumption | rfl))
           | ((with_reducible apply ops_lss); rfl; rfl; (first | assumption | rfl))
           | ((with_reducible apply ops_gtr); rfl; rfl; (first | assumption | rfl))
           | ((with_reducible apply ops_leq); rfl; rfl; (first | assumption | rfl))
           | ((with_reducible apply ops_geq); rfl; rfl; (first | assumption | rfl))
           | ((with_reducible apply ops_eql); rfl; rfl; (first | assumption | rfl))
           | ((with_reducible apply ops_neq); rfl; rfl; (first | assumption | rfl))
           | ((with_reducible apply ops_min2); rfl; (first | assumption | rfl))
           | ((with_reducible apply ops_max2); rfl; (first | assumption | rfl))
           | ((with_reducible apply ops_iaddrN); rfl; rfl; omega; rfl)
           | ((with_reducible apply ops_iaddr); rfl; rfl; omega; omega; rfl; rfl)
           | ((with_reducible apply ops_load); rfl; exact rowAt_of (by first | assumption) (Nat.zero_le _) (Nat.zero_le _); rfl; rfl)
           | ((with_reducible apply arr_loadN); rfl; (first | assumption); assumption; assumption; (first | assumption | (apply ints_get; omega) | (apply nats_get; omega)); rfl)
           | ((with_reducible apply arr_storeN); rfl; rfl; (first | assumption); assumption; assumption; (first | assumption | (apply ints_get; omega) | (apply nats_get; omega)); rfl; rfl; rfl; rfl; rfl)
           | ((apply hsl.len; rfl))
           | ((apply hsl.at_; rfl; rfl; omega))
           | (((with_reducible apply ops_conv); rfl; omega; omega))
           | (((with_reducible apply ops_push0); rfl; rfl; (first | assumption | exact hT _ _)))
           | ((with_reducible apply ops_struct); rfl; rfl; (first | assumption); rfl; rfl; rfl; rfl; rfl; exact Nat.le_of_ble_eq_true rfl; rfl)
           | ((with_reducible apply ops_bslice1); rfl; rfl; rfl)
           | ((with_reducible apply ops_push); rfl; rfl; (first | assumption); (first | assumption); assumption; assumption; assumption; (first | rfl | assumption); omega; rfl)
           | ((with_reducible apply ops_cutN); rfl; rfl; omega)
           | exact ops_of rfl
         · (first | with_reducible exact free_empty | rw [allW_same] | rw [allW_set] | rw [allW_push]) <;> (repeat (first | with_reducible exact free_nil | with_reducible exact free_empty | ((with_reducible apply free_mask); rfl) | ((with_reducible apply free_ne); (focus (first | rfl | (simp [clash, meets, *]; done))))))
         · first | exact note_same | exact note_read | exact note_set | exact note_push
         · dsimp only [putV, List.set]; try rfl))
      refine back_loop6 (bL := bL) (F := F) hsl (by omega) ha sO oO lO m1 m2 m3 m4 b4 _ vs.length 0 S4 h4 _ _ _ _ _ _ _ _ _ _ _ _ _ _ _ _ _ _ _ _ _ _ _ _ _ _ _ _ _ _ _ _ _ _ _ _ _ _ _ _ _ _ _ _ _ _ _ _ _ _ _ _ _ _ _ _ _ _ _ _ _ _ _ _ _ _ _ _ _ _ _ _ _ _ _ _ _ _ _ _ _ _ _ _ _ _ _ _ _ _ _ _ _ _ _ _ _ _ _ _ _ _ _ _ _ _ _ _ _ _ _ _ _ _ _ _ _ _ _ _ (by omega) (by omega) e1 e2 e3 ?_
      intro S5 h5 r5 w5 z5 k2 k3 k4 k6 k7 k9 k10 k11 k12 k14 k15 k16 k17 k18 k19 k20 k21 k22 k23 k24 k25 k26 k27 k28 k29 k30 k31 k32 k33 k34 k35 k36 k37 k38 k39 k40 k41 k42 k43 k44 k45 k46 k47 k48 k49 k50 k51 k52 k53 k54 k55 k56 k57 k58 k59 k60 k61 k62 k63 k64 k65 k66 k67 k68 k69 k70 k71 k72 k73 k74 k75 k76 k77 k78 k79 k80 k81 k82 k83 k84 k85 k86 k87 k88 k89 k90 k91 k92 k93 k94 k95 k96 k97 k98 k99 k100 k101 k102 k103 k104 k105 k106 k107 k108 k109 k110 k111 k112 k113 k114 k115 k116 k117 k118 k119 k120 k121 k122 f1
      have gl := hv_len f1
      have e5 : (n : Int) - ((nats vs).length : Int) = ((n - vs.length : Nat) : Int) := by omega
      have c3 : decide (((n - vs.length : Nat) : Int) = ((n - vs.length : Nat) : Int)) = true := decide_eq_true rfl
      repeat (first
      | with_reducible apply q_seq
      | with_reducible apply q_reg
      | with_reducible apply q_draw
      | with_reducible apply q_ret
      | with_reducible apply q_skip
      | with_reducible apply q_exit
      | with_reducible apply q_block
      | with_reducible apply k_norm
      | with_reducible apply k_ret
      | with_reducible apply k_exit
      | with_reducible apply b_norm
      | with_reducible apply b_ret
      | with_reducible apply b_leave
      | ((with_reducible apply b_exit); decide)
      | with_reducible apply g_nil
      | with_reducible apply d_nil
      | ((with_reducible apply q_true); rfl)
      | ((with_reducible apply q_false); rfl)
      | ((with_reducible apply g_skip)
         · rfl
         · dsimp only [putV, List.set]; try rfl)
      | ((with_reducible apply d_skip)
         · rfl
         · dsimp only [putV, List.set]; try rfl)
      | ((with_reducible apply g_read)
         · rfl
         · rfl
         · rfl
         · exact gl
         · dsimp only [putV, List.set]; try rfl
         intro _)
      | ((with_reducible apply d_read)
         · rfl
         · rfl
         · rfl
         · exact gl
         · rfl
         · dsimp only [putV, List.set]; try rfl
         intro _ _)
      | ((with_reducible apply g_go)
         · rfl
         · first
           | ((with_reducible apply ops_add); rfl; rfl; (first | assumption | rfl); omega; omega)
           | ((with_reducible apply ops_sub); rfl; rfl; (first | assumption | rfl); omega; omega)
           | ((with_reducible apply ops_mul); rfl; rfl; (first | assumption | rfl); omega; omega)
           | ((with_reducible apply ops_quo); rfl; rfl; decide; (first | assumption | rfl); omega; omega)
           | ((with_reducible apply ops_rem); rfl; rfl; omega; (first | assumption | rfl))
           | ((with_reducible apply ops_lss); rfl; rfl; (first | assumption | rfl))
           | ((with_reducible apply ops_gtr); rfl; rfl; (first | assumption | rfl))
           | ((with_reducible apply ops_leq); rfl; rfl; (first | assumption | rfl))
           | ((with_reducible apply ops_geq); rfl; rfl; (first | assumption | rfl))
           | ((with_reducible apply ops_eql); rfl; rfl; (first | assumption | rfl))
           | ((with_reducible apply ops_neq); rfl; rfl; (first | assumption | rfl))
           | ((with_reducible apply ops_min2); rfl; (first | assumption | rfl))
           | ((with_reducible apply ops_max2); rfl; (first | assumption | rfl))
           | ((with_reducible apply ops_iaddrN); rfl; rfl; omega; rfl)
           | ((with_reducible apply ops_iaddr); rfl; rfl; omega; omega; rfl; rfl)
           | ((with_reducible apply ops_load); rfl; exact rowAt_of (by first | assumption) (Nat.zero_le _) (Nat.zero_le _); rfl; rfl)
           | ((with_reducible apply arr_loadN); rfl; (first | assumption); assumption; assumption; (first | assumption | (apply ints_get; omega) | (apply nats_get; omega)); rfl)
           | ((with_reducible apply arr_storeN); rfl; rfl; (first | assumption); assumption; assumption; (first | assumption | (apply ints_get; omega) | (apply nats_get; omega)); rfl; rfl; rfl; rfl; rfl)
           | ((apply hsl.len; rfl))
           | ((apply hsl.at_; rfl; rfl; omega))
           | (((with_reducible apply ops_conv); rfl; omega; omega))
           | (((with_reducible apply ops_push0); rfl; rfl; (first | assumption | exact hT _ _)))
           | ((with_reducible apply ops_struct); rfl; rfl; (first | assumption); rfl; rfl; rfl; rfl; rfl; exact Nat.le_of_ble_eq_true rfl; rfl)
           | ((with_reducible apply ops_bslice1); rfl; rfl; rfl)
           | ((with_reducible apply ops_push); rfl; rfl; (first | assumption); (first | assumption); assumption; assumption; assumption; (first | rfl | assumption); omega; rfl)
           | ((with_reducible apply ops_cutN); rfl; rfl; omega)
           | exact ops_of rfl
         · dsimp only [putV, List.set]; try rfl)
      | ((with_reducible apply d_go)
         · rfl
         · first
           | ((with_reducible apply ops_add); rfl; rfl; (first | assumption | rfl); omega; omega)
           | ((with_reducible apply ops_sub); rfl; rfl; (first | assumption | rfl); omega; omega)
           | ((with_reducible apply ops_mul); rfl; rfl; (first | assumption | rfl); omega; omega)
           | ((with_reducible apply ops_quo); rfl; rfl; decide; (first | assumption | rfl); omega; omega)
           | ((with_reducible apply ops_rem); rfl; rfl; omega; (first | assumption | rfl))
           | ((with_reducible apply ops_lss); rfl; rfl; (first | assumption | rfl))
           | ((with_reducible apply ops_gtr); rfl; rfl; (first | assumption | rfl))
           | ((with_reducible apply ops_leq); rfl; rfl; (first | assumption | rfl))
           | ((with_reducible apply ops_geq); rfl; rfl; (first | assumption | rfl))
           | ((with_reducible apply ops_eql); rfl; rfl; (first | assumption | rfl))
           | ((with_reducible apply ops_neq); rfl; rfl; (first | assumption | rfl))
           | ((with_reducible apply ops_min2); rfl; (first | assumption | rfl))
           | ((with_reducible apply ops_max2); rfl; (first | assumption | rfl))
           | ((with_reducible apply ops_iaddrN); rfl; rfl; omega; rfl)
           | ((with_reducible apply ops_iaddr); rfl; rfl; omega; omega; rfl; rfl)
           | ((with_reducible apply ops_load); rfl; exact rowAt_of (by first | assumption) (Nat.zero_le _) (Nat.zero_le _); rfl; rfl)
           | ((with_reducible apply arr_loadN); rfl; (first | assumption); assumption; assumption; (first | assumption | (apply ints_get; omega) | (apply nats_get; omega)); rfl)
           | ((with_reducible apply arr_storeN); rfl; rfl; (first | assumption); assumption; assumption; (first | assumption | (apply ints_get; omega) | (apply nats_get; omega)); rfl; rfl; rfl; rfl; rfl)
           | ((apply hsl.len; rfl))
           | ((apply hsl.at_; rfl; rfl; omega))
           | (((with_reducible apply ops_conv); rfl; omega; omega))
           | (((with_reducible apply ops_push0); rfl; rfl; (first | assumption | exact hT _ _)))
           | ((with_reducible apply ops_struct); rfl; rfl; (first | assumption); rfl; rfl; rfl; rfl; rfl; exact Nat.le_of_ble_eq_true rfl; rfl)
           | ((with_reducible apply ops_bslice1); rfl; rfl; rfl)
           | ((with_reducible apply ops_push); rfl; rfl; (first | assumption); (first | assumption); assumption; assumption; assumption; (first | rfl | assumption); omega; rfl)
           | ((with_reducible apply ops_cutN); rfl; rfl; omega)
           | exact ops_of rfl
         · (first | with_reducible exact free_empty | rw [allW_same] | rw [allW_set] | rw [allW_push]) <;> (repeat (first | with_reducible exact free_nil | with_reducible exact free_empty | ((with_reducible apply free_mask); rfl) | ((with_reducible apply free_ne); (focus (first | rfl | (simp [clash, meets, *]; done))))))
         · first | exact note_same | exact note_read | exact note_set | exact note_push
         · dsimp only [putV, List.set]; try rfl))
      exact ⟨.inl rfl, _, _, rfl, rfl⟩
end Go.Proofs.Ytmmipfmdkoaekaa.Code
