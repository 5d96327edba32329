/- A part of the proof: HeapRun1. No condition. -/
import Derived.Test.YtmmipfmdkoaekaaCodeH
import Derived.Test.YtmmipfmdkoaekaaHeapD
set_option linter.all false
set_option maxRecDepth 100000
namespace Go.Proofs.Ytmmipfmdkoaekaa.Code
open Go.Mini Go.HeapMath Go.HeapRun
set_option linter.all false
set_option maxHeartbeats 1000000
def modeH (f : FuncId) : Go.Mini.Mode := bif Nat.blt f 9 then .pure else .keep
def EH : Env := envOf tab modeH [(8, [], .bool true)]
/-- in: one of the heap's -/
theorem in_run {h : H} {b bL bP bA : Nat} {L : List Nat} {P A : List Int} (hH : HeapAt h b bL bP bA L P A) {v : Int} :
    ∃ r, Calls' EH 24 [.ptr b 0 0 0, .int .i64 v] h ⟨.bool (decide (0 < v ∧ v < P.length)), h, r, []⟩ := by
  obtain ⟨⟨lv, pv, av, hb, hl, hp, ha, hcl⟩, n1, n2, n3, n4, n5, n6⟩ := hH
  obtain ⟨cP, rP, jP, eP, hP, sP, oP, lP⟩ := hp
  subst eP
  cases hc : decide (0 < v)
  · apply Exists.intro
    apply calls_keep (by rfl) (by rfl) (by simp only [List.length_cons, List.length_nil, List.replicate, List.cons_append, List.nil_append]; try rfl)
    · repeat (first
        | with_reducible apply gg_seq
        | with_reducible apply cont_norm
        | with_reducible exact cont_ret
        | with_reducible exact cont_exit
        | with_reducible apply go_reg
        | with_reducible apply go_draw
        | with_reducible exact go_ret
        | with_reducible exact go_skip
        | with_reducible exact go_exit
        | ((with_reducible apply go_true); rfl)
        | ((with_reducible apply go_false); rfl)
        | ((with_reducible apply regs_go)
           · rfl
           · first
             | ((with_reducible apply ops_add); rfl; rfl; (first | assumption | rfl); omega; omega)
             | ((with_reducible apply ops_sub); rfl; rfl; (first | assumption | rfl); omega; omega)
             | ((with_reducible apply ops_mul); rfl; rfl; (first | assumption | rfl); omega; omega)
             | ((with_reducible apply ops_quo); rfl; rfl; decide; (first | assumption | rfl); omega; omega)
             | ((with_reducible apply ops_rem); rfl; rfl; omega; (first | assumption | rfl))
             | ((with_reducible apply ops_lss); rfl; rfl; (first | assumption | rfl))
             | ((with_reducible apply ops_gtr); rfl; rfl; (first | assumption | rfl))
             | ((with_reducible apply ops_leq); rfl; rfl; (first | assumption | rfl))
             | ((with_reducible apply ops_geq); rfl; rfl; (first | assumption | rfl))
             | ((with_reducible apply ops_eql); rfl; rfl; (first | assumption | rfl))
             | ((with_reducible apply ops_neq); rfl; rfl; (first | assumption | rfl))
             | ((with_reducible apply ops_min2); rfl; (first | assumption | rfl))
             | ((with_reducible apply ops_max2); rfl; (first | assumption | rfl))
             | ((with_reducible apply ops_iaddrN); rfl; rfl; omega; rfl)
             | ((with_reducible apply ops_iaddr); rfl; rfl; omega; omega; rfl; rfl)
             | ((with_reducible apply ops_load); rfl; exact rowAt_of (by first | assumption) (Nat.zero_le _) (Nat.zero_le _); rfl; rfl)
             | ((with_reducible apply arr_loadN); rfl; (first | assumption); assumption; assumption; (first | assumption | (apply ints_get; omega) | (apply nats_get; omega)); rfl)
             | ((with_reducible apply arr_storeN); rfl; rfl; (first | assumption); assumption; assumption; (first | assumption | (apply ints_get; omega) | (apply nats_get; omega)); rfl; rfl; rfl; rfl; rfl)
             | ((with_reducible apply ops_struct); rfl; rfl; (first | assumption); rfl; rfl; rfl; rfl; rfl; exact Nat.le_of_ble_eq_true rfl; rfl)
             | ((with_reducible apply ops_bslice1); rfl; rfl; rfl)
             | ((with_reducible apply ops_push); rfl; rfl; (first | assumption); (first | assumption); assumption; assumption; assumption; assumption; omega; rfl)
             | ((with_reducible apply ops_cutN); rfl; rfl; omega)
             | exact ops_of rfl
           · dsimp only [putV, List.set]; try rfl
           · rfl
           · rfl)
        | ((with_reducible apply regs_skip)
           · rfl
           · dsimp only [putV, List.set]; try rfl)
        | ((with_reducible apply draws_go)
           · rfl
           · first
             | ((with_reducible apply ops_add); rfl; rfl; (first | assumption | rfl); omega; omega)
             | ((with_reducible apply ops_sub); rfl; rfl; (first | assumption | rfl); omega; omega)
             | ((with_reducible apply ops_mul); rfl; rfl; (first | assumption | rfl); omega; omega)
             | ((with_reducible apply ops_quo); rfl; rfl; decide; (first | assumption | rfl); omega; omega)
             | ((with_reducible apply ops_rem); rfl; rfl; omega; (first | assumption | rfl))
             | ((with_reducible apply ops_lss); rfl; rfl; (first | assumption | rfl))
             | ((with_reducible apply ops_gtr); rfl; rfl; (first | assumption | rfl))
             | ((with_reducible apply ops_leq); rfl; rfl; (first | assumption | rfl))
             | ((with_reducible apply ops_geq); rfl; rfl; (first | assumption | rfl))
             | ((with_reducible apply ops_eql); rfl; rfl; (first | assumption | rfl))
             | ((with_reducible apply ops_neq); rfl; rfl; (first | assumption | rfl))
             | ((with_reducible apply ops_min2); rfl; (first | assumption | rfl))
             | ((with_reducible apply ops_max2); rfl; (first | assumption | rfl))
             | ((with_reducible apply ops_iaddrN); rfl; rfl; omega; rfl)
             | ((with_reducible apply ops_iaddr); rfl; rfl; omega; omega; rfl; rfl)
             | ((with_reducible apply ops_load); rfl; exact rowAt_of (by first | assumption) (Nat.zero_le _) (Nat.zero_le _); rfl; rfl)
             | ((with_reducible apply arr_loadN); rfl; (first | assumption); assumption; assumption; (first | assumption | (apply ints_get; omega) | (apply nats_get; omega)); rfl)
             | ((with_reducible apply arr_storeN); rfl; rfl; (first | assumption); assumption; assumption; (first | assumption | (apply ints_get; omega) | (apply nats_get; omega)); rfl; rfl; rfl; rfl; rfl)
             | ((with_reducible apply ops_struct); rfl; rfl; (first | assumption); rfl; rfl; rfl; rfl; rfl; exact Nat.le_of_ble_eq_true rfl; rfl)
             | ((with_reducible apply ops_bslice1); rfl; rfl; rfl)
             | ((with_reducible apply ops_push); rfl; rfl; (first | assumption); (first | assumption); assumption; assumption; assumption; assumption; omega; rfl)
             | ((with_reducible apply ops_cutN); rfl; rfl; omega)
             | exact ops_of rfl
           · (first | rw [allW_same] | rw [allW_set] | rw [allW_push]) <;> (repeat (first | with_reducible exact free_nil | ((with_reducible apply free_mask); rfl) | ((with_reducible apply free_ne); first | rfl | (simp [clash, meets, *]; done))))
           · first | exact note_same | exact note_read | exact note_set | exact note_push
           · dsimp only [putV, List.set]; try rfl
           · rfl
           · rfl)
        | ((with_reducible apply draws_skip)
           · rfl
           · dsimp only [putV, List.set]; try rfl)
        | with_reducible exact regs_nil
        | with_reducible exact draws_nil)
    · exact .inl rfl
    · have : decide (0 < v ∧ v < P.length) = false := by
        have := of_decide_eq_false hc
        exact decide_eq_false (fun h => this h.1)
      rw [this]; rfl
  · apply Exists.intro
    apply calls_keep (by rfl) (by rfl) (by simp only [List.length_cons, List.length_nil, List.replicate, List.cons_append, List.nil_append]; try rfl)
    · repeat (first
        | with_reducible apply gg_seq
        | with_reducible apply cont_norm
        | with_reducible exact cont_ret
        | with_reducible exact cont_exit
        | with_reducible apply go_reg
        | with_reducible apply go_draw
        | with_reducible exact go_ret
        | with_reducible exact go_skip
        | with_reducible exact go_exit
        | ((with_reducible apply go_true); rfl)
        | ((with_reducible apply go_false); rfl)
        | ((with_reducible apply regs_go)
           · rfl
           · first
             | ((with_reducible apply ops_add); rfl; rfl; (first | assumption | rfl); omega; omega)
             | ((with_reducible apply ops_sub); rfl; rfl; (first | assumption | rfl); omega; omega)
             | ((with_reducible apply ops_mul); rfl; rfl; (first | assumption | rfl); omega; omega)
             | ((with_reducible apply ops_quo); rfl; rfl; decide; (first | assumption | rfl); omega; omega)
             | ((with_reducible apply ops_rem); rfl; rfl; omega; (first | assumption | rfl))
             | ((with_reducible apply ops_lss); rfl; rfl; (first | assumption | rfl))
             | ((with_reducible apply ops_gtr); rfl; rfl; (first | assumption | rfl))
             | ((with_reducible apply ops_leq); rfl; rfl; (first | assumption | rfl))
             | ((with_reducible apply ops_geq); rfl; rfl; (first | assumption | rfl))
             | ((with_reducible apply ops_eql); rfl; rfl; (first | assumption | rfl))
             | ((with_reducible apply ops_neq); rfl; rfl; (first | assumption | rfl))
             | ((with_reducible apply ops_min2); rfl; (first | assumption | rfl))
             | ((with_reducible apply ops_max2); rfl; (first | assumption | rfl))
             | ((with_reducible apply ops_iaddrN); rfl; rfl; omega; rfl)
             | ((with_reducible apply ops_iaddr); rfl; rfl; omega; omega; rfl; rfl)
             | ((with_reducible apply ops_load); rfl; exact rowAt_of (by first | assumption) (Nat.zero_le _) (Nat.zero_le _); rfl; rfl)
             | ((with_reducible apply arr_loadN); rfl; (first | assumption); assumption; assumption; (first | assumption | (apply ints_get; omega) | (apply nats_get; omega)); rfl)
             | ((with_reducible apply arr_storeN); rfl; rfl; (first | assumption); assumption; assumption; (first | assumption | (apply ints_get; omega) | (apply nats_get; omega)); rfl; rfl; rfl; rfl; rfl)
             | ((with_reducible apply ops_struct); rfl; rfl; (first | assumption); rfl; rfl; rfl; rfl; rfl; exact Nat.le_of_ble_eq_true rfl; rfl)
             | ((with_reducible apply ops_bslice1); rfl; rfl; rfl)
             | ((with_reducible apply ops_push); rfl; rfl; (first | assumption); (first | assumption); assumption; assumption; assumption; assumption; omega; rfl)
             | ((with_reducible apply ops_cutN); rfl; rfl; omega)
             | exact ops_of rfl
           · dsimp only [putV, List.set]; try rfl
           · rfl
           · rfl)
        | ((with_reducible apply regs_skip)
           · rfl
           · dsimp only [putV, List.set]; try rfl)
        | ((with_reducible apply draws_go)
           · rfl
           · first
             | ((with_reducible apply ops_add); rfl; rfl; (first | assumption | rfl); omega; omega)
             | ((with_reducible apply ops_sub); rfl; rfl; (first | assumption | rfl); omega; omega)
             | ((with_reducible apply ops_mul); rfl; rfl; (first | assumption | rfl); omega; omega)
             | ((with_reducible apply ops_quo); rfl; rfl; decide; (first | assumption | rfl); omega; omega)
             | ((with_reducible apply ops_rem); rfl; rfl; omega; (first | assumption | rfl))
             | ((with_reducible apply ops_lss); rfl; rfl; (first | assumption | rfl))
             | ((with_reducible apply ops_gtr); rfl; rfl; (first | assumption | rfl))
             | ((with_reducible apply ops_leq); rfl; rfl; (first | assumption | rfl))
             | ((with_reducible apply ops_geq); rfl; rfl; (first | assumption | rfl))
             | ((with_reducible apply ops_eql); rfl; rfl; (first | assumption | rfl))
             | ((with_reducible apply ops_neq); rfl; rfl; (first | assumption | rfl))
             | ((with_reducible apply ops_min2); rfl; (first | assumption | rfl))
             | ((with_reducible apply ops_max2); rfl; (first | assumption | rfl))
             | ((with_reducible apply ops_iaddrN); rfl; rfl; omega; rfl)
             | ((with_reducible apply ops_iaddr); rfl; rfl; omega; omega; rfl; rfl)
             | ((with_reducible apply ops_load); rfl; exact rowAt_of (by first | assumption) (Nat.zero_le _) (Nat.zero_le _); rfl; rfl)
             | ((with_reducible apply arr_loadN); rfl; (first | assumption); assumption; assumption; (first | assumption | (apply ints_get; omega) | (apply nats_get; omega)); rfl)
             | ((with_reducible apply arr_storeN); rfl; rfl; (first | assumption); assumption; assumption; (first | assumption | (apply ints_get; omega) | (apply nats_get; omega)); rfl; rfl; rfl; rfl; rfl)
             | ((with_reducible apply ops_struct); rfl; rfl; (first | assumption); rfl; rfl; rfl; rfl; rfl; exact Nat.le_of_ble_eq_true rfl; rfl)
             | ((with_reducible apply ops_bslice1); rfl; rfl; rfl)
             | ((with_reducible apply ops_push); rfl; rfl; (first | assumption); (first | assumption); assumption; assumption; assumption; assumption; omega; rfl)
             | ((with_reducible apply ops_cutN); rfl; rfl; omega)
             | exact ops_of rfl
           · (first | rw [allW_same] | rw [allW_set] | rw [allW_push]) <;> (repeat (first | with_reducible exact free_nil | ((with_reducible apply free_mask); rfl) | ((with_reducible apply free_ne); first | rfl | (simp [clash, meets, *]; done))))
           · first | exact note_same | exact note_read | exact note_set | exact note_push
           · dsimp only [putV, List.set]; try rfl
           · rfl
           · rfl)
        | ((with_reducible apply draws_skip)
           · rfl
           · dsimp only [putV, List.set]; try rfl)
        | with_reducible exact regs_nil
        | with_reducible exact draws_nil)
    · exact .inl rfl
    · have : decide (0 < v ∧ v < P.length) = decide (v < (ints P).length) := by
        have := of_decide_eq_true hc
        rw [ints_len]
        by_cases h : v < P.length <;> simp [h, this]
      rw [this]; rfl
/-- ahead -/
theorem ahead_run {h : H} {b bL bP bA : Nat} {L : List Nat} {P A : List Int} (hH : HeapAt h b bL bP bA L P A) {u v : Nat} (hu : u < A.length) (hv : v < A.length) :
    ∃ r, Calls' EH 28 [.ptr b 0 0 0, .int .i64 u, .int .i64 v] h ⟨.bool (decide (Ah (gI A) u v)), h, r, []⟩ := by
  obtain ⟨⟨lv, pv, av, hb, hl, hp, ha, hcl⟩, n1, n2, n3, n4, n5, n6⟩ := hH
  obtain ⟨cA, rA, jA, eA, hA, sA, oA, lA⟩ := ha
  subst eA
  have lI := ints_len A
  cases hc : (!decide (gI A u = gI A v))
  · apply Exists.intro
    apply calls_keep (by rfl) (by rfl) (by simp only [List.length_cons, List.length_nil, List.replicate, List.cons_append, List.nil_append]; try rfl)
    · repeat (first
        | with_reducible apply gg_seq
        | with_reducible apply cont_norm
        | with_reducible exact cont_ret
        | with_reducible exact cont_exit
        | with_reducible apply go_reg
        | with_reducible apply go_draw
        | with_reducible exact go_ret
        | with_reducible exact go_skip
        | with_reducible exact go_exit
        | ((with_reducible apply go_true); rfl)
        | ((with_reducible apply go_false); rfl)
        | ((with_reducible apply regs_go)
           · rfl
           · first
             | ((with_reducible apply ops_add); rfl; rfl; (first | assumption | rfl); omega; omega)
             | ((with_reducible apply ops_sub); rfl; rfl; (first | assumption | rfl); omega; omega)
             | ((with_reducible apply ops_mul); rfl; rfl; (first | assumption | rfl); omega; omega)
             | ((with_reducible apply ops_quo); rfl; rfl; decide; (first | assumption | rfl); omega; omega)
             | ((with_reducible apply ops_rem); rfl; rfl; omega; (first | assumption | rfl))
             | ((with_reducible apply ops_lss); rfl; rfl; (first | assumption | rfl))
             | ((with_reducible apply ops_gtr); rfl; rfl; (first | assumption | rfl))
             | ((with_reducible apply ops_leq); rfl; rfl; (first | assumption | rfl))
             | ((with_reducible apply ops_geq); rfl; rfl; (first | assumption | rfl))
             | ((with_reducible apply ops_eql); rfl; rfl; (first | assumption | rfl))
             | ((with_reducible apply ops_neq); rfl; rfl; (first | assumption | rfl))
             | ((with_reducible apply ops_min2); rfl; (first | assumption | rfl))
             | ((with_reducible apply ops_max2); rfl; (first | assumption | rfl))
             | ((with_reducible apply ops_iaddrN); rfl; rfl; omega; rfl)
             | ((with_reducible apply ops_iaddr); rfl; rfl; omega; omega; rfl; rfl)
             | ((with_reducible apply ops_load); rfl; exact rowAt_of (by first | assumption) (Nat.zero_le _) (Nat.zero_le _); rfl; rfl)
             | ((with_reducible apply arr_loadN); rfl; (first | assumption); assumption; assumption; (first | assumption | (apply ints_get; omega) | (apply nats_get; omega)); rfl)
             | ((with_reducible apply arr_storeN); rfl; rfl; (first | assumption); assumption; assumption; (first | assumption | (apply ints_get; omega) | (apply nats_get; omega)); rfl; rfl; rfl; rfl; rfl)
             | ((with_reducible apply ops_struct); rfl; rfl; (first | assumption); rfl; rfl; rfl; rfl; rfl; exact Nat.le_of_ble_eq_true rfl; rfl)
             | ((with_reducible apply ops_bslice1); rfl; rfl; rfl)
             | ((with_reducible apply ops_push); rfl; rfl; (first | assumption); (first | assumption); assumption; assumption; assumption; assumption; omega; rfl)
             | ((with_reducible apply ops_cutN); rfl; rfl; omega)
             | exact ops_of rfl
           · dsimp only [putV, List.set]; try rfl
           · rfl
           · rfl)
        | ((with_reducible apply regs_skip)
           · rfl
           · dsimp only [putV, List.set]; try rfl)
        | ((with_reducible apply draws_go)
           · rfl
           · first
             | ((with_reducible apply ops_add); rfl; rfl; (first | assumption | rfl); omega; omega)
             | ((with_reducible apply ops_sub); rfl; rfl; (first | assumption | rfl); omega; omega)
             | ((with_reducible apply ops_mul); rfl; rfl; (first | assumption | rfl); omega; omega)
             | ((with_reducible apply ops_quo); rfl; rfl; decide; (first | assumption | rfl); omega; omega)
             | ((with_reducible apply ops_rem); rfl; rfl; omega; (first | assumption | rfl))
             | ((with_reducible apply ops_lss); rfl; rfl; (first | assumption | rfl))
             | ((with_reducible apply ops_gtr); rfl; rfl; (first | assumption | rfl))
             | ((with_reducible apply ops_leq); rfl; rfl; (first | assumption | rfl))
             | ((with_reducible apply ops_geq); rfl; rfl; (first | assumption | rfl))
             | ((with_reducible apply ops_eql); rfl; rfl; (first | assumption | rfl))
             | ((with_reducible apply ops_neq); rfl; rfl; (first | assumption | rfl))
             | ((with_reducible apply ops_min2); rfl; (first | assumption | rfl))
             | ((with_reducible apply ops_max2); rfl; (first | assumption | rfl))
             | ((with_reducible apply ops_iaddrN); rfl; rfl; omega; rfl)
             | ((with_reducible apply ops_iaddr); rfl; rfl; omega; omega; rfl; rfl)
             | ((with_reducible apply ops_load); rfl; exact rowAt_of (by first | assumption) (Nat.zero_le _) (Nat.zero_le _); rfl; rfl)
             | ((with_reducible apply arr_loadN); rfl; (first | assumption); assumption; assumption; (first | assumption | (apply ints_get; omega) | (apply nats_get; omega)); rfl)
             | ((with_reducible apply arr_storeN); rfl; rfl; (first | assumption); assumption; assumption; (first | assumption | (apply ints_get; omega) | (apply nats_get; omega)); rfl; rfl; rfl; rfl; rfl)
             | ((with_reducible apply ops_struct); rfl; rfl; (first | assumption); rfl; rfl; rfl; rfl; rfl; exact Nat.le_of_ble_eq_true rfl; rfl)
             | ((with_reducible apply ops_bslice1); rfl; rfl; rfl)
             | ((with_reducible apply ops_push); rfl; rfl; (first | assumption); (first | assumption); assumption; assumption; assumption; assumption; omega; rfl)
             | ((with_reducible apply ops_cutN); rfl; rfl; omega)
             | exact ops_of rfl
           · (first | rw [allW_same] | rw [allW_set] | rw [allW_push]) <;> (repeat (first | with_reducible exact free_nil | ((with_reducible apply free_mask); rfl) | ((with_reducible apply free_ne); first | rfl | (simp [clash, meets, *]; done))))
           · first | exact note_same | exact note_read | exact note_set | exact note_push
           · dsimp only [putV, List.set]; try rfl
           · rfl
           · rfl)
        | ((with_reducible apply draws_skip)
           · rfl
           · dsimp only [putV, List.set]; try rfl)
        | with_reducible exact regs_nil
        | with_reducible exact draws_nil)
    · exact .inl rfl
    · have he : gI A u = gI A v := by simpa using hc
      have : decide (Ah (gI A) u v) = decide ((u : Int) < (v : Int)) := by
        unfold Ah
        by_cases h : u < v <;> simp [he, h] <;> omega
      rw [this]; rfl
  · apply Exists.intro
    apply calls_keep (by rfl) (by rfl) (by simp only [List.length_cons, List.length_nil, List.replicate, List.cons_append, List.nil_append]; try rfl)
    · repeat (first
        | with_reducible apply gg_seq
        | with_reducible apply cont_norm
        | with_reducible exact cont_ret
        | with_reducible exact cont_exit
        | with_reducible apply go_reg
        | with_reducible apply go_draw
        | with_reducible exact go_ret
        | with_reducible exact go_skip
        | with_reducible exact go_exit
        | ((with_reducible apply go_true); rfl)
        | ((with_reducible apply go_false); rfl)
        | ((with_reducible apply regs_go)
           · rfl
           · first
             | ((with_reducible apply ops_add); rfl; rfl; (first | assumption | rfl); omega; omega)
             | ((with_reducible apply ops_sub); rfl; rfl; (first | assumption | rfl); omega; omega)
             | ((with_reducible apply ops_mul); rfl; rfl; (first | assumption | rfl); omega; omega)
             | ((with_reducible apply ops_quo); rfl; rfl; decide; (first | assumption | rfl); omega; omega)
             | ((with_reducible apply ops_rem); rfl; rfl; omega; (first | assumption | rfl))
             | ((with_reducible apply ops_lss); rfl; rfl; (first | assumption | rfl))
             | ((with_reducible apply ops_gtr); rfl; rfl; (first | assumption | rfl))
             | ((with_reducible apply ops_leq); rfl; rfl; (first | assumption | rfl))
             | ((with_reducible apply ops_geq); rfl; rfl; (first | assumption | rfl))
             | ((with_reducible apply ops_eql); rfl; rfl; (first | assumption | rfl))
             | ((with_reducible apply ops_neq); rfl; rfl; (first | assumption | rfl))
             | ((with_reducible apply ops_min2); rfl; (first | assumption | rfl))
             | ((with_reducible apply ops_max2); rfl; (first | assumption | rfl))
             | ((with_reducible apply ops_iaddrN); rfl; rfl; omega; rfl)
             | ((with_reducible apply ops_iaddr); rfl; rfl; omega; omega; rfl; rfl)
             | ((with_reducible apply ops_load); rfl; exact rowAt_of (by first | assumption) (Nat.zero_le _) (Nat.zero_le _); rfl; rfl)
             | ((with_reducible apply arr_loadN); rfl; (first | assumption); assumption; assumption; (first | assumption | (apply ints_get; omega) | (apply nats_get; omega)); rfl)
             | ((with_reducible apply arr_storeN); rfl; rfl; (first | assumption); assumption; assumption; (first | assumption | (apply ints_get; omega) | (apply nats_get; omega)); rfl; rfl; rfl; rfl; rfl)
             | ((with_reducible apply ops_struct); rfl; rfl; (first | assumption); rfl; rfl; rfl; rfl; rfl; exact Nat.le_of_ble_eq_true rfl; rfl)
             | ((with_reducible apply ops_bslice1); rfl; rfl; rfl)
             | ((with_reducible apply ops_push); rfl; rfl; (first | assumption); (first | assumption); assumption; assumption; assumption; assumption; omega; rfl)
             | ((with_reducible apply ops_cutN); rfl; rfl; omega)
             | exact ops_of rfl
           · dsimp only [putV, List.set]; try rfl
           · rfl
           · rfl)
        | ((with_reducible apply regs_skip)
           · rfl
           · dsimp only [putV, List.set]; try rfl)
        | ((with_reducible apply draws_go)
           · rfl
           · first
             | ((with_reducible apply ops_add); rfl; rfl; (first | assumption | rfl); omega; omega)
             | ((with_reducible apply ops_sub); rfl; rfl; (first | assumption | rfl); omega; omega)
             | ((with_reducible apply ops_mul); rfl; rfl; (first | assumption | rfl); omega; omega)
             | ((with_reducible apply ops_quo); rfl; rfl; decide; (first | assumption | rfl); omega; omega)
             | ((with_reducible apply ops_rem); rfl; rfl; omega; (first | assumption | rfl))
             | ((with_reducible apply ops_lss); rfl; rfl; (first | assumption | rfl))
             | ((with_reducible apply ops_gtr); rfl; rfl; (first | assumption | rfl))
             | ((with_reducible apply ops_leq); rfl; rfl; (first | assumption | rfl))
             | ((with_reducible apply ops_geq); rfl; rfl; (first | assumption | rfl))
             | ((with_reducible apply ops_eql); rfl; rfl; (first | assumption | rfl))
             | ((with_reducible apply ops_neq); rfl; rfl; (first | assumption | rfl))
             | ((with_reducible apply ops_min2); rfl; (first | assumption | rfl))
             | ((with_reducible apply ops_max2); rfl; (first | assumption | rfl))
             | ((with_reducible apply ops_iaddrN); rfl; rfl; omega; rfl)
             | ((with_reducible apply ops_iaddr); rfl; rfl; omega; omega; rfl; rfl)
             | ((with_reducible apply ops_load); rfl; exact rowAt_of (by first | assumption) (Nat.zero_le _) (Nat.zero_le _); rfl; rfl)
             | ((with_reducible apply arr_loadN); rfl; (first | assumption); assumption; assumption; (first | assumption | (apply ints_get; omega) | (apply nats_get; omega)); rfl)
             | ((with_reducible apply arr_storeN); rfl; rfl; (first | assumption); assumption; assumption; (first | assumption | (apply ints_get; omega) | (apply nats_get; omega)); rfl; rfl; rfl; rfl; rfl)
             | ((with_reducible apply ops_struct); rfl; rfl; (first | assumption); rfl; rfl; rfl; rfl; rfl; exact Nat.le_of_ble_eq_true rfl; rfl)
             | ((with_reducible apply ops_bslice1); rfl; rfl; rfl)
             | ((with_reducible apply ops_push); rfl; rfl; (first | assumption); (first | assumption); assumption; assumption; assumption; assumption; omega; rfl)
             | ((with_reducible apply ops_cutN); rfl; rfl; omega)
             | exact ops_of rfl
           · (first | rw [allW_same] | rw [allW_set] | rw [allW_push]) <;> (repeat (first | with_reducible exact free_nil | ((with_reducible apply free_mask); rfl) | ((with_reducible apply free_ne); first | rfl | (simp [clash, meets, *]; done))))
           · first | exact note_same | exact note_read | exact note_set | exact note_push
           · dsimp only [putV, List.set]; try rfl
           · rfl
           · rfl)
        | ((with_reducible apply draws_skip)
           · rfl
           · dsimp only [putV, List.set]; try rfl)
        | with_reducible exact regs_nil
        | with_reducible exact draws_nil)
    · exact .inl rfl
    · have he : gI A u ≠ gI A v := by simpa using hc
      have : decide (Ah (gI A) u v) = decide (gI A v < gI A u) := by
        unfold Ah
        by_cases h : gI A v < gI A u <;> simp [he, h]
      rw [this]; rfl
/-- lay -/
theorem lay_run {h : H} {b bL bP bA : Nat} {L : List Nat} {P A : List Int} (hH : HeapAt h b bL bP bA L P A) {v i : Nat} (hi : i < L.length) (hv : v < P.length) :
    Does EH 29 [.ptr b 0 0 0, .int .i64 v, .int .i64 i] h (.tup []) fun h' => HeapAt h' b bL bP bA (L.set i v) (P.set v i) A ∧ Keeps h h' [bL, bP] := by
  obtain ⟨⟨lv, pv, av, hb, hl, hp, ha, hcl⟩, n1, n2, n3, n4, n5, n6⟩ := hH
  rcases hl with ⟨_, hl, _⟩ | hl
  · subst hl; simp at hi
  have hl0 := hl
  have hp0 := hp
  obtain ⟨cL, rL, jL, eL, hL, sL, oL, lL⟩ := hl
  obtain ⟨cP, rP, jP, eP, hP, sP, oP, lP⟩ := hp
  have lN := nats_len L
  have lI := ints_len P
  have hP' : ∀ o, (h.set bL o)[bP]? = some (.row rP) := fun o => by rw [set_ne n4]; exact hP
  subst eL eP
  have e1 : (nats L).set i [.int .i64 (v : Int)] = nats (L.set i v) := nats_set
  have e2 : (ints P).set v [.int .i64 (i : Int)] = ints (P.set v i) := ints_set
  apply does_intro (h' := (h.set bL (.row ⟨rL.sz, nats (L.set i v) ++ jL, rL.cur, rL.cur⟩)).set bP (.row ⟨rP.sz, ints (P.set v i) ++ jP, rP.cur, rP.cur⟩))
  · rw [← e1, ← e2]
    apply calls_keep (by rfl) (by rfl) (by simp only [List.length_cons, List.length_nil, List.replicate, List.cons_append, List.nil_append]; try rfl)
    · repeat (first
        | with_reducible apply gg_seq
        | with_reducible apply cont_norm
        | with_reducible exact cont_ret
        | with_reducible exact cont_exit
        | with_reducible apply go_reg
        | with_reducible apply go_draw
        | with_reducible exact go_ret
        | with_reducible exact go_skip
        | with_reducible exact go_exit
        | ((with_reducible apply go_true); rfl)
        | ((with_reducible apply go_false); rfl)
        | ((with_reducible apply regs_go)
           · rfl
           · first
             | ((with_reducible apply ops_add); rfl; rfl; (first | assumption | rfl); omega; omega)
             | ((with_reducible apply ops_sub); rfl; rfl; (first | assumption | rfl); omega; omega)
             | ((with_reducible apply ops_mul); rfl; rfl; (first | assumption | rfl); omega; omega)
             | ((with_reducible apply ops_quo); rfl; rfl; decide; (first | assumption | rfl); omega; omega)
             | ((with_reducible apply ops_rem); rfl; rfl; omega; (first | assumption | rfl))
             | ((with_reducible apply ops_lss); rfl; rfl; (first | assumption | rfl))
             | ((with_reducible apply ops_gtr); rfl; rfl; (first | assumption | rfl))
             | ((with_reducible apply ops_leq); rfl; rfl; (first | assumption | rfl))
             | ((with_reducible apply ops_geq); rfl; rfl; (first | assumption | rfl))
             | ((with_reducible apply ops_eql); rfl; rfl; (first | assumption | rfl))
             | ((with_reducible apply ops_neq); rfl; rfl; (first | assumption | rfl))
             | ((with_reducible apply ops_min2); rfl; (first | assumption | rfl))
             | ((with_reducible apply ops_max2); rfl; (first | assumption | rfl))
             | ((with_reducible apply ops_iaddrN); rfl; rfl; omega; rfl)
             | ((with_reducible apply ops_iaddr); rfl; rfl; omega; omega; rfl; rfl)
             | ((with_reducible apply ops_load); rfl; exact rowAt_of (by first | assumption | exact hP' _) (Nat.zero_le _) (Nat.zero_le _); rfl; rfl)
             | ((with_reducible apply arr_loadN); rfl; (first | assumption | exact hP' _); assumption; assumption; (first | assumption | (apply ints_get; omega) | (apply nats_get; omega)); rfl)
             | ((with_reducible apply arr_storeN); rfl; rfl; (first | assumption | exact hP' _); assumption; assumption; (first | assumption | (apply ints_get; omega) | (apply nats_get; omega)); rfl; rfl; rfl; rfl; rfl)
             | ((with_reducible apply ops_struct); rfl; rfl; (first | assumption | exact hP' _); rfl; rfl; rfl; rfl; rfl; exact Nat.le_of_ble_eq_true rfl; rfl)
             | ((with_reducible apply ops_bslice1); rfl; rfl; rfl)
             | ((with_reducible apply ops_push); rfl; rfl; (first | assumption | exact hP' _); (first | assumption | exact hP' _); assumption; assumption; assumption; assumption; omega; rfl)
             | ((with_reducible apply ops_cutN); rfl; rfl; omega)
             | exact ops_of rfl
           · dsimp only [putV, List.set]; try rfl
           · rfl
           · rfl)
        | ((with_reducible apply regs_skip)
           · rfl
           · dsimp only [putV, List.set]; try rfl)
        | ((with_reducible apply draws_go)
           · rfl
           · first
             | ((with_reducible apply ops_add); rfl; rfl; (first | assumption | rfl); omega; omega)
             | ((with_reducible apply ops_sub); rfl; rfl; (first | assumption | rfl); omega; omega)
             | ((with_reducible apply ops_mul); rfl; rfl; (first | assumption | rfl); omega; omega)
             | ((with_reducible apply ops_quo); rfl; rfl; decide; (first | assumption | rfl); omega; omega)
             | ((with_reducible apply ops_rem); rfl; rfl; omega; (first | assumption | rfl))
             | ((with_reducible apply ops_lss); rfl; rfl; (first | assumption | rfl))
             | ((with_reducible apply ops_gtr); rfl; rfl; (first | assumption | rfl))
             | ((with_reducible apply ops_leq); rfl; rfl; (first | assumption | rfl))
             | ((with_reducible apply ops_geq); rfl; rfl; (first | assumption | rfl))
             | ((with_reducible apply ops_eql); rfl; rfl; (first | assumption | rfl))
             | ((with_reducible apply ops_neq); rfl; rfl; (first | assumption | rfl))
             | ((with_reducible apply ops_min2); rfl; (first | assumption | rfl))
             | ((with_reducible apply ops_max2); rfl; (first | assumption | rfl))
             | ((with_reducible apply ops_iaddrN); rfl; rfl; omega; rfl)
             | ((with_reducible apply ops_iaddr); rfl; rfl; omega; omega; rfl; rfl)
             | ((with_reducible apply ops_load); rfl; exact rowAt_of (by first | assumption | exact hP' _) (Nat.zero_le _) (Nat.zero_le _); rfl; rfl)
             | ((with_reducible apply arr_loadN); rfl; (first | assumption | exact hP' _); assumption; assumption; (first | assumption | (apply ints_get; omega) | (apply nats_get; omega)); rfl)
             | ((with_reducible apply arr_storeN); rfl; rfl; (first | assumption | exact hP' _); assumption; assumption; (first | assumption | (apply ints_get; omega) | (apply nats_get; omega)); rfl; rfl; rfl; rfl; rfl)
             | ((with_reducible apply ops_struct); rfl; rfl; (first | assumption | exact hP' _); rfl; rfl; rfl; rfl; rfl; exact Nat.le_of_ble_eq_true rfl; rfl)
             | ((with_reducible apply ops_bslice1); rfl; rfl; rfl)
             | ((with_reducible apply ops_push); rfl; rfl; (first | assumption | exact hP' _); (first | assumption | exact hP' _); assumption; assumption; assumption; assumption; omega; rfl)
             | ((with_reducible apply ops_cutN); rfl; rfl; omega)
             | exact ops_of rfl
           · (first | rw [allW_same] | rw [allW_set] | rw [allW_push]) <;> (repeat (first | with_reducible exact free_nil | ((with_reducible apply free_mask); rfl) | ((with_reducible apply free_ne); first | rfl | (simp [clash, meets, *]; done))))
           · first | exact note_same | exact note_read | exact note_set | exact note_push
           · dsimp only [putV, List.set]; try rfl
           · rfl
           · rfl)
        | ((with_reducible apply draws_skip)
           · rfl
           · dsimp only [putV, List.set]; try rfl)
        | with_reducible exact regs_nil
        | with_reducible exact draws_nil)
    · exact .inr rfl
    · rfl
  · refine ⟨?_, (Keeps.set (by simp)).trans (Keeps.set (by simp))⟩
    refine ⟨⟨.os bL rL.cur 1 0 (nats L).length cL, .os bP rP.cur 1 0 (ints P).length cP, av, ?_, .inr ?_, Arr.of_set (els := ints P) rfl (hP' _) sP (by simp [ints_len]), ?_, hcl⟩, n1, n2, n3, n4, n5, n6⟩
    · rw [set_ne (Ne.symm n2), set_ne (Ne.symm n1)]; exact hb
    · have := Arr.of_set (c := cL) (els := nats L) (els' := nats (L.set i v)) (junk := jL) rfl hL sL (by simp [nats_len])
      exact this.frame (Keeps.set (bs := [bP]) (by simp)) (by simp [n4])
    · exact (ha.frame (Keeps.set (bs := [bL]) (by simp)) (by simp [Ne.symm n5])).frame (Keeps.set (bs := [bP]) (by simp)) (by simp [Ne.symm n6])
end Go.Proofs.Ytmmipfmdkoaekaa.Code
