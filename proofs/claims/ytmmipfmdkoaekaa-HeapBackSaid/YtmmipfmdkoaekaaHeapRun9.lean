/- A part of the proof: HeapRun9. No condition. -/
import Derived.Test.YtmmipfmdkoaekaaHeapRun8
set_option linter.all false
set_option maxRecDepth 100000
namespace Go.Proofs.Ytmmipfmdkoaekaa.Code
open Go.Mini Go.HeapMath Go.HeapRun
set_option linter.all false
set_option maxHeartbeats 4000000
theorem gI_rep {m x : Nat} : gI (List.replicate m 0) x = 0 := by
  unfold gI
  rw [List.getD_eq_getElem?_getD, List.getElem?_replicate]
  split <;> rfl
theorem ints_rep {m : Nat} : ints (List.replicate m 0) = List.replicate m [V.int .i64 0] := by unfold ints; rw [List.map_replicate]
/-- New: it isn't one -/
theorem new_no {h : H} {n : Int} (hn : n < 0 ∨ 100000 < n) : ∃ r, Calls' EH 9 [.int .i64 n] h ⟨.tup [.nilp, .int .i64 2], h, r, []⟩ := by
  by_cases h0 : n < 0
  · have c0 : decide (n < 0) = true := decide_eq_true h0
    apply Exists.intro
    apply calls_keep (by rfl) (by rfl) (by simp only [List.length_cons, List.length_nil, List.replicate, List.cons_append, List.nil_append]; try rfl)
    · repeat (first
      | with_reducible apply gg_seq
      | with_reducible apply cont_norm
      | with_reducible exact cont_ret
      | with_reducible exact cont_exit
      | with_reducible apply go_reg
      | with_reducible apply go_draw
      | with_reducible exact go_ret
      | with_reducible exact go_skip
      | with_reducible exact go_exit
      | ((with_reducible apply go_true); rfl)
      | ((with_reducible apply go_false); rfl)
      | ((with_reducible apply regs_go)
         · rfl
         · first
           | ((with_reducible apply ops_add); rfl; rfl; (first | assumption | rfl); omega; omega)
           | ((with_reducible apply ops_sub); rfl; rfl; (first | assumption | rfl); omega; omega)
           | ((with_reducible apply ops_mul); rfl; rfl; (first | assumption | rfl); omega; omega)
           | ((with_reducible apply ops_quo); rfl; rfl; decide; (first | assumption | rfl); omega; omega)
           | ((with_reducible apply ops_rem); rfl; rfl; omega; (first | assumption | rfl))
           | ((with_reducible apply ops_lss); rfl; rfl; (first | assumption | rfl))
           | ((with_reducible apply ops_gtr); rfl; rfl; (first | assumption | rfl))
           | ((with_reducible apply ops_leq); rfl; rfl; (first | assumption | rfl))
           | ((with_reducible apply ops_geq); rfl; rfl; (first | assumption | rfl))
           | ((with_reducible apply ops_eql); rfl; rfl; (first | assumption | rfl))
           | ((with_reducible apply ops_neq); rfl; rfl; (first | assumption | rfl))
           | ((with_reducible apply ops_min2); rfl; (first | assumption | rfl))
           | ((with_reducible apply ops_max2); rfl; (first | assumption | rfl))
           | ((with_reducible apply ops_iaddrN); rfl; rfl; omega; rfl)
           | ((with_reducible apply ops_iaddr); rfl; rfl; omega; omega; rfl; rfl)
           | ((with_reducible apply ops_load); rfl; exact rowAt_of (by first | assumption) (Nat.zero_le _) (Nat.zero_le _); rfl; rfl)
           | ((with_reducible apply arr_loadN); rfl; (first | assumption); assumption; assumption; (first | assumption | (apply ints_get; omega) | (apply nats_get; omega)); rfl)
           | ((with_reducible apply arr_storeN); rfl; rfl; (first | assumption); assumption; assumption; (first | assumption | (apply ints_get; omega) | (apply nats_get; omega)); rfl; rfl; rfl; rfl; rfl)
           | ((with_reducible apply ops_struct); rfl; rfl; (first | assumption); rfl; rfl; rfl; rfl; rfl; exact Nat.le_of_ble_eq_true rfl; rfl)
           | ((with_reducible apply ops_bslice1); rfl; rfl; rfl)
           | ((with_reducible apply ops_push); rfl; rfl; (first | assumption); (first | assumption); assumption; assumption; assumption; (first | rfl | assumption); omega; rfl)
           | ((with_reducible apply ops_cutN); rfl; rfl; omega)
           | exact ops_of rfl
         · dsimp only [putV, List.set]; try rfl
         · rfl
         · rfl)
      | ((with_reducible apply regs_skip)
         · rfl
         · dsimp only [putV, List.set]; try rfl)
      | ((with_reducible apply draws_go)
         · rfl
         · first
           | ((with_reducible apply ops_add); rfl; rfl; (first | assumption | rfl); omega; omega)
           | ((with_reducible apply ops_sub); rfl; rfl; (first | assumption | rfl); omega; omega)
           | ((with_reducible apply ops_mul); rfl; rfl; (first | assumption | rfl); omega; omega)
           | ((with_reducible apply ops_quo); rfl; rfl; decide; (first | assumption | rfl); omega; omega)
           | ((with_reducible apply ops_rem); rfl; rfl; omega; (first | assumption | rfl))
           | ((with_reducible apply ops_lss); rfl; rfl; (first | assumption | rfl))
           | ((with_reducible apply ops_gtr); rfl; rfl; (first | assumption | rfl))
           | ((with_reducible apply ops_leq); rfl; rfl; (first | assumption | rfl))
           | ((with_reducible apply ops_geq); rfl; rfl; (first | assumption | rfl))
           | ((with_reducible apply ops_eql); rfl; rfl; (first | assumption | rfl))
           | ((with_reducible apply ops_neq); rfl; rfl; (first | assumption | rfl))
           | ((with_reducible apply ops_min2); rfl; (first | assumption | rfl))
           | ((with_reducible apply ops_max2); rfl; (first | assumption | rfl))
           | ((with_reducible apply ops_iaddrN); rfl; rfl; omega; rfl)
           | ((with_reducible apply ops_iaddr); rfl; rfl; omega; omega; rfl; rfl)
           | ((with_reducible apply ops_load); rfl; exact rowAt_of (by first | assumption) (Nat.zero_le _) (Nat.zero_le _); rfl; rfl)
           | ((with_reducible apply arr_loadN); rfl; (first | assumption); assumption; assumption; (first | assumption | (apply ints_get; omega) | (apply nats_get; omega)); rfl)
           | ((with_reducible apply arr_storeN); rfl; rfl; (first | assumption); assumption; assumption; (first | assumption | (apply ints_get; omega) | (apply nats_get; omega)); rfl; rfl; rfl; rfl; rfl)
           | ((with_reducible apply ops_struct); rfl; rfl; (first | assumption); rfl; rfl; rfl; rfl; rfl; exact Nat.le_of_ble_eq_true rfl; rfl)
           | ((with_reducible apply ops_bslice1); rfl; rfl; rfl)
           | ((with_reducible apply ops_push); rfl; rfl; (first | assumption); (first | assumption); assumption; assumption; assumption; (first | rfl | assumption); omega; rfl)
           | ((with_reducible apply ops_cutN); rfl; rfl; omega)
           | exact ops_of rfl
         · (first | rw [allW_same] | rw [allW_set] | rw [allW_push]) <;> (repeat (first | with_reducible exact free_nil | ((with_reducible apply free_mask); rfl) | ((with_reducible apply free_ne); (focus (first | rfl | (simp [clash, meets, *]; done))))))
         · first | exact note_same | exact note_read | exact note_set | exact note_push
         · dsimp only [putV, List.set]; try rfl
         · rfl
         · rfl)
      | ((with_reducible apply draws_skip)
         · rfl
         · dsimp only [putV, List.set]; try rfl)
      | with_reducible exact regs_nil
      | with_reducible exact draws_nil)
    · exact .inl rfl
    · rfl
  · have c0 : decide (n < 0) = false := decide_eq_false h0
    have c1 : decide ((100000 : Int) < n) = true := decide_eq_true (by omega)
    apply Exists.intro
    apply calls_keep (by rfl) (by rfl) (by simp only [List.length_cons, List.length_nil, List.replicate, List.cons_append, List.nil_append]; try rfl)
    · repeat (first
      | with_reducible apply gg_seq
      | with_reducible apply cont_norm
      | with_reducible exact cont_ret
      | with_reducible exact cont_exit
      | with_reducible apply go_reg
      | with_reducible apply go_draw
      | with_reducible exact go_ret
      | with_reducible exact go_skip
      | with_reducible exact go_exit
      | ((with_reducible apply go_true); rfl)
      | ((with_reducible apply go_false); rfl)
      | ((with_reducible apply regs_go)
         · rfl
         · first
           | ((with_reducible apply ops_add); rfl; rfl; (first | assumption | rfl); omega; omega)
           | ((with_reducible apply ops_sub); rfl; rfl; (first | assumption | rfl); omega; omega)
           | ((with_reducible apply ops_mul); rfl; rfl; (first | assumption | rfl); omega; omega)
           | ((with_reducible apply ops_quo); rfl; rfl; decide; (first | assumption | rfl); omega; omega)
           | ((with_reducible apply ops_rem); rfl; rfl; omega; (first | assumption | rfl))
           | ((with_reducible apply ops_lss); rfl; rfl; (first | assumption | rfl))
           | ((with_reducible apply ops_gtr); rfl; rfl; (first | assumption | rfl))
           | ((with_reducible apply ops_leq); rfl; rfl; (first | assumption | rfl))
           | ((with_reducible apply ops_geq); rfl; rfl; (first | assumption | rfl))
           | ((with_reducible apply ops_eql); rfl; rfl; (first | assumption | rfl))
           | ((with_reducible apply ops_neq); rfl; rfl; (first | assumption | rfl))
           | ((with_reducible apply ops_min2); rfl; (first | assumption | rfl))
           | ((with_reducible apply ops_max2); rfl; (first | assumption | rfl))
           | ((with_reducible apply ops_iaddrN); rfl; rfl; omega; rfl)
           | ((with_reducible apply ops_iaddr); rfl; rfl; omega; omega; rfl; rfl)
           | ((with_reducible apply ops_load); rfl; exact rowAt_of (by first | assumption) (Nat.zero_le _) (Nat.zero_le _); rfl; rfl)
           | ((with_reducible apply arr_loadN); rfl; (first | assumption); assumption; assumption; (first | assumption | (apply ints_get; omega) | (apply nats_get; omega)); rfl)
           | ((with_reducible apply arr_storeN); rfl; rfl; (first | assumption); assumption; assumption; (first | assumption | (apply ints_get; omega) | (apply nats_get; omega)); rfl; rfl; rfl; rfl; rfl)
           | ((with_reducible apply ops_struct); rfl; rfl; (first | assumption); rfl; rfl; rfl; rfl; rfl; exact Nat.le_of_ble_eq_true rfl; rfl)
           | ((with_reducible apply ops_bslice1); rfl; rfl; rfl)
           | ((with_reducible apply ops_push); rfl; rfl; (first | assumption); (first | assumption); assumption; assumption; assumption; (first | rfl | assumption); omega; rfl)
           | ((with_reducible apply ops_cutN); rfl; rfl; omega)
           | exact ops_of rfl
         · dsimp only [putV, List.set]; try rfl
         · rfl
         · rfl)
      | ((with_reducible apply regs_skip)
         · rfl
         · dsimp only [putV, List.set]; try rfl)
      | ((with_reducible apply draws_go)
         · rfl
         · first
           | ((with_reducible apply ops_add); rfl; rfl; (first | assumption | rfl); omega; omega)
           | ((with_reducible apply ops_sub); rfl; rfl; (first | assumption | rfl); omega; omega)
           | ((with_reducible apply ops_mul); rfl; rfl; (first | assumption | rfl); omega; omega)
           | ((with_reducible apply ops_quo); rfl; rfl; decide; (first | assumption | rfl); omega; omega)
           | ((with_reducible apply ops_rem); rfl; rfl; omega; (first | assumption | rfl))
           | ((with_reducible apply ops_lss); rfl; rfl; (first | assumption | rfl))
           | ((with_reducible apply ops_gtr); rfl; rfl; (first | assumption | rfl))
           | ((with_reducible apply ops_leq); rfl; rfl; (first | assumption | rfl))
           | ((with_reducible apply ops_geq); rfl; rfl; (first | assumption | rfl))
           | ((with_reducible apply ops_eql); rfl; rfl; (first | assumption | rfl))
           | ((with_reducible apply ops_neq); rfl; rfl; (first | assumption | rfl))
           | ((with_reducible apply ops_min2); rfl; (first | assumption | rfl))
           | ((with_reducible apply ops_max2); rfl; (first | assumption | rfl))
           | ((with_reducible apply ops_iaddrN); rfl; rfl; omega; rfl)
           | ((with_reducible apply ops_iaddr); rfl; rfl; omega; omega; rfl; rfl)
           | ((with_reducible apply ops_load); rfl; exact rowAt_of (by first | assumption) (Nat.zero_le _) (Nat.zero_le _); rfl; rfl)
           | ((with_reducible apply arr_loadN); rfl; (first | assumption); assumption; assumption; (first | assumption | (apply ints_get; omega) | (apply nats_get; omega)); rfl)
           | ((with_reducible apply arr_storeN); rfl; rfl; (first | assumption); assumption; assumption; (first | assumption | (apply ints_get; omega) | (apply nats_get; omega)); rfl; rfl; rfl; rfl; rfl)
           | ((with_reducible apply ops_struct); rfl; rfl; (first | assumption); rfl; rfl; rfl; rfl; rfl; exact Nat.le_of_ble_eq_true rfl; rfl)
           | ((with_reducible apply ops_bslice1); rfl; rfl; rfl)
           | ((with_reducible apply ops_push); rfl; rfl; (first | assumption); (first | assumption); assumption; assumption; assumption; (first | rfl | assumption); omega; rfl)
           | ((with_reducible apply ops_cutN); rfl; rfl; omega)
           | exact ops_of rfl
         · (first | rw [allW_same] | rw [allW_set] | rw [allW_push]) <;> (repeat (first | with_reducible exact free_nil | ((with_reducible apply free_mask); rfl) | ((with_reducible apply free_ne); (focus (first | rfl | (simp [clash, meets, *]; done))))))
         · first | exact note_same | exact note_read | exact note_set | exact note_push
         · dsimp only [putV, List.set]; try rfl
         · rfl
         · rfl)
      | ((with_reducible apply draws_skip)
         · rfl
         · dsimp only [putV, List.set]; try rfl)
      | with_reducible exact regs_nil
      | with_reducible exact draws_nil)
    · exact .inl rfl
    · rfl
/-- New -/
theorem new_run {h : H} {n : Nat} (hn : n ≤ 100000) : Does EH 9 [.int .i64 n] h (.tup [.ptr (h.length + 1 + 1) 0 0 0, .int .i64 0]) fun h' => ∃ bL L P A, HeapAt h' (h.length + 1 + 1) bL h.length (h.length + 1) L P A ∧ HSt n L P A ∧ L.length = n ∧ (∀ u, 1 ≤ u → u ≤ n → gI P u ≠ -1) ∧ (∀ u, gI A u = 0) ∧ Keeps h h' [] ∧ h.length ≤ bL := by
  have c0 : decide ((n : Int) < 0) = false := decide_eq_false (by omega)
  have c1 : decide ((100000 : Int) < (n : Int)) = false := decide_eq_false (by omega)
  have e0 : (n : Int) + 1 = ((n + 1 : Nat) : Int) := by omega
  apply does_keep (by rfl) (by rfl) (by simp only [List.length_cons, List.length_nil, List.replicate, List.cons_append, List.nil_append]; try rfl)
  repeat (first
      | with_reducible apply q_seq
      | with_reducible apply q_reg
      | with_reducible apply q_draw
      | with_reducible apply q_ret
      | with_reducible apply q_skip
      | with_reducible apply q_exit
      | with_reducible apply q_block
      | with_reducible apply k_norm
      | with_reducible apply k_ret
      | with_reducible apply k_exit
      | with_reducible apply b_norm
      | with_reducible apply b_ret
      | with_reducible apply b_leave
      | ((with_reducible apply b_exit); decide)
      | with_reducible apply g_nil
      | with_reducible apply d_nil
      | ((with_reducible apply q_true); rfl)
      | ((with_reducible apply q_false); rfl)
      | ((with_reducible apply g_skip)
         · rfl
         · dsimp only [putV, List.set]; try rfl)
      | ((with_reducible apply d_skip)
         · rfl
         · dsimp only [putV, List.set]; try rfl)
      | ((with_reducible apply g_go)
         · rfl
         · first
           | ((with_reducible apply ops_add); rfl; rfl; (first | assumption | rfl); omega; omega)
           | ((with_reducible apply ops_sub); rfl; rfl; (first | assumption | rfl); omega; omega)
           | ((with_reducible apply ops_mul); rfl; rfl; (first | assumption | rfl); omega; omega)
           | ((with_reducible apply ops_quo); rfl; rfl; decide; (first | assumption | rfl); omega; omega)
           | ((with_reducible apply ops_rem); rfl; rfl; omega; (first | assumption | rfl))
           | ((with_reducible apply ops_lss); rfl; rfl; (first | assumption | rfl))
           | ((with_reducible apply ops_gtr); rfl; rfl; (first | assumption | rfl))
           | ((with_reducible apply ops_leq); rfl; rfl; (first | assumption | rfl))
           | ((with_reducible apply ops_geq); rfl; rfl; (first | assumption | rfl))
           | ((with_reducible apply ops_eql); rfl; rfl; (first | assumption | rfl))
           | ((with_reducible apply ops_neq); rfl; rfl; (first | assumption | rfl))
           | ((with_reducible apply ops_min2); rfl; (first | assumption | rfl))
           | ((with_reducible apply ops_max2); rfl; (first | assumption | rfl))
           | ((with_reducible apply ops_iaddrN); rfl; rfl; omega; rfl)
           | ((with_reducible apply ops_iaddr); rfl; rfl; omega; omega; rfl; rfl)
           | ((with_reducible apply ops_load); rfl; exact rowAt_of (by first | assumption) (Nat.zero_le _) (Nat.zero_le _); rfl; rfl)
           | ((with_reducible apply arr_loadN); rfl; (first | assumption); assumption; assumption; (first | assumption | (apply ints_get; omega) | (apply nats_get; omega)); rfl)
           | ((with_reducible apply arr_storeN); rfl; rfl; (first | assumption); assumption; assumption; (first | assumption | (apply ints_get; omega) | (apply nats_get; omega)); rfl; rfl; rfl; rfl; rfl)
           | (((with_reducible apply ops_mk); rfl; rfl; omega))
           | (((with_reducible apply ops_box3); rfl))
           | (((with_reducible apply ops_push0); rfl; rfl; (first | assumption | exact hT _ _)))
           | ((with_reducible apply ops_struct); rfl; rfl; (first | assumption); rfl; rfl; rfl; rfl; rfl; exact Nat.le_of_ble_eq_true rfl; rfl)
           | ((with_reducible apply ops_bslice1); rfl; rfl; rfl)
           | ((with_reducible apply ops_push); rfl; rfl; (first | assumption); (first | assumption); assumption; assumption; assumption; (first | rfl | assumption); omega; rfl)
           | ((with_reducible apply ops_cutN); rfl; rfl; omega)
           | exact ops_of rfl
         · dsimp only [putV, List.set]; try rfl)
      | ((with_reducible apply d_go)
         · rfl
         · first
           | ((with_reducible apply ops_add); rfl; rfl; (first | assumption | rfl); omega; omega)
           | ((with_reducible apply ops_sub); rfl; rfl; (first | assumption | rfl); omega; omega)
           | ((with_reducible apply ops_mul); rfl; rfl; (first | assumption | rfl); omega; omega)
           | ((with_reducible apply ops_quo); rfl; rfl; decide; (first | assumption | rfl); omega; omega)
           | ((with_reducible apply ops_rem); rfl; rfl; omega; (first | assumption | rfl))
           | ((with_reducible apply ops_lss); rfl; rfl; (first | assumption | rfl))
           | ((with_reducible apply ops_gtr); rfl; rfl; (first | assumption | rfl))
           | ((with_reducible apply ops_leq); rfl; rfl; (first | assumption | rfl))
           | ((with_reducible apply ops_geq); rfl; rfl; (first | assumption | rfl))
           | ((with_reducible apply ops_eql); rfl; rfl; (first | assumption | rfl))
           | ((with_reducible apply ops_neq); rfl; rfl; (first | assumption | rfl))
           | ((with_reducible apply ops_min2); rfl; (first | assumption | rfl))
           | ((with_reducible apply ops_max2); rfl; (first | assumption | rfl))
           | ((with_reducible apply ops_iaddrN); rfl; rfl; omega; rfl)
           | ((with_reducible apply ops_iaddr); rfl; rfl; omega; omega; rfl; rfl)
           | ((with_reducible apply ops_load); rfl; exact rowAt_of (by first | assumption) (Nat.zero_le _) (Nat.zero_le _); rfl; rfl)
           | ((with_reducible apply arr_loadN); rfl; (first | assumption); assumption; assumption; (first | assumption | (apply ints_get; omega) | (apply nats_get; omega)); rfl)
           | ((with_reducible apply arr_storeN); rfl; rfl; (first | assumption); assumption; assumption; (first | assumption | (apply ints_get; omega) | (apply nats_get; omega)); rfl; rfl; rfl; rfl; rfl)
           | (((with_reducible apply ops_mk); rfl; rfl; omega))
           | (((with_reducible apply ops_box3); rfl))
           | (((with_reducible apply ops_push0); rfl; rfl; (first | assumption | exact hT _ _)))
           | ((with_reducible apply ops_struct); rfl; rfl; (first | assumption); rfl; rfl; rfl; rfl; rfl; exact Nat.le_of_ble_eq_true rfl; rfl)
           | ((with_reducible apply ops_bslice1); rfl; rfl; rfl)
           | ((with_reducible apply ops_push); rfl; rfl; (first | assumption); (first | assumption); assumption; assumption; assumption; (first | rfl | assumption); omega; rfl)
           | ((with_reducible apply ops_cutN); rfl; rfl; omega)
           | exact ops_of rfl
         · (first | with_reducible exact free_empty | rw [allW_same] | rw [allW_set] | rw [allW_push]) <;> (repeat (first | with_reducible exact free_nil | with_reducible exact free_empty | ((with_reducible apply free_mask); rfl) | ((with_reducible apply free_ne); (focus (first | rfl | (simp [clash, meets, *]; done))))))
         · first | exact note_same | exact note_read | exact note_set | exact note_push
         · dsimp only [putV, List.set]; try rfl))
  obtain ⟨pv, hpv⟩ : ∃ pv, pv = V.os h.length 0 1 0 (n + 1) false := ⟨_, rfl⟩
  obtain ⟨av, hav⟩ : ∃ av, av = V.os (h.length + 1) 0 1 0 (n + 1) false := ⟨_, rfl⟩
  simp only [List.length_append, List.length_singleton]
  rw [← hpv, ← hav]
  obtain ⟨q3, hq3⟩ : ∃ q3, q3 = h ++ [Ob.row ⟨1, List.replicate (n + 1) [V.int .i64 0], 0, 0⟩] ++ [Ob.row ⟨1, List.replicate (n + 1) [V.int .i64 0], 0, 0⟩] ++ [Ob.row ⟨3, [[.nils, pv, av]], 0, 0⟩] := ⟨_, rfl⟩
  have kk : Keeps h q3 [] := by rw [hq3]; exact (Keeps.push.trans Keeps.push).trans Keeps.push
  have hT0 : ∀ (h : H) o, (h ++ [o])[h.length]? = some o := fun h o => by simp
  have b3 : q3[h.length + 1 + 1]? = some (.row ⟨3, [[.nils, pv, av]], 0, 0⟩) := by
    have e : (h ++ [Ob.row ⟨1, List.replicate (n + 1) [V.int .i64 0], 0, 0⟩] ++ [Ob.row ⟨1, List.replicate (n + 1) [V.int .i64 0], 0, 0⟩]).length = h.length + 1 + 1 := by simp
    rw [hq3, ← e]; exact hT0 _ _
  have hlen : q3.length = h.length + 3 := by rw [hq3]; simp
  have hp : Arr q3 pv (ints (List.replicate (n + 1) 0)) h.length :=
    ⟨false, ⟨1, List.replicate (n + 1) [V.int .i64 0], 0, 0⟩, [], by rw [hpv, ints_len, List.length_replicate], by rw [hq3]; simp [List.getElem?_append], rfl, Nat.le_refl _, by rw [ints_rep, List.append_nil]⟩
  have ha : Arr q3 av (ints (List.replicate (n + 1) 0)) (h.length + 1) :=
    ⟨false, ⟨1, List.replicate (n + 1) [V.int .i64 0], 0, 0⟩, [], by rw [hav, ints_len, List.length_replicate], by rw [hq3]; simp [List.getElem?_append], rfl, Nat.le_refl _, by rw [ints_rep, List.append_nil]⟩
  change RQ EH _ _ ⟨_, h ++ [Ob.row ⟨1, List.replicate (n + 1) [V.int .i64 0], 0, 0⟩] ++ [Ob.row ⟨1, List.replicate (n + 1) [V.int .i64 0], 0, 0⟩] ++ [Ob.row ⟨3, [[.nils, pv, av]], 0, 0⟩], _, _⟩ _
  rw [← hq3]
  clear hpv hav hq3
  by_cases h1 : 1 ≤ n
  · have hc : decide ((1 : Int) ≤ (n : Int)) = true := decide_eq_true (by omega)
    have e1 : (1 : Int) + 1 = ((1 + 1 : Nat) : Int) := rfl
    have hp0 := hp
    obtain ⟨cP, rP, jP, eP, hP', sP, oP, lP⟩ := hp
    subst eP
    have lI := ints_len (List.replicate (n + 1) 0)
    have lR : (List.replicate (n + 1) (0 : Int)).length = n + 1 := by simp
    have hT : ∀ (h : H) o, (h ++ [o])[h.length]? = some o := fun h o => by simp
    have hb1 : ∀ o, (q3.set h.length o)[h.length + 1 + 1]? = some (.row ⟨3, [[.nils, .os h.length rP.cur 1 0 (ints (List.replicate (n + 1) 0)).length cP, av]], 0, 0⟩) := fun o => by rw [set_ne (by omega)]; exact b3
    have hb2 : ∀ o o' o2, (((q3.set h.length o) ++ [o']) ++ [o2])[h.length + 1 + 1]? = some (.row ⟨3, [[.nils, .os h.length rP.cur 1 0 (ints (List.replicate (n + 1) 0)).length cP, av]], 0, 0⟩) := fun o o' o2 => by
      rw [List.getElem?_append_left (by simp; omega), List.getElem?_append_left (by simp; omega)]; exact hb1 _
    repeat (first
      | with_reducible apply q_seq
      | with_reducible apply q_reg
      | with_reducible apply q_draw
      | with_reducible apply q_ret
      | with_reducible apply q_skip
      | with_reducible apply q_exit
      | with_reducible apply q_block
      | with_reducible apply k_norm
      | with_reducible apply k_ret
      | with_reducible apply k_exit
      | with_reducible apply b_norm
      | with_reducible apply b_ret
      | with_reducible apply b_leave
      | ((with_reducible apply b_exit); decide)
      | with_reducible apply g_nil
      | with_reducible apply d_nil
      | ((with_reducible apply q_true); rfl)
      | ((with_reducible apply q_false); rfl)
      | ((with_reducible apply g_skip)
         · rfl
         · dsimp only [putV, List.set]; try rfl)
      | ((with_reducible apply d_skip)
         · rfl
         · dsimp only [putV, List.set]; try rfl)
      | ((with_reducible apply g_go)
         · rfl
         · first
           | ((with_reducible apply ops_add); rfl; rfl; (first | assumption | rfl); omega; omega)
           | ((with_reducible apply ops_sub); rfl; rfl; (first | assumption | rfl); omega; omega)
           | ((with_reducible apply ops_mul); rfl; rfl; (first | assumption | rfl); omega; omega)
           | ((with_reducible apply ops_quo); rfl; rfl; decide; (first | assumption | rfl); omega; omega)
           | ((with_reducible apply ops_rem); rfl; rfl; omega; (first | assumption | rfl))
           | ((with_reducible apply ops_lss); rfl; rfl; (first | assumption | rfl))
           | ((with_reducible apply ops_gtr); rfl; rfl; (first | assumption | rfl))
           | ((with_reducible apply ops_leq); rfl; rfl; (first | assumption | rfl))
           | ((with_reducible apply ops_geq); rfl; rfl; (first | assumption | rfl))
           | ((with_reducible apply ops_eql); rfl; rfl; (first | assumption | rfl))
           | ((with_reducible apply ops_neq); rfl; rfl; (first | assumption | rfl))
           | ((with_reducible apply ops_min2); rfl; (first | assumption | rfl))
           | ((with_reducible apply ops_max2); rfl; (first | assumption | rfl))
           | ((with_reducible apply ops_iaddrN); rfl; rfl; omega; rfl)
           | ((with_reducible apply ops_iaddr); rfl; rfl; omega; omega; rfl; rfl)
           | ((with_reducible apply ops_load); rfl; exact rowAt_of (by first | assumption) (Nat.zero_le _) (Nat.zero_le _); rfl; rfl)
           | ((with_reducible apply arr_loadN); rfl; (first | assumption); assumption; assumption; (first | assumption | (apply ints_get; omega) | (apply nats_get; omega)); rfl)
           | ((with_reducible apply arr_storeN); rfl; rfl; (first | assumption); assumption; assumption; (first | assumption | (apply ints_get; omega) | (apply nats_get; omega)); rfl; rfl; rfl; rfl; rfl)
           | ((with_reducible apply ops_struct); rfl; rfl; (first | assumption); rfl; rfl; rfl; rfl; rfl; exact Nat.le_of_ble_eq_true rfl; rfl)
           | ((with_reducible apply ops_bslice1); rfl; rfl; rfl)
           | ((with_reducible apply ops_push); rfl; rfl; (first | assumption); (first | assumption); assumption; assumption; assumption; (first | rfl | assumption); omega; rfl)
           | ((with_reducible apply ops_cutN); rfl; rfl; omega)
           | exact ops_of rfl
         · dsimp only [putV, List.set]; try rfl)
      | ((with_reducible apply d_go)
         · rfl
         · first
           | ((with_reducible apply ops_add); rfl; rfl; (first | assumption | rfl); omega; omega)
           | ((with_reducible apply ops_sub); rfl; rfl; (first | assumption | rfl); omega; omega)
           | ((with_reducible apply ops_mul); rfl; rfl; (first | assumption | rfl); omega; omega)
           | ((with_reducible apply ops_quo); rfl; rfl; decide; (first | assumption | rfl); omega; omega)
           | ((with_reducible apply ops_rem); rfl; rfl; omega; (first | assumption | rfl))
           | ((with_reducible apply ops_lss); rfl; rfl; (first | assumption | rfl))
           | ((with_reducible apply ops_gtr); rfl; rfl; (first | assumption | rfl))
           | ((with_reducible apply ops_leq); rfl; rfl; (first | assumption | rfl))
           | ((with_reducible apply ops_geq); rfl; rfl; (first | assumption | rfl))
           | ((with_reducible apply ops_eql); rfl; rfl; (first | assumption | rfl))
           | ((with_reducible apply ops_neq); rfl; rfl; (first | assumption | rfl))
           | ((with_reducible apply ops_min2); rfl; (first | assumption | rfl))
           | ((with_reducible apply ops_max2); rfl; (first | assumption | rfl))
           | ((with_reducible apply ops_iaddrN); rfl; rfl; omega; rfl)
           | ((with_reducible apply ops_iaddr); rfl; rfl; omega; omega; rfl; rfl)
           | ((with_reducible apply ops_load); rfl; exact rowAt_of (by first | assumption) (Nat.zero_le _) (Nat.zero_le _); rfl; rfl)
           | ((with_reducible apply arr_loadN); rfl; (first | assumption); assumption; assumption; (first | assumption | (apply ints_get; omega) | (apply nats_get; omega)); rfl)
           | ((with_reducible apply arr_storeN); rfl; rfl; (first | assumption); assumption; assumption; (first | assumption | (apply ints_get; omega) | (apply nats_get; omega)); rfl; rfl; rfl; rfl; rfl)
           | ((with_reducible apply ops_struct); rfl; rfl; (first | assumption); rfl; rfl; rfl; rfl; rfl; exact Nat.le_of_ble_eq_true rfl; rfl)
           | ((with_reducible apply ops_bslice1); rfl; rfl; rfl)
           | ((with_reducible apply ops_push); rfl; rfl; (first | assumption); (first | assumption); assumption; assumption; assumption; (first | rfl | assumption); omega; rfl)
           | ((with_reducible apply ops_cutN); rfl; rfl; omega)
           | exact ops_of rfl
         · (first | with_reducible exact free_empty | rw [allW_same] | rw [allW_set] | rw [allW_push]) <;> (repeat (first | with_reducible exact free_nil | with_reducible exact free_empty | ((with_reducible apply free_mask); rfl) | ((with_reducible apply free_ne); (focus (first | rfl | (simp [clash, meets, *]; done))))))
         · first | exact note_same | exact note_read | exact note_set | exact note_push
         · dsimp only [putV, List.set]; try rfl))
    apply q_loop
    repeat (first
      | with_reducible apply q_seq
      | with_reducible apply q_reg
      | with_reducible apply q_draw
      | with_reducible apply q_ret
      | with_reducible apply q_skip
      | with_reducible apply q_exit
      | with_reducible apply q_block
      | with_reducible apply k_norm
      | with_reducible apply k_ret
      | with_reducible apply k_exit
      | with_reducible apply b_norm
      | with_reducible apply b_ret
      | with_reducible apply b_leave
      | ((with_reducible apply b_exit); decide)
      | with_reducible apply g_nil
      | with_reducible apply d_nil
      | ((with_reducible apply q_true); rfl)
      | ((with_reducible apply q_false); rfl)
      | ((with_reducible apply g_skip)
         · rfl
         · dsimp only [putV, List.set]; try rfl)
      | ((with_reducible apply d_skip)
         · rfl
         · dsimp only [putV, List.set]; try rfl)
      | ((with_reducible apply g_go)
         · rfl
         · first
           | ((with_reducible apply ops_add); rfl; rfl; (first | assumption | rfl); omega; omega)
           | ((with_reducible apply ops_sub); rfl; rfl; (first | assumption | rfl); omega; omega)
           | ((with_reducible apply ops_mul); rfl; rfl; (first | assumption | rfl); omega; omega)
           | ((with_reducible apply ops_quo); rfl; rfl; decide; (first | assumption | rfl); omega; omega)
           | ((with_reducible apply ops_rem); rfl; rfl; omega; (first | assumption | rfl))
           | ((with_reducible apply ops_lss); rfl; rfl; (first | assumption | rfl))
           | ((with_reducible apply ops_gtr); rfl; rfl; (first | assumption | rfl))
           | ((with_reducible apply ops_leq); rfl; rfl; (first | assumption | rfl))
           | ((with_reducible apply ops_geq); rfl; rfl; (first | assumption | rfl))
           | ((with_reducible apply ops_eql); rfl; rfl; (first | assumption | rfl))
           | ((with_reducible apply ops_neq); rfl; rfl; (first | assumption | rfl))
           | ((with_reducible apply ops_min2); rfl; (first | assumption | rfl))
           | ((with_reducible apply ops_max2); rfl; (first | assumption | rfl))
           | ((with_reducible apply ops_iaddrN); rfl; rfl; omega; rfl)
           | ((with_reducible apply ops_iaddr); rfl; rfl; omega; omega; rfl; rfl)
           | ((with_reducible apply ops_load); rfl; exact rowAt_of (by first | assumption | exact hb1 _ | exact hT _ _ | exact hb2 _ _ _) (Nat.zero_le _) (Nat.zero_le _); rfl; rfl)
           | ((with_reducible apply arr_loadN); rfl; (first | assumption | exact hb1 _ | exact hT _ _ | exact hb2 _ _ _); assumption; assumption; (first | assumption | (apply ints_get; omega) | (apply nats_get; omega)); rfl)
           | ((with_reducible apply arr_storeN); rfl; rfl; (first | assumption | exact hb1 _ | exact hT _ _ | exact hb2 _ _ _); assumption; assumption; (first | assumption | (apply ints_get; omega) | (apply nats_get; omega)); rfl; rfl; rfl; rfl; rfl)
           | (((with_reducible apply ops_mk); rfl; rfl; omega))
           | (((with_reducible apply ops_box3); rfl))
           | (((with_reducible apply ops_push0); rfl; rfl; (first | assumption | exact hT _ _)))
           | ((with_reducible apply ops_struct); rfl; rfl; (first | assumption | exact hb1 _ | exact hT _ _ | exact hb2 _ _ _); rfl; rfl; rfl; rfl; rfl; exact Nat.le_of_ble_eq_true rfl; rfl)
           | ((with_reducible apply ops_bslice1); rfl; rfl; rfl)
           | ((with_reducible apply ops_push); rfl; rfl; (first | assumption | exact hb1 _ | exact hT _ _ | exact hb2 _ _ _); (first | assumption | exact hb1 _ | exact hT _ _ | exact hb2 _ _ _); assumption; assumption; assumption; (first | rfl | assumption); omega; rfl)
           | ((with_reducible apply ops_cutN); rfl; rfl; omega)
           | exact ops_of rfl
         · dsimp only [putV, List.set]; try rfl)
      | ((with_reducible apply d_go)
         · rfl
         · first
           | ((with_reducible apply ops_add); rfl; rfl; (first | assumption | rfl); omega; omega)
           | ((with_reducible apply ops_sub); rfl; rfl; (first | assumption | rfl); omega; omega)
           | ((with_reducible apply ops_mul); rfl; rfl; (first | assumption | rfl); omega; omega)
           | ((with_reducible apply ops_quo); rfl; rfl; decide; (first | assumption | rfl); omega; omega)
           | ((with_reducible apply ops_rem); rfl; rfl; omega; (first | assumption | rfl))
           | ((with_reducible apply ops_lss); rfl; rfl; (first | assumption | rfl))
           | ((with_reducible apply ops_gtr); rfl; rfl; (first | assumption | rfl))
           | ((with_reducible apply ops_leq); rfl; rfl; (first | assumption | rfl))
           | ((with_reducible apply ops_geq); rfl; rfl; (first | assumption | rfl))
           | ((with_reducible apply ops_eql); rfl; rfl; (first | assumption | rfl))
           | ((with_reducible apply ops_neq); rfl; rfl; (first | assumption | rfl))
           | ((with_reducible apply ops_min2); rfl; (first | assumption | rfl))
           | ((with_reducible apply ops_max2); rfl; (first | assumption | rfl))
           | ((with_reducible apply ops_iaddrN); rfl; rfl; omega; rfl)
           | ((with_reducible apply ops_iaddr); rfl; rfl; omega; omega; rfl; rfl)
           | ((with_reducible apply ops_load); rfl; exact rowAt_of (by first | assumption | exact hb1 _ | exact hT _ _ | exact hb2 _ _ _) (Nat.zero_le _) (Nat.zero_le _); rfl; rfl)
           | ((with_reducible apply arr_loadN); rfl; (first | assumption | exact hb1 _ | exact hT _ _ | exact hb2 _ _ _); assumption; assumption; (first | assumption | (apply ints_get; omega) | (apply nats_get; omega)); rfl)
           | ((with_reducible apply arr_storeN); rfl; rfl; (first | assumption | exact hb1 _ | exact hT _ _ | exact hb2 _ _ _); assumption; assumption; (first | assumption | (apply ints_get; omega) | (apply nats_get; omega)); rfl; rfl; rfl; rfl; rfl)
           | (((with_reducible apply ops_mk); rfl; rfl; omega))
           | (((with_reducible apply ops_box3); rfl))
           | (((with_reducible apply ops_push0); rfl; rfl; (first | assumption | exact hT _ _)))
           | ((with_reducible apply ops_struct); rfl; rfl; (first | assumption | exact hb1 _ | exact hT _ _ | exact hb2 _ _ _); rfl; rfl; rfl; rfl; rfl; exact Nat.le_of_ble_eq_true rfl; rfl)
           | ((with_reducible apply ops_bslice1); rfl; rfl; rfl)
           | ((with_reducible apply ops_push); rfl; rfl; (first | assumption | exact hb1 _ | exact hT _ _ | exact hb2 _ _ _); (first | assumption | exact hb1 _ | exact hT _ _ | exact hb2 _ _ _); assumption; assumption; assumption; (first | rfl | assumption); omega; rfl)
           | ((with_reducible apply ops_cutN); rfl; rfl; omega)
           | exact ops_of rfl
         · (first | with_reducible exact free_empty | rw [allW_same] | rw [allW_set] | rw [allW_push]) <;> (repeat (first | with_reducible exact free_nil | with_reducible exact free_empty | ((with_reducible apply free_mask); rfl) | ((with_reducible apply free_ne); (focus (first | rfl | (simp [clash, meets, *]; done))))))
         · first | exact note_same | exact note_read | exact note_set | exact note_push
         · dsimp only [putV, List.set]; try rfl))
    have eS : (ints (List.replicate (n + 1) 0)).set (0 + Int.toNat 1) [V.int .i64 0] = ints ((List.replicate (n + 1) 0).set 1 0) := ints_set
    obtain ⟨q4, hq4⟩ : ∃ q4, q4 = (((q3.set h.length (.row ⟨rP.sz, ints ((List.replicate (n + 1) 0).set 1 0) ++ jP, rP.cur, rP.cur⟩)) ++ [Ob.row ⟨1, [[V.int .i64 1]], 0, 0⟩]) ++ [Ob.row ⟨1, [[V.int .i64 1]], 0, 0⟩]).set (h.length + 1 + 1) (.row ⟨3, [[.os (h.length + 4) 0 1 0 1 false, .os h.length rP.cur 1 0 (ints (List.replicate (n + 1) 0)).length cP, av]], 0, 0⟩) := ⟨_, rfl⟩
    have kp : Keeps q3 (q3.set h.length (.row ⟨rP.sz, ints ((List.replicate (n + 1) 0).set 1 0) ++ jP, rP.cur, rP.cur⟩)) [h.length] := Keeps.set (by simp)
    have kq : Keeps (q3.set h.length (.row ⟨rP.sz, ints ((List.replicate (n + 1) 0).set 1 0) ++ jP, rP.cur, rP.cur⟩)) q4 [h.length + 1 + 1] := by
      rw [hq4]; exact (Keeps.push.trans Keeps.push).trans (Keeps.set (by simp))
    have b4 : q4[h.length + 1 + 1]? = some (.row ⟨3, [[.os (h.length + 4) 0 1 0 1 false, .os h.length rP.cur 1 0 (ints (List.replicate (n + 1) 0)).length cP, av]], 0, 0⟩) := by
      rw [hq4]; exact set_at (by simp; omega)
    have L4 : q4[h.length + 4]? = some (.row ⟨1, [[V.int .i64 1]], 0, 0⟩) := by
      rw [hq4, set_ne (by omega)]
      have : ((q3.set h.length (.row ⟨rP.sz, ints ((List.replicate (n + 1) 0).set 1 0) ++ jP, rP.cur, rP.cur⟩)) ++ [Ob.row ⟨1, [[V.int .i64 1]], 0, 0⟩]).length = h.length + 4 := by simp; omega
      rw [← this]; exact hT _ _
    have H4 : HeapAt q4 (h.length + 1 + 1) (h.length + 4) h.length (h.length + 1) [1] ((List.replicate (n + 1) 0).set 1 0) (List.replicate (n + 1) 0) := by
      refine ⟨⟨.os (h.length + 4) 0 1 0 1 false, .os h.length rP.cur 1 0 (ints (List.replicate (n + 1) 0)).length cP, av, b4, .inr ⟨false, _, [], ?_, L4, rfl, Nat.le_refl _, rfl⟩, ?_, (ha.frame kp (by simp)).frame kq (by simp), rfl⟩, by omega, by omega, by omega, by omega, by omega, by omega⟩
      · rfl
      · have := Arr.of_set (h := q3) (c := cP) (els := ints (List.replicate (n + 1) 0)) (els' := ints ((List.replicate (n + 1) 0).set 1 0)) (junk := jP) rfl hP' sP (by simp [ints_len])
        exact this.frame kq (by simp; omega)
    have eL : (q3.set h.length (.row ⟨rP.sz, (ints (List.replicate (n + 1) 0)).set (0 + Int.toNat 1) [V.int .i64 0] ++ jP, rP.cur, rP.cur⟩) ++ [Ob.row ⟨1, [[V.int .i64 1]], 0, 0⟩]).length = h.length + 4 := by simp; omega
    rw [eL]
    change RQ EH _ _ ⟨_, (((q3.set h.length (.row ⟨rP.sz, (ints (List.replicate (n + 1) 0)).set (0 + Int.toNat 1) [V.int .i64 0] ++ jP, rP.cur, rP.cur⟩)) ++ [Ob.row ⟨1, [[V.int .i64 1]], 0, 0⟩]) ++ [Ob.row ⟨1, [[V.int .i64 1]], 0, 0⟩]).set (h.length + 1 + 1) (.row ⟨3, [[.os (h.length + 4) 0 1 0 1 false, .os h.length rP.cur 1 0 (ints (List.replicate (n + 1) 0)).length cP, av]], 0, 0⟩), _, _⟩ _
    rw [eS, ← hq4]
    refine new_loop (bL := h.length + 4) (bP := h.length) (bA := h.length + 1) (A := List.replicate (n + 1) 0) hn _ (n - 1) 1 [1] _ q4 _ _ _ _ _ _ _ _ _ _ _ _ _ _ _ _ _ _ _ _ _ _ _ _ _ _ _ _ _ _ _ _ _ _ _ _ _ _ _ _ _ _ _ _ _ _ (by omega) (Nat.le_refl _) rfl ?_ (by simp) ?_ H4 ?_
    · intro x hx
      have : x = 0 := by omega
      subst this; rfl
    · intro u hu1 hu2
      have : u = 1 := by omega
      subst this
      rw [gI_set (by simp; omega), if_pos rfl]; rfl
    intro L' P' h' r' w' k5 k1 k2 k3 k6 k7 k8 k9 k10 k11 k12 k13 k14 k15 k16 k17 k18 k19 k20 k21 k22 k23 k24 k25 k26 k27 k28 k29 k30 k31 k32 k33 k34 k35 k36 k37 k38 k39 k40 k41 k42 k43 k44 k45 k46 a1 a2 a3 a4 a5 a6
    repeat (first
      | with_reducible apply q_seq
      | with_reducible apply q_reg
      | with_reducible apply q_draw
      | with_reducible apply q_ret
      | with_reducible apply q_skip
      | with_reducible apply q_exit
      | with_reducible apply q_block
      | with_reducible apply k_norm
      | with_reducible apply k_ret
      | with_reducible apply k_exit
      | with_reducible apply b_norm
      | with_reducible apply b_ret
      | with_reducible apply b_leave
      | ((with_reducible apply b_exit); decide)
      | with_reducible apply g_nil
      | with_reducible apply d_nil
      | ((with_reducible apply q_true); rfl)
      | ((with_reducible apply q_false); rfl)
      | ((with_reducible apply g_skip)
         · rfl
         · dsimp only [putV, List.set]; try rfl)
      | ((with_reducible apply d_skip)
         · rfl
         · dsimp only [putV, List.set]; try rfl)
      | ((with_reducible apply g_go)
         · rfl
         · first
           | ((with_reducible apply ops_add); rfl; rfl; (first | assumption | rfl); omega; omega)
           | ((with_reducible apply ops_sub); rfl; rfl; (first | assumption | rfl); omega; omega)
           | ((with_reducible apply ops_mul); rfl; rfl; (first | assumption | rfl); omega; omega)
           | ((with_reducible apply ops_quo); rfl; rfl; decide; (first | assumption | rfl); omega; omega)
           | ((with_reducible apply ops_rem); rfl; rfl; omega; (first | assumption | rfl))
           | ((with_reducible apply ops_lss); rfl; rfl; (first | assumption | rfl))
           | ((with_reducible apply ops_gtr); rfl; rfl; (first | assumption | rfl))
           | ((with_reducible apply ops_leq); rfl; rfl; (first | assumption | rfl))
           | ((with_reducible apply ops_geq); rfl; rfl; (first | assumption | rfl))
           | ((with_reducible apply ops_eql); rfl; rfl; (first | assumption | rfl))
           | ((with_reducible apply ops_neq); rfl; rfl; (first | assumption | rfl))
           | ((with_reducible apply ops_min2); rfl; (first | assumption | rfl))
           | ((with_reducible apply ops_max2); rfl; (first | assumption | rfl))
           | ((with_reducible apply ops_iaddrN); rfl; rfl; omega; rfl)
           | ((with_reducible apply ops_iaddr); rfl; rfl; omega; omega; rfl; rfl)
           | ((with_reducible apply ops_load); rfl; exact rowAt_of (by first | assumption) (Nat.zero_le _) (Nat.zero_le _); rfl; rfl)
           | ((with_reducible apply arr_loadN); rfl; (first | assumption); assumption; assumption; (first | assumption | (apply ints_get; omega) | (apply nats_get; omega)); rfl)
           | ((with_reducible apply arr_storeN); rfl; rfl; (first | assumption); assumption; assumption; (first | assumption | (apply ints_get; omega) | (apply nats_get; omega)); rfl; rfl; rfl; rfl; rfl)
           | ((with_reducible apply ops_struct); rfl; rfl; (first | assumption); rfl; rfl; rfl; rfl; rfl; exact Nat.le_of_ble_eq_true rfl; rfl)
           | ((with_reducible apply ops_bslice1); rfl; rfl; rfl)
           | ((with_reducible apply ops_push); rfl; rfl; (first | assumption); (first | assumption); assumption; assumption; assumption; (first | rfl | assumption); omega; rfl)
           | ((with_reducible apply ops_cutN); rfl; rfl; omega)
           | exact ops_of rfl
         · dsimp only [putV, List.set]; try rfl)
      | ((with_reducible apply d_go)
         · rfl
         · first
           | ((with_reducible apply ops_add); rfl; rfl; (first | assumption | rfl); omega; omega)
           | ((with_reducible apply ops_sub); rfl; rfl; (first | assumption | rfl); omega; omega)
           | ((with_reducible apply ops_mul); rfl; rfl; (first | assumption | rfl); omega; omega)
           | ((with_reducible apply ops_quo); rfl; rfl; decide; (first | assumption | rfl); omega; omega)
           | ((with_reducible apply ops_rem); rfl; rfl; omega; (first | assumption | rfl))
           | ((with_reducible apply ops_lss); rfl; rfl; (first | assumption | rfl))
           | ((with_reducible apply ops_gtr); rfl; rfl; (first | assumption | rfl))
           | ((with_reducible apply ops_leq); rfl; rfl; (first | assumption | rfl))
           | ((with_reducible apply ops_geq); rfl; rfl; (first | assumption | rfl))
           | ((with_reducible apply ops_eql); rfl; rfl; (first | assumption | rfl))
           | ((with_reducible apply ops_neq); rfl; rfl; (first | assumption | rfl))
           | ((with_reducible apply ops_min2); rfl; (first | assumption | rfl))
           | ((with_reducible apply ops_max2); rfl; (first | assumption | rfl))
           | ((with_reducible apply ops_iaddrN); rfl; rfl; omega; rfl)
           | ((with_reducible apply ops_iaddr); rfl; rfl; omega; omega; rfl; rfl)
           | ((with_reducible apply ops_load); rfl; exact rowAt_of (by first | assumption) (Nat.zero_le _) (Nat.zero_le _); rfl; rfl)
           | ((with_reducible apply arr_loadN); rfl; (first | assumption); assumption; assumption; (first | assumption | (apply ints_get; omega) | (apply nats_get; omega)); rfl)
           | ((with_reducible apply arr_storeN); rfl; rfl; (first | assumption); assumption; assumption; (first | assumption | (apply ints_get; omega) | (apply nats_get; omega)); rfl; rfl; rfl; rfl; rfl)
           | ((with_reducible apply ops_struct); rfl; rfl; (first | assumption); rfl; rfl; rfl; rfl; rfl; exact Nat.le_of_ble_eq_true rfl; rfl)
           | ((with_reducible apply ops_bslice1); rfl; rfl; rfl)
           | ((with_reducible apply ops_push); rfl; rfl; (first | assumption); (first | assumption); assumption; assumption; assumption; (first | rfl | assumption); omega; rfl)
           | ((with_reducible apply ops_cutN); rfl; rfl; omega)
           | exact ops_of rfl
         · (first | with_reducible exact free_empty | rw [allW_same] | rw [allW_set] | rw [allW_push]) <;> (repeat (first | with_reducible exact free_nil | with_reducible exact free_empty | ((with_reducible apply free_mask); rfl) | ((with_reducible apply free_ne); (focus (first | rfl | (simp [clash, meets, *]; done))))))
         · first | exact note_same | exact note_read | exact note_set | exact note_push
         · dsimp only [putV, List.set]; try rfl))
    refine ⟨.inl rfl, _, _, rfl, rfl, h.length + 4, L', P', List.replicate (n + 1) 0, a1, ⟨a4, by simp, ?_, ?_⟩, a2, fun u hu1 hu2 => by rw [a5 u hu1 hu2]; omega, fun u => gI_rep, ?_, by omega⟩
    · rw [a2]
      intro j hj0 hj _
      rw [a3 j hj, a3 (par j) (by unfold par; omega)]
      unfold Ah; rw [gI_rep, gI_rep]; unfold par; omega
    · rw [a2]
      refine ⟨fun x hx => ?_, fun u hu1 hu2 => .inr ⟨u - 1, by omega, by rw [a5 u hu1 hu2]; omega, by rw [a3 _ (by omega)]; omega⟩⟩
      rw [a3 x hx]
      exact ⟨by omega, by omega, by rw [a5 _ (by omega) (by omega)]; omega⟩
    · refine ⟨?_, fun c hc hcn => ?_⟩
      · exact Nat.le_trans kk.1 (Nat.le_trans kp.1 (Nat.le_trans kq.1 a6.1))
      · have l1 := kk.1; have l2 := kp.1; have l3 := kq.1
        have g1 : c < q3.length := Nat.lt_of_lt_of_le hc l1
        have g2 := Nat.lt_of_lt_of_le g1 l2
        have g3 := Nat.lt_of_lt_of_le g2 l3
        have ne1 : c ≠ h.length := by omega
        have ne2 : c ≠ h.length + 1 + 1 := by omega
        have ne3 : c ≠ h.length + 4 := by omega
        rw [a6.2 c g3 (by simp [ne1, ne2, ne3]), kq.2 c g2 (by simp [ne2]), kp.2 c g1 (by simp [ne1]), kk.2 c hc (by simp)]
  · have hc : decide ((1 : Int) ≤ (n : Int)) = false := decide_eq_false (by omega)
    have hn0 : n = 0 := by omega
    subst hn0
    repeat (first
      | with_reducible apply q_seq
      | with_reducible apply q_reg
      | with_reducible apply q_draw
      | with_reducible apply q_ret
      | with_reducible apply q_skip
      | with_reducible apply q_exit
      | with_reducible apply q_block
      | with_reducible apply k_norm
      | with_reducible apply k_ret
      | with_reducible apply k_exit
      | with_reducible apply b_norm
      | with_reducible apply b_ret
      | with_reducible apply b_leave
      | ((with_reducible apply b_exit); decide)
      | with_reducible apply g_nil
      | with_reducible apply d_nil
      | ((with_reducible apply q_true); rfl)
      | ((with_reducible apply q_false); rfl)
      | ((with_reducible apply g_skip)
         · rfl
         · dsimp only [putV, List.set]; try rfl)
      | ((with_reducible apply d_skip)
         · rfl
         · dsimp only [putV, List.set]; try rfl)
      | ((with_reducible apply g_go)
         · rfl
         · first
           | ((with_reducible apply ops_add); rfl; rfl; (first | assumption | rfl); omega; omega)
           | ((with_reducible apply ops_sub); rfl; rfl; (first | assumption | rfl); omega; omega)
           | ((with_reducible apply ops_mul); rfl; rfl; (first | assumption | rfl); omega; omega)
           | ((with_reducible apply ops_quo); rfl; rfl; decide; (first | assumption | rfl); omega; omega)
           | ((with_reducible apply ops_rem); rfl; rfl; omega; (first | assumption | rfl))
           | ((with_reducible apply ops_lss); rfl; rfl; (first | assumption | rfl))
           | ((with_reducible apply ops_gtr); rfl; rfl; (first | assumption | rfl))
           | ((with_reducible apply ops_leq); rfl; rfl; (first | assumption | rfl))
           | ((with_reducible apply ops_geq); rfl; rfl; (first | assumption | rfl))
           | ((with_reducible apply ops_eql); rfl; rfl; (first | assumption | rfl))
           | ((with_reducible apply ops_neq); rfl; rfl; (first | assumption | rfl))
           | ((with_reducible apply ops_min2); rfl; (first | assumption | rfl))
           | ((with_reducible apply ops_max2); rfl; (first | assumption | rfl))
           | ((with_reducible apply ops_iaddrN); rfl; rfl; omega; rfl)
           | ((with_reducible apply ops_iaddr); rfl; rfl; omega; omega; rfl; rfl)
           | ((with_reducible apply ops_load); rfl; exact rowAt_of (by first | assumption) (Nat.zero_le _) (Nat.zero_le _); rfl; rfl)
           | ((with_reducible apply arr_loadN); rfl; (first | assumption); assumption; assumption; (first | assumption | (apply ints_get; omega) | (apply nats_get; omega)); rfl)
           | ((with_reducible apply arr_storeN); rfl; rfl; (first | assumption); assumption; assumption; (first | assumption | (apply ints_get; omega) | (apply nats_get; omega)); rfl; rfl; rfl; rfl; rfl)
           | ((with_reducible apply ops_struct); rfl; rfl; (first | assumption); rfl; rfl; rfl; rfl; rfl; exact Nat.le_of_ble_eq_true rfl; rfl)
           | ((with_reducible apply ops_bslice1); rfl; rfl; rfl)
           | ((with_reducible apply ops_push); rfl; rfl; (first | assumption); (first | assumption); assumption; assumption; assumption; (first | rfl | assumption); omega; rfl)
           | ((with_reducible apply ops_cutN); rfl; rfl; omega)
           | exact ops_of rfl
         · dsimp only [putV, List.set]; try rfl)
      | ((with_reducible apply d_go)
         · rfl
         · first
           | ((with_reducible apply ops_add); rfl; rfl; (first | assumption | rfl); omega; omega)
           | ((with_reducible apply ops_sub); rfl; rfl; (first | assumption | rfl); omega; omega)
           | ((with_reducible apply ops_mul); rfl; rfl; (first | assumption | rfl); omega; omega)
           | ((with_reducible apply ops_quo); rfl; rfl; decide; (first | assumption | rfl); omega; omega)
           | ((with_reducible apply ops_rem); rfl; rfl; omega; (first | assumption | rfl))
           | ((with_reducible apply ops_lss); rfl; rfl; (first | assumption | rfl))
           | ((with_reducible apply ops_gtr); rfl; rfl; (first | assumption | rfl))
           | ((with_reducible apply ops_leq); rfl; rfl; (first | assumption | rfl))
           | ((with_reducible apply ops_geq); rfl; rfl; (first | assumption | rfl))
           | ((with_reducible apply ops_eql); rfl; rfl; (first | assumption | rfl))
           | ((with_reducible apply ops_neq); rfl; rfl; (first | assumption | rfl))
           | ((with_reducible apply ops_min2); rfl; (first | assumption | rfl))
           | ((with_reducible apply ops_max2); rfl; (first | assumption | rfl))
           | ((with_reducible apply ops_iaddrN); rfl; rfl; omega; rfl)
           | ((with_reducible apply ops_iaddr); rfl; rfl; omega; omega; rfl; rfl)
           | ((with_reducible apply ops_load); rfl; exact rowAt_of (by first | assumption) (Nat.zero_le _) (Nat.zero_le _); rfl; rfl)
           | ((with_reducible apply arr_loadN); rfl; (first | assumption); assumption; assumption; (first | assumption | (apply ints_get; omega) | (apply nats_get; omega)); rfl)
           | ((with_reducible apply arr_storeN); rfl; rfl; (first | assumption); assumption; assumption; (first | assumption | (apply ints_get; omega) | (apply nats_get; omega)); rfl; rfl; rfl; rfl; rfl)
           | ((with_reducible apply ops_struct); rfl; rfl; (first | assumption); rfl; rfl; rfl; rfl; rfl; exact Nat.le_of_ble_eq_true rfl; rfl)
           | ((with_reducible apply ops_bslice1); rfl; rfl; rfl)
           | ((with_reducible apply ops_push); rfl; rfl; (first | assumption); (first | assumption); assumption; assumption; assumption; (first | rfl | assumption); omega; rfl)
           | ((with_reducible apply ops_cutN); rfl; rfl; omega)
           | exact ops_of rfl
         · (first | with_reducible exact free_empty | rw [allW_same] | rw [allW_set] | rw [allW_push]) <;> (repeat (first | with_reducible exact free_nil | with_reducible exact free_empty | ((with_reducible apply free_mask); rfl) | ((with_reducible apply free_ne); (focus (first | rfl | (simp [clash, meets, *]; done))))))
         · first | exact note_same | exact note_read | exact note_set | exact note_push
         · dsimp only [putV, List.set]; try rfl))
    apply q_loop
    repeat (first
      | with_reducible apply q_seq
      | with_reducible apply q_reg
      | with_reducible apply q_draw
      | with_reducible apply q_ret
      | with_reducible apply q_skip
      | with_reducible apply q_exit
      | with_reducible apply q_block
      | with_reducible apply k_norm
      | with_reducible apply k_ret
      | with_reducible apply k_exit
      | with_reducible apply b_norm
      | with_reducible apply b_ret
      | with_reducible apply b_leave
      | ((with_reducible apply b_exit); decide)
      | with_reducible apply g_nil
      | with_reducible apply d_nil
      | ((with_reducible apply q_true); rfl)
      | ((with_reducible apply q_false); rfl)
      | ((with_reducible apply g_skip)
         · rfl
         · dsimp only [putV, List.set]; try rfl)
      | ((with_reducible apply d_skip)
         · rfl
         · dsimp only [putV, List.set]; try rfl)
      | ((with_reducible apply g_go)
         · rfl
         · first
           | ((with_reducible apply ops_add); rfl; rfl; (first | assumption | rfl); omega; omega)
           | ((with_reducible apply ops_sub); rfl; rfl; (first | assumption | rfl); omega; omega)
           | ((with_reducible apply ops_mul); rfl; rfl; (first | assumption | rfl); omega; omega)
           | ((with_reducible apply ops_quo); rfl; rfl; decide; (first | assumption | rfl); omega; omega)
           | ((with_reducible apply ops_rem); rfl; rfl; omega; (first | assumption | rfl))
           | ((with_reducible apply ops_lss); rfl; rfl; (first | assumption | rfl))
           | ((with_reducible apply ops_gtr); rfl; rfl; (first | assumption | rfl))
           | ((with_reducible apply ops_leq); rfl; rfl; (first | assumption | rfl))
           | ((with_reducible apply ops_geq); rfl; rfl; (first | assumption | rfl))
           | ((with_reducible apply ops_eql); rfl; rfl; (first | assumption | rfl))
           | ((with_reducible apply ops_neq); rfl; rfl; (first | assumption | rfl))
           | ((with_reducible apply ops_min2); rfl; (first | assumption | rfl))
           | ((with_reducible apply ops_max2); rfl; (first | assumption | rfl))
           | ((with_reducible apply ops_iaddrN); rfl; rfl; omega; rfl)
           | ((with_reducible apply ops_iaddr); rfl; rfl; omega; omega; rfl; rfl)
           | ((with_reducible apply ops_load); rfl; exact rowAt_of (by first | assumption) (Nat.zero_le _) (Nat.zero_le _); rfl; rfl)
           | ((with_reducible apply arr_loadN); rfl; (first | assumption); assumption; assumption; (first | assumption | (apply ints_get; omega) | (apply nats_get; omega)); rfl)
           | ((with_reducible apply arr_storeN); rfl; rfl; (first | assumption); assumption; assumption; (first | assumption | (apply ints_get; omega) | (apply nats_get; omega)); rfl; rfl; rfl; rfl; rfl)
           | ((with_reducible apply ops_struct); rfl; rfl; (first | assumption); rfl; rfl; rfl; rfl; rfl; exact Nat.le_of_ble_eq_true rfl; rfl)
           | ((with_reducible apply ops_bslice1); rfl; rfl; rfl)
           | ((with_reducible apply ops_push); rfl; rfl; (first | assumption); (first | assumption); assumption; assumption; assumption; (first | rfl | assumption); omega; rfl)
           | ((with_reducible apply ops_cutN); rfl; rfl; omega)
           | exact ops_of rfl
         · dsimp only [putV, List.set]; try rfl)
      | ((with_reducible apply d_go)
         · rfl
         · first
           | ((with_reducible apply ops_add); rfl; rfl; (first | assumption | rfl); omega; omega)
           | ((with_reducible apply ops_sub); rfl; rfl; (first | assumption | rfl); omega; omega)
           | ((with_reducible apply ops_mul); rfl; rfl; (first | assumption | rfl); omega; omega)
           | ((with_reducible apply ops_quo); rfl; rfl; decide; (first | assumption | rfl); omega; omega)
           | ((with_reducible apply ops_rem); rfl; rfl; omega; (first | assumption | rfl))
           | ((with_reducible apply ops_lss); rfl; rfl; (first | assumption | rfl))
           | ((with_reducible apply ops_gtr); rfl; rfl; (first | assumption | rfl))
           | ((with_reducible apply ops_leq); rfl; rfl; (first | assumption | rfl))
           | ((with_reducible apply ops_geq); rfl; rfl; (first | assumption | rfl))
           | ((with_reducible apply ops_eql); rfl; rfl; (first | assumption | rfl))
           | ((with_reducible apply ops_neq); rfl; rfl; (first | assumption | rfl))
           | ((with_reducible apply ops_min2); rfl; (first | assumption | rfl))
           | ((with_reducible apply ops_max2); rfl; (first | assumption | rfl))
           | ((with_reducible apply ops_iaddrN); rfl; rfl; omega; rfl)
           | ((with_reducible apply ops_iaddr); rfl; rfl; omega; omega; rfl; rfl)
           | ((with_reducible apply ops_load); rfl; exact rowAt_of (by first | assumption) (Nat.zero_le _) (Nat.zero_le _); rfl; rfl)
           | ((with_reducible apply arr_loadN); rfl; (first | assumption); assumption; assumption; (first | assumption | (apply ints_get; omega) | (apply nats_get; omega)); rfl)
           | ((with_reducible apply arr_storeN); rfl; rfl; (first | assumption); assumption; assumption; (first | assumption | (apply ints_get; omega) | (apply nats_get; omega)); rfl; rfl; rfl; rfl; rfl)
           | ((with_reducible apply ops_struct); rfl; rfl; (first | assumption); rfl; rfl; rfl; rfl; rfl; exact Nat.le_of_ble_eq_true rfl; rfl)
           | ((with_reducible apply ops_bslice1); rfl; rfl; rfl)
           | ((with_reducible apply ops_push); rfl; rfl; (first | assumption); (first | assumption); assumption; assumption; assumption; (first | rfl | assumption); omega; rfl)
           | ((with_reducible apply ops_cutN); rfl; rfl; omega)
           | exact ops_of rfl
         · (first | with_reducible exact free_empty | rw [allW_same] | rw [allW_set] | rw [allW_push]) <;> (repeat (first | with_reducible exact free_nil | with_reducible exact free_empty | ((with_reducible apply free_mask); rfl) | ((with_reducible apply free_ne); (focus (first | rfl | (simp [clash, meets, *]; done))))))
         · first | exact note_same | exact note_read | exact note_set | exact note_push
         · dsimp only [putV, List.set]; try rfl))
    refine ⟨.inl rfl, _, _, rfl, rfl, h.length + 3, [], _, _, ⟨⟨.nils, pv, av, b3, .inl ⟨rfl, rfl, rfl⟩, hp, ha, trivial⟩, by omega, by omega, by omega, by omega, by omega, by omega⟩, ⟨rfl, rfl, fun j _ hj => by simp at hj, ⟨fun i hi => by simp at hi, fun u hu1 hu2 => by omega⟩⟩, rfl, fun u hu1 hu2 => by omega, fun u => gI_rep, kk, by omega⟩
end Go.Proofs.Ytmmipfmdkoaekaa.Code
