/- A part of the proof: HeapRun4. No condition. -/
import Derived.Test.YtmmipfmdkoaekaaHeapRun3
set_option linter.all false
set_option maxRecDepth 100000
namespace Go.Proofs.Ytmmipfmdkoaekaa.Code
open Go.Mini Go.HeapMath Go.HeapRun
set_option linter.all false
set_option maxHeartbeats 4000000
theorem does_read {f : FuncId} {args : List V} {h : H} {v : V} {D : H → Prop} (hc : ∃ r, Calls' EH f args h ⟨v, h, r, []⟩) (hd : D h) : Does EH f args h v D := by
  obtain ⟨r, hr⟩ := hc; exact does_intro hr hd
theorem in_yes {h : H} {b bL bP bA : Nat} {L : List Nat} {P A : List Int} (hH : HeapAt h b bL bP bA L P A) {u : Nat} (h0 : 0 < u) (h1 : u < P.length) : ∃ r, Calls' EH 24 [.ptr b 0 0 0, .int .i64 u] h ⟨.bool true, h, r, []⟩ := by
  have := in_run hH (v := u)
  rw [decide_eq_true (by omega)] at this; exact this
theorem in_no {h : H} {b bL bP bA : Nat} {L : List Nat} {P A : List Int} (hH : HeapAt h b bL bP bA L P A) {v : Int} (h0 : ¬ (0 < v ∧ v < P.length)) : ∃ r, Calls' EH 24 [.ptr b 0 0 0, .int .i64 v] h ⟨.bool false, h, r, []⟩ := by
  have := in_run hH (v := v)
  rw [decide_eq_false h0] at this; exact this
/-- Len -/
theorem len_run {h : H} {b bL bP bA : Nat} {L : List Nat} {P A : List Int} (hH : HeapAt h b bL bP bA L P A) : ∃ r, Calls' EH 13 [.ptr b 0 0 0] h ⟨.int .i64 (L.length : Nat), h, r, []⟩ := by
  have hH0 := hH
  obtain ⟨⟨lv, pv, av, hb, hl, hp, ha, hcl⟩, n1, n2, n3, n4, n5, n6⟩ := hH
  rcases hl with ⟨hl, hl2, _⟩ | hl
  · subst hl hl2
    apply Exists.intro
    apply calls_keep (by rfl) (by rfl) (by simp only [List.length_cons, List.length_nil, List.replicate, List.cons_append, List.nil_append]; try rfl)
    · repeat (first
        | with_reducible apply gg_seq
        | with_reducible apply cont_norm
        | with_reducible exact cont_ret
        | with_reducible exact cont_exit
        | with_reducible apply go_reg
        | with_reducible apply go_draw
        | with_reducible exact go_ret
        | with_reducible exact go_skip
        | with_reducible exact go_exit
        | ((with_reducible apply go_true); rfl)
        | ((with_reducible apply go_false); rfl)
        | ((with_reducible apply regs_go)
           · rfl
           · first
             | ((with_reducible apply ops_add); rfl; rfl; (first | assumption | rfl); omega; omega)
             | ((with_reducible apply ops_sub); rfl; rfl; (first | assumption | rfl); omega; omega)
             | ((with_reducible apply ops_mul); rfl; rfl; (first | assumption | rfl); omega; omega)
             | ((with_reducible apply ops_quo); rfl; rfl; decide; (first | assumption | rfl); omega; omega)
             | ((with_reducible apply ops_rem); rfl; rfl; omega; (first | assumption | rfl))
             | ((with_reducible apply ops_lss); rfl; rfl; (first | assumption | rfl))
             | ((with_reducible apply ops_gtr); rfl; rfl; (first | assumption | rfl))
             | ((with_reducible apply ops_leq); rfl; rfl; (first | assumption | rfl))
             | ((with_reducible apply ops_geq); rfl; rfl; (first | assumption | rfl))
             | ((with_reducible apply ops_eql); rfl; rfl; (first | assumption | rfl))
             | ((with_reducible apply ops_neq); rfl; rfl; (first | assumption | rfl))
             | ((with_reducible apply ops_min2); rfl; (first | assumption | rfl))
             | ((with_reducible apply ops_max2); rfl; (first | assumption | rfl))
             | ((with_reducible apply ops_iaddrN); rfl; rfl; omega; rfl)
             | ((with_reducible apply ops_iaddr); rfl; rfl; omega; omega; rfl; rfl)
             | ((with_reducible apply ops_load); rfl; exact rowAt_of (by first | assumption) (Nat.zero_le _) (Nat.zero_le _); rfl; rfl)
             | ((with_reducible apply arr_loadN); rfl; (first | assumption); assumption; assumption; (first | assumption | (apply ints_get; omega) | (apply nats_get; omega)); rfl)
             | ((with_reducible apply arr_storeN); rfl; rfl; (first | assumption); assumption; assumption; (first | assumption | (apply ints_get; omega) | (apply nats_get; omega)); rfl; rfl; rfl; rfl; rfl)
             | ((with_reducible apply ops_struct); rfl; rfl; (first | assumption); rfl; rfl; rfl; rfl; rfl; exact Nat.le_of_ble_eq_true rfl; rfl)
             | ((with_reducible apply ops_bslice1); rfl; rfl; rfl)
             | ((with_reducible apply ops_push); rfl; rfl; (first | assumption); (first | assumption); assumption; assumption; assumption; assumption; omega; rfl)
             | ((with_reducible apply ops_cutN); rfl; rfl; omega)
             | exact ops_of rfl
           · dsimp only [putV, List.set]; try rfl
           · rfl
           · rfl)
        | ((with_reducible apply regs_skip)
           · rfl
           · dsimp only [putV, List.set]; try rfl)
        | ((with_reducible apply draws_go)
           · rfl
           · first
             | ((with_reducible apply ops_add); rfl; rfl; (first | assumption | rfl); omega; omega)
             | ((with_reducible apply ops_sub); rfl; rfl; (first | assumption | rfl); omega; omega)
             | ((with_reducible apply ops_mul); rfl; rfl; (first | assumption | rfl); omega; omega)
             | ((with_reducible apply ops_quo); rfl; rfl; decide; (first | assumption | rfl); omega; omega)
             | ((with_reducible apply ops_rem); rfl; rfl; omega; (first | assumption | rfl))
             | ((with_reducible apply ops_lss); rfl; rfl; (first | assumption | rfl))
             | ((with_reducible apply ops_gtr); rfl; rfl; (first | assumption | rfl))
             | ((with_reducible apply ops_leq); rfl; rfl; (first | assumption | rfl))
             | ((with_reducible apply ops_geq); rfl; rfl; (first | assumption | rfl))
             | ((with_reducible apply ops_eql); rfl; rfl; (first | assumption | rfl))
             | ((with_reducible apply ops_neq); rfl; rfl; (first | assumption | rfl))
             | ((with_reducible apply ops_min2); rfl; (first | assumption | rfl))
             | ((with_reducible apply ops_max2); rfl; (first | assumption | rfl))
             | ((with_reducible apply ops_iaddrN); rfl; rfl; omega; rfl)
             | ((with_reducible apply ops_iaddr); rfl; rfl; omega; omega; rfl; rfl)
             | ((with_reducible apply ops_load); rfl; exact rowAt_of (by first | assumption) (Nat.zero_le _) (Nat.zero_le _); rfl; rfl)
             | ((with_reducible apply arr_loadN); rfl; (first | assumption); assumption; assumption; (first | assumption | (apply ints_get; omega) | (apply nats_get; omega)); rfl)
             | ((with_reducible apply arr_storeN); rfl; rfl; (first | assumption); assumption; assumption; (first | assumption | (apply ints_get; omega) | (apply nats_get; omega)); rfl; rfl; rfl; rfl; rfl)
             | ((with_reducible apply ops_struct); rfl; rfl; (first | assumption); rfl; rfl; rfl; rfl; rfl; exact Nat.le_of_ble_eq_true rfl; rfl)
             | ((with_reducible apply ops_bslice1); rfl; rfl; rfl)
             | ((with_reducible apply ops_push); rfl; rfl; (first | assumption); (first | assumption); assumption; assumption; assumption; assumption; omega; rfl)
             | ((with_reducible apply ops_cutN); rfl; rfl; omega)
             | exact ops_of rfl
           · (first | rw [allW_same] | rw [allW_set] | rw [allW_push]) <;> (repeat (first | with_reducible exact free_nil | ((with_reducible apply free_mask); rfl) | ((with_reducible apply free_ne); first | rfl | (simp [clash, meets, *]; done))))
           · first | exact note_same | exact note_read | exact note_set | exact note_push
           · dsimp only [putV, List.set]; try rfl
           · rfl
           · rfl)
        | ((with_reducible apply draws_skip)
           · rfl
           · dsimp only [putV, List.set]; try rfl)
        | with_reducible exact regs_nil
        | with_reducible exact draws_nil)
    · exact .inl rfl
    · rfl
  · obtain ⟨cL, rL, jL, eL, hL', sL, oL, lL⟩ := hl
    subst eL
    rw [← nats_len L]
    apply Exists.intro
    apply calls_keep (by rfl) (by rfl) (by simp only [List.length_cons, List.length_nil, List.replicate, List.cons_append, List.nil_append]; try rfl)
    · repeat (first
        | with_reducible apply gg_seq
        | with_reducible apply cont_norm
        | with_reducible exact cont_ret
        | with_reducible exact cont_exit
        | with_reducible apply go_reg
        | with_reducible apply go_draw
        | with_reducible exact go_ret
        | with_reducible exact go_skip
        | with_reducible exact go_exit
        | ((with_reducible apply go_true); rfl)
        | ((with_reducible apply go_false); rfl)
        | ((with_reducible apply regs_go)
           · rfl
           · first
             | ((with_reducible apply ops_add); rfl; rfl; (first | assumption | rfl); omega; omega)
             | ((with_reducible apply ops_sub); rfl; rfl; (first | assumption | rfl); omega; omega)
             | ((with_reducible apply ops_mul); rfl; rfl; (first | assumption | rfl); omega; omega)
             | ((with_reducible apply ops_quo); rfl; rfl; decide; (first | assumption | rfl); omega; omega)
             | ((with_reducible apply ops_rem); rfl; rfl; omega; (first | assumption | rfl))
             | ((with_reducible apply ops_lss); rfl; rfl; (first | assumption | rfl))
             | ((with_reducible apply ops_gtr); rfl; rfl; (first | assumption | rfl))
             | ((with_reducible apply ops_leq); rfl; rfl; (first | assumption | rfl))
             | ((with_reducible apply ops_geq); rfl; rfl; (first | assumption | rfl))
             | ((with_reducible apply ops_eql); rfl; rfl; (first | assumption | rfl))
             | ((with_reducible apply ops_neq); rfl; rfl; (first | assumption | rfl))
             | ((with_reducible apply ops_min2); rfl; (first | assumption | rfl))
             | ((with_reducible apply ops_max2); rfl; (first | assumption | rfl))
             | ((with_reducible apply ops_iaddrN); rfl; rfl; omega; rfl)
             | ((with_reducible apply ops_iaddr); rfl; rfl; omega; omega; rfl; rfl)
             | ((with_reducible apply ops_load); rfl; exact rowAt_of (by first | assumption) (Nat.zero_le _) (Nat.zero_le _); rfl; rfl)
             | ((with_reducible apply arr_loadN); rfl; (first | assumption); assumption; assumption; (first | assumption | (apply ints_get; omega) | (apply nats_get; omega)); rfl)
             | ((with_reducible apply arr_storeN); rfl; rfl; (first | assumption); assumption; assumption; (first | assumption | (apply ints_get; omega) | (apply nats_get; omega)); rfl; rfl; rfl; rfl; rfl)
             | ((with_reducible apply ops_struct); rfl; rfl; (first | assumption); rfl; rfl; rfl; rfl; rfl; exact Nat.le_of_ble_eq_true rfl; rfl)
             | ((with_reducible apply ops_bslice1); rfl; rfl; rfl)
             | ((with_reducible apply ops_push); rfl; rfl; (first | assumption); (first | assumption); assumption; assumption; assumption; assumption; omega; rfl)
             | ((with_reducible apply ops_cutN); rfl; rfl; omega)
             | exact ops_of rfl
           · dsimp only [putV, List.set]; try rfl
           · rfl
           · rfl)
        | ((with_reducible apply regs_skip)
           · rfl
           · dsimp only [putV, List.set]; try rfl)
        | ((with_reducible apply draws_go)
           · rfl
           · first
             | ((with_reducible apply ops_add); rfl; rfl; (first | assumption | rfl); omega; omega)
             | ((with_reducible apply ops_sub); rfl; rfl; (first | assumption | rfl); omega; omega)
             | ((with_reducible apply ops_mul); rfl; rfl; (first | assumption | rfl); omega; omega)
             | ((with_reducible apply ops_quo); rfl; rfl; decide; (first | assumption | rfl); omega; omega)
             | ((with_reducible apply ops_rem); rfl; rfl; omega; (first | assumption | rfl))
             | ((with_reducible apply ops_lss); rfl; rfl; (first | assumption | rfl))
             | ((with_reducible apply ops_gtr); rfl; rfl; (first | assumption | rfl))
             | ((with_reducible apply ops_leq); rfl; rfl; (first | assumption | rfl))
             | ((with_reducible apply ops_geq); rfl; rfl; (first | assumption | rfl))
             | ((with_reducible apply ops_eql); rfl; rfl; (first | assumption | rfl))
             | ((with_reducible apply ops_neq); rfl; rfl; (first | assumption | rfl))
             | ((with_reducible apply ops_min2); rfl; (first | assumption | rfl))
             | ((with_reducible apply ops_max2); rfl; (first | assumption | rfl))
             | ((with_reducible apply ops_iaddrN); rfl; rfl; omega; rfl)
             | ((with_reducible apply ops_iaddr); rfl; rfl; omega; omega; rfl; rfl)
             | ((with_reducible apply ops_load); rfl; exact rowAt_of (by first | assumption) (Nat.zero_le _) (Nat.zero_le _); rfl; rfl)
             | ((with_reducible apply arr_loadN); rfl; (first | assumption); assumption; assumption; (first | assumption | (apply ints_get; omega) | (apply nats_get; omega)); rfl)
             | ((with_reducible apply arr_storeN); rfl; rfl; (first | assumption); assumption; assumption; (first | assumption | (apply ints_get; omega) | (apply nats_get; omega)); rfl; rfl; rfl; rfl; rfl)
             | ((with_reducible apply ops_struct); rfl; rfl; (first | assumption); rfl; rfl; rfl; rfl; rfl; exact Nat.le_of_ble_eq_true rfl; rfl)
             | ((with_reducible apply ops_bslice1); rfl; rfl; rfl)
             | ((with_reducible apply ops_push); rfl; rfl; (first | assumption); (first | assumption); assumption; assumption; assumption; assumption; omega; rfl)
             | ((with_reducible apply ops_cutN); rfl; rfl; omega)
             | exact ops_of rfl
           · (first | rw [allW_same] | rw [allW_set] | rw [allW_push]) <;> (repeat (first | with_reducible exact free_nil | ((with_reducible apply free_mask); rfl) | ((with_reducible apply free_ne); first | rfl | (simp [clash, meets, *]; done))))
           · first | exact note_same | exact note_read | exact note_set | exact note_push
           · dsimp only [putV, List.set]; try rfl
           · rfl
           · rfl)
        | ((with_reducible apply draws_skip)
           · rfl
           · dsimp only [putV, List.set]; try rfl)
        | with_reducible exact regs_nil
        | with_reducible exact draws_nil)
    · exact .inl rfl
    · rfl
/-- Has -/
theorem has_yes {h : H} {b bL bP bA : Nat} {L : List Nat} {P A : List Int} (hH : HeapAt h b bL bP bA L P A) {u : Nat} (h0 : 0 < u) (h1 : u < P.length) {c : Bool} (hc : (!decide (gI P u = -1)) = c) : ∃ r, Calls' EH 12 [.ptr b 0 0 0, .int .i64 u] h ⟨.bool c, h, r, []⟩ := by
  have hH0 := hH
  obtain ⟨⟨lv, pv, av, hb, hl, hp, ha, hcl⟩, n1, n2, n3, n4, n5, n6⟩ := hH
  have hp0 := hp
  obtain ⟨cP, rP, jP, eP, hP', sP, oP, lP⟩ := hp
  subst eP
  have lI := ints_len P
  obtain ⟨_, hy⟩ := in_yes hH0 h0 h1
  apply Exists.intro
  apply calls_keep (by rfl) (by rfl) (by simp only [List.length_cons, List.length_nil, List.replicate, List.cons_append, List.nil_append]; try rfl)
  · repeat (first
      | with_reducible apply gg_seq
      | with_reducible apply cont_norm
      | with_reducible exact cont_ret
      | with_reducible exact cont_exit
      | with_reducible apply go_reg
      | with_reducible apply go_draw
      | with_reducible exact go_ret
      | with_reducible exact go_skip
      | with_reducible exact go_exit
      | ((with_reducible apply go_true); rfl)
      | ((with_reducible apply go_false); rfl)
      | ((with_reducible apply regs_go)
         · rfl
         · first
           | ((with_reducible apply ops_add); rfl; rfl; (first | assumption | rfl); omega; omega)
           | ((with_reducible apply ops_sub); rfl; rfl; (first | assumption | rfl); omega; omega)
           | ((with_reducible apply ops_mul); rfl; rfl; (first | assumption | rfl); omega; omega)
           | ((with_reducible apply ops_quo); rfl; rfl; decide; (first | assumption | rfl); omega; omega)
           | ((with_reducible apply ops_rem); rfl; rfl; omega; (first | assumption | rfl))
           | ((with_reducible apply ops_lss); rfl; rfl; (first | assumption | rfl))
           | ((with_reducible apply ops_gtr); rfl; rfl; (first | assumption | rfl))
           | ((with_reducible apply ops_leq); rfl; rfl; (first | assumption | rfl))
           | ((with_reducible apply ops_geq); rfl; rfl; (first | assumption | rfl))
           | ((with_reducible apply ops_eql); rfl; rfl; (first | assumption | rfl))
           | ((with_reducible apply ops_neq); rfl; rfl; (first | assumption | rfl))
           | ((with_reducible apply ops_min2); rfl; (first | assumption | rfl))
           | ((with_reducible apply ops_max2); rfl; (first | assumption | rfl))
           | ((with_reducible apply ops_iaddrN); rfl; rfl; omega; rfl)
           | ((with_reducible apply ops_iaddr); rfl; rfl; omega; omega; rfl; rfl)
           | ((with_reducible apply ops_load); rfl; exact rowAt_of (by first | assumption) (Nat.zero_le _) (Nat.zero_le _); rfl; rfl)
           | ((with_reducible apply arr_loadN); rfl; (first | assumption); assumption; assumption; (first | assumption | (apply ints_get; omega) | (apply nats_get; omega)); rfl)
           | ((with_reducible apply arr_storeN); rfl; rfl; (first | assumption); assumption; assumption; (first | assumption | (apply ints_get; omega) | (apply nats_get; omega)); rfl; rfl; rfl; rfl; rfl)
           | ((with_reducible apply ops_call); rfl; rfl; exact hy)
           | ((with_reducible apply ops_struct); rfl; rfl; (first | assumption); rfl; rfl; rfl; rfl; rfl; exact Nat.le_of_ble_eq_true rfl; rfl)
           | ((with_reducible apply ops_bslice1); rfl; rfl; rfl)
           | ((with_reducible apply ops_push); rfl; rfl; (first | assumption); (first | assumption); assumption; assumption; assumption; assumption; omega; rfl)
           | ((with_reducible apply ops_cutN); rfl; rfl; omega)
           | exact ops_of rfl
         · dsimp only [putV, List.set]; try rfl
         · rfl
         · rfl)
      | ((with_reducible apply regs_skip)
         · rfl
         · dsimp only [putV, List.set]; try rfl)
      | ((with_reducible apply draws_go)
         · rfl
         · first
           | ((with_reducible apply ops_add); rfl; rfl; (first | assumption | rfl); omega; omega)
           | ((with_reducible apply ops_sub); rfl; rfl; (first | assumption | rfl); omega; omega)
           | ((with_reducible apply ops_mul); rfl; rfl; (first | assumption | rfl); omega; omega)
           | ((with_reducible apply ops_quo); rfl; rfl; decide; (first | assumption | rfl); omega; omega)
           | ((with_reducible apply ops_rem); rfl; rfl; omega; (first | assumption | rfl))
           | ((with_reducible apply ops_lss); rfl; rfl; (first | assumption | rfl))
           | ((with_reducible apply ops_gtr); rfl; rfl; (first | assumption | rfl))
           | ((with_reducible apply ops_leq); rfl; rfl; (first | assumption | rfl))
           | ((with_reducible apply ops_geq); rfl; rfl; (first | assumption | rfl))
           | ((with_reducible apply ops_eql); rfl; rfl; (first | assumption | rfl))
           | ((with_reducible apply ops_neq); rfl; rfl; (first | assumption | rfl))
           | ((with_reducible apply ops_min2); rfl; (first | assumption | rfl))
           | ((with_reducible apply ops_max2); rfl; (first | assumption | rfl))
           | ((with_reducible apply ops_iaddrN); rfl; rfl; omega; rfl)
           | ((with_reducible apply ops_iaddr); rfl; rfl; omega; omega; rfl; rfl)
           | ((with_reducible apply ops_load); rfl; exact rowAt_of (by first | assumption) (Nat.zero_le _) (Nat.zero_le _); rfl; rfl)
           | ((with_reducible apply arr_loadN); rfl; (first | assumption); assumption; assumption; (first | assumption | (apply ints_get; omega) | (apply nats_get; omega)); rfl)
           | ((with_reducible apply arr_storeN); rfl; rfl; (first | assumption); assumption; assumption; (first | assumption | (apply ints_get; omega) | (apply nats_get; omega)); rfl; rfl; rfl; rfl; rfl)
           | ((with_reducible apply ops_call); rfl; rfl; exact hy)
           | ((with_reducible apply ops_struct); rfl; rfl; (first | assumption); rfl; rfl; rfl; rfl; rfl; exact Nat.le_of_ble_eq_true rfl; rfl)
           | ((with_reducible apply ops_bslice1); rfl; rfl; rfl)
           | ((with_reducible apply ops_push); rfl; rfl; (first | assumption); (first | assumption); assumption; assumption; assumption; assumption; omega; rfl)
           | ((with_reducible apply ops_cutN); rfl; rfl; omega)
           | exact ops_of rfl
         · (first | rw [allW_same] | rw [allW_set] | rw [allW_push]) <;> (repeat (first | with_reducible exact free_nil | ((with_reducible apply free_mask); rfl) | ((with_reducible apply free_ne); first | rfl | (simp [clash, meets, *]; done))))
         · first | exact note_same | exact note_read | exact note_set | exact note_push
         · dsimp only [putV, List.set]; try rfl
         · rfl
         · rfl)
      | ((with_reducible apply draws_skip)
         · rfl
         · dsimp only [putV, List.set]; try rfl)
      | with_reducible exact regs_nil
      | with_reducible exact draws_nil)
  · exact .inl rfl
  · rfl
theorem has_no {h : H} {b bL bP bA : Nat} {L : List Nat} {P A : List Int} (hH : HeapAt h b bL bP bA L P A) {v : Int} (h0 : ¬ (0 < v ∧ v < P.length)) : ∃ r, Calls' EH 12 [.ptr b 0 0 0, .int .i64 v] h ⟨.bool false, h, r, []⟩ := by
  have hH0 := hH
  obtain ⟨⟨lv, pv, av, hb, hl, hp, ha, hcl⟩, n1, n2, n3, n4, n5, n6⟩ := hH
  obtain ⟨_, hy⟩ := in_no hH0 h0
  apply Exists.intro
  apply calls_keep (by rfl) (by rfl) (by simp only [List.length_cons, List.length_nil, List.replicate, List.cons_append, List.nil_append]; try rfl)
  · repeat (first
      | with_reducible apply gg_seq
      | with_reducible apply cont_norm
      | with_reducible exact cont_ret
      | with_reducible exact cont_exit
      | with_reducible apply go_reg
      | with_reducible apply go_draw
      | with_reducible exact go_ret
      | with_reducible exact go_skip
      | with_reducible exact go_exit
      | ((with_reducible apply go_true); rfl)
      | ((with_reducible apply go_false); rfl)
      | ((with_reducible apply regs_go)
         · rfl
         · first
           | ((with_reducible apply ops_add); rfl; rfl; (first | assumption | rfl); omega; omega)
           | ((with_reducible apply ops_sub); rfl; rfl; (first | assumption | rfl); omega; omega)
           | ((with_reducible apply ops_mul); rfl; rfl; (first | assumption | rfl); omega; omega)
           | ((with_reducible apply ops_quo); rfl; rfl; decide; (first | assumption | rfl); omega; omega)
           | ((with_reducible apply ops_rem); rfl; rfl; omega; (first | assumption | rfl))
           | ((with_reducible apply ops_lss); rfl; rfl; (first | assumption | rfl))
           | ((with_reducible apply ops_gtr); rfl; rfl; (first | assumption | rfl))
           | ((with_reducible apply ops_leq); rfl; rfl; (first | assumption | rfl))
           | ((with_reducible apply ops_geq); rfl; rfl; (first | assumption | rfl))
           | ((with_reducible apply ops_eql); rfl; rfl; (first | assumption | rfl))
           | ((with_reducible apply ops_neq); rfl; rfl; (first | assumption | rfl))
           | ((with_reducible apply ops_min2); rfl; (first | assumption | rfl))
           | ((with_reducible apply ops_max2); rfl; (first | assumption | rfl))
           | ((with_reducible apply ops_iaddrN); rfl; rfl; omega; rfl)
           | ((with_reducible apply ops_iaddr); rfl; rfl; omega; omega; rfl; rfl)
           | ((with_reducible apply ops_load); rfl; exact rowAt_of (by first | assumption) (Nat.zero_le _) (Nat.zero_le _); rfl; rfl)
           | ((with_reducible apply arr_loadN); rfl; (first | assumption); assumption; assumption; (first | assumption | (apply ints_get; omega) | (apply nats_get; omega)); rfl)
           | ((with_reducible apply arr_storeN); rfl; rfl; (first | assumption); assumption; assumption; (first | assumption | (apply ints_get; omega) | (apply nats_get; omega)); rfl; rfl; rfl; rfl; rfl)
           | ((with_reducible apply ops_call); rfl; rfl; exact hy)
           | ((with_reducible apply ops_struct); rfl; rfl; (first | assumption); rfl; rfl; rfl; rfl; rfl; exact Nat.le_of_ble_eq_true rfl; rfl)
           | ((with_reducible apply ops_bslice1); rfl; rfl; rfl)
           | ((with_reducible apply ops_push); rfl; rfl; (first | assumption); (first | assumption); assumption; assumption; assumption; assumption; omega; rfl)
           | ((with_reducible apply ops_cutN); rfl; rfl; omega)
           | exact ops_of rfl
         · dsimp only [putV, List.set]; try rfl
         · rfl
         · rfl)
      | ((with_reducible apply regs_skip)
         · rfl
         · dsimp only [putV, List.set]; try rfl)
      | ((with_reducible apply draws_go)
         · rfl
         · first
           | ((with_reducible apply ops_add); rfl; rfl; (first | assumption | rfl); omega; omega)
           | ((with_reducible apply ops_sub); rfl; rfl; (first | assumption | rfl); omega; omega)
           | ((with_reducible apply ops_mul); rfl; rfl; (first | assumption | rfl); omega; omega)
           | ((with_reducible apply ops_quo); rfl; rfl; decide; (first | assumption | rfl); omega; omega)
           | ((with_reducible apply ops_rem); rfl; rfl; omega; (first | assumption | rfl))
           | ((with_reducible apply ops_lss); rfl; rfl; (first | assumption | rfl))
           | ((with_reducible apply ops_gtr); rfl; rfl; (first | assumption | rfl))
           | ((with_reducible apply ops_leq); rfl; rfl; (first | assumption | rfl))
           | ((with_reducible apply ops_geq); rfl; rfl; (first | assumption | rfl))
           | ((with_reducible apply ops_eql); rfl; rfl; (first | assumption | rfl))
           | ((with_reducible apply ops_neq); rfl; rfl; (first | assumption | rfl))
           | ((with_reducible apply ops_min2); rfl; (first | assumption | rfl))
           | ((with_reducible apply ops_max2); rfl; (first | assumption | rfl))
           | ((with_reducible apply ops_iaddrN); rfl; rfl; omega; rfl)
           | ((with_reducible apply ops_iaddr); rfl; rfl; omega; omega; rfl; rfl)
           | ((with_reducible apply ops_load); rfl; exact rowAt_of (by first | assumption) (Nat.zero_le _) (Nat.zero_le _); rfl; rfl)
           | ((with_reducible apply arr_loadN); rfl; (first | assumption); assumption; assumption; (first | assumption | (apply ints_get; omega) | (apply nats_get; omega)); rfl)
           | ((with_reducible apply arr_storeN); rfl; rfl; (first | assumption); assumption; assumption; (first | assumption | (apply ints_get; omega) | (apply nats_get; omega)); rfl; rfl; rfl; rfl; rfl)
           | ((with_reducible apply ops_call); rfl; rfl; exact hy)
           | ((with_reducible apply ops_struct); rfl; rfl; (first | assumption); rfl; rfl; rfl; rfl; rfl; exact Nat.le_of_ble_eq_true rfl; rfl)
           | ((with_reducible apply ops_bslice1); rfl; rfl; rfl)
           | ((with_reducible apply ops_push); rfl; rfl; (first | assumption); (first | assumption); assumption; assumption; assumption; assumption; omega; rfl)
           | ((with_reducible apply ops_cutN); rfl; rfl; omega)
           | exact ops_of rfl
         · (first | rw [allW_same] | rw [allW_set] | rw [allW_push]) <;> (repeat (first | with_reducible exact free_nil | ((with_reducible apply free_mask); rfl) | ((with_reducible apply free_ne); first | rfl | (simp [clash, meets, *]; done))))
         · first | exact note_same | exact note_read | exact note_set | exact note_push
         · dsimp only [putV, List.set]; try rfl
         · rfl
         · rfl)
      | ((with_reducible apply draws_skip)
         · rfl
         · dsimp only [putV, List.set]; try rfl)
      | with_reducible exact regs_nil
      | with_reducible exact draws_nil)
  · exact .inl rfl
  · rfl
/-- Activity -/
theorem act_yes {h : H} {b bL bP bA : Nat} {L : List Nat} {P A : List Int} (hH : HeapAt h b bL bP bA L P A) {u : Nat} (h0 : 0 < u) (h1 : u < P.length) (h2 : u < A.length) : ∃ r, Calls' EH 14 [.ptr b 0 0 0, .int .i64 u] h ⟨.int .i64 (gI A u), h, r, []⟩ := by
  have hH0 := hH
  obtain ⟨⟨lv, pv, av, hb, hl, hp, ha, hcl⟩, n1, n2, n3, n4, n5, n6⟩ := hH
  have ha0 := ha
  obtain ⟨cA, rA, jA, eA, hA', sA, oA, lA⟩ := ha
  subst eA
  have lJ := ints_len A
  obtain ⟨_, hy⟩ := in_yes hH0 h0 h1
  apply Exists.intro
  apply calls_keep (by rfl) (by rfl) (by simp only [List.length_cons, List.length_nil, List.replicate, List.cons_append, List.nil_append]; try rfl)
  · repeat (first
      | with_reducible apply gg_seq
      | with_reducible apply cont_norm
      | with_reducible exact cont_ret
      | with_reducible exact cont_exit
      | with_reducible apply go_reg
      | with_reducible apply go_draw
      | with_reducible exact go_ret
      | with_reducible exact go_skip
      | with_reducible exact go_exit
      | ((with_reducible apply go_true); rfl)
      | ((with_reducible apply go_false); rfl)
      | ((with_reducible apply regs_go)
         · rfl
         · first
           | ((with_reducible apply ops_add); rfl; rfl; (first | assumption | rfl); omega; omega)
           | ((with_reducible apply ops_sub); rfl; rfl; (first | assumption | rfl); omega; omega)
           | ((with_reducible apply ops_mul); rfl; rfl; (first | assumption | rfl); omega; omega)
           | ((with_reducible apply ops_quo); rfl; rfl; decide; (first | assumption | rfl); omega; omega)
           | ((with_reducible apply ops_rem); rfl; rfl; omega; (first | assumption | rfl))
           | ((with_reducible apply ops_lss); rfl; rfl; (first | assumption | rfl))
           | ((with_reducible apply ops_gtr); rfl; rfl; (first | assumption | rfl))
           | ((with_reducible apply ops_leq); rfl; rfl; (first | assumption | rfl))
           | ((with_reducible apply ops_geq); rfl; rfl; (first | assumption | rfl))
           | ((with_reducible apply ops_eql); rfl; rfl; (first | assumption | rfl))
           | ((with_reducible apply ops_neq); rfl; rfl; (first | assumption | rfl))
           | ((with_reducible apply ops_min2); rfl; (first | assumption | rfl))
           | ((with_reducible apply ops_max2); rfl; (first | assumption | rfl))
           | ((with_reducible apply ops_iaddrN); rfl; rfl; omega; rfl)
           | ((with_reducible apply ops_iaddr); rfl; rfl; omega; omega; rfl; rfl)
           | ((with_reducible apply ops_load); rfl; exact rowAt_of (by first | assumption) (Nat.zero_le _) (Nat.zero_le _); rfl; rfl)
           | ((with_reducible apply arr_loadN); rfl; (first | assumption); assumption; assumption; (first | assumption | (apply ints_get; omega) | (apply nats_get; omega)); rfl)
           | ((with_reducible apply arr_storeN); rfl; rfl; (first | assumption); assumption; assumption; (first | assumption | (apply ints_get; omega) | (apply nats_get; omega)); rfl; rfl; rfl; rfl; rfl)
           | ((with_reducible apply ops_call); rfl; rfl; exact hy)
           | ((with_reducible apply ops_struct); rfl; rfl; (first | assumption); rfl; rfl; rfl; rfl; rfl; exact Nat.le_of_ble_eq_true rfl; rfl)
           | ((with_reducible apply ops_bslice1); rfl; rfl; rfl)
           | ((with_reducible apply ops_push); rfl; rfl; (first | assumption); (first | assumption); assumption; assumption; assumption; assumption; omega; rfl)
           | ((with_reducible apply ops_cutN); rfl; rfl; omega)
           | exact ops_of rfl
         · dsimp only [putV, List.set]; try rfl
         · rfl
         · rfl)
      | ((with_reducible apply regs_skip)
         · rfl
         · dsimp only [putV, List.set]; try rfl)
      | ((with_reducible apply draws_go)
         · rfl
         · first
           | ((with_reducible apply ops_add); rfl; rfl; (first | assumption | rfl); omega; omega)
           | ((with_reducible apply ops_sub); rfl; rfl; (first | assumption | rfl); omega; omega)
           | ((with_reducible apply ops_mul); rfl; rfl; (first | assumption | rfl); omega; omega)
           | ((with_reducible apply ops_quo); rfl; rfl; decide; (first | assumption | rfl); omega; omega)
           | ((with_reducible apply ops_rem); rfl; rfl; omega; (first | assumption | rfl))
           | ((with_reducible apply ops_lss); rfl; rfl; (first | assumption | rfl))
           | ((with_reducible apply ops_gtr); rfl; rfl; (first | assumption | rfl))
           | ((with_reducible apply ops_leq); rfl; rfl; (first | assumption | rfl))
           | ((with_reducible apply ops_geq); rfl; rfl; (first | assumption | rfl))
           | ((with_reducible apply ops_eql); rfl; rfl; (first | assumption | rfl))
           | ((with_reducible apply ops_neq); rfl; rfl; (first | assumption | rfl))
           | ((with_reducible apply ops_min2); rfl; (first | assumption | rfl))
           | ((with_reducible apply ops_max2); rfl; (first | assumption | rfl))
           | ((with_reducible apply ops_iaddrN); rfl; rfl; omega; rfl)
           | ((with_reducible apply ops_iaddr); rfl; rfl; omega; omega; rfl; rfl)
           | ((with_reducible apply ops_load); rfl; exact rowAt_of (by first | assumption) (Nat.zero_le _) (Nat.zero_le _); rfl; rfl)
           | ((with_reducible apply arr_loadN); rfl; (first | assumption); assumption; assumption; (first | assumption | (apply ints_get; omega) | (apply nats_get; omega)); rfl)
           | ((with_reducible apply arr_storeN); rfl; rfl; (first | assumption); assumption; assumption; (first | assumption | (apply ints_get; omega) | (apply nats_get; omega)); rfl; rfl; rfl; rfl; rfl)
           | ((with_reducible apply ops_call); rfl; rfl; exact hy)
           | ((with_reducible apply ops_struct); rfl; rfl; (first | assumption); rfl; rfl; rfl; rfl; rfl; exact Nat.le_of_ble_eq_true rfl; rfl)
           | ((with_reducible apply ops_bslice1); rfl; rfl; rfl)
           | ((with_reducible apply ops_push); rfl; rfl; (first | assumption); (first | assumption); assumption; assumption; assumption; assumption; omega; rfl)
           | ((with_reducible apply ops_cutN); rfl; rfl; omega)
           | exact ops_of rfl
         · (first | rw [allW_same] | rw [allW_set] | rw [allW_push]) <;> (repeat (first | with_reducible exact free_nil | ((with_reducible apply free_mask); rfl) | ((with_reducible apply free_ne); first | rfl | (simp [clash, meets, *]; done))))
         · first | exact note_same | exact note_read | exact note_set | exact note_push
         · dsimp only [putV, List.set]; try rfl
         · rfl
         · rfl)
      | ((with_reducible apply draws_skip)
         · rfl
         · dsimp only [putV, List.set]; try rfl)
      | with_reducible exact regs_nil
      | with_reducible exact draws_nil)
  · exact .inl rfl
  · rfl
theorem act_no {h : H} {b bL bP bA : Nat} {L : List Nat} {P A : List Int} (hH : HeapAt h b bL bP bA L P A) {v : Int} (h0 : ¬ (0 < v ∧ v < P.length)) : ∃ r, Calls' EH 14 [.ptr b 0 0 0, .int .i64 v] h ⟨.int .i64 0, h, r, []⟩ := by
  have hH0 := hH
  obtain ⟨⟨lv, pv, av, hb, hl, hp, ha, hcl⟩, n1, n2, n3, n4, n5, n6⟩ := hH
  obtain ⟨_, hy⟩ := in_no hH0 h0
  apply Exists.intro
  apply calls_keep (by rfl) (by rfl) (by simp only [List.length_cons, List.length_nil, List.replicate, List.cons_append, List.nil_append]; try rfl)
  · repeat (first
      | with_reducible apply gg_seq
      | with_reducible apply cont_norm
      | with_reducible exact cont_ret
      | with_reducible exact cont_exit
      | with_reducible apply go_reg
      | with_reducible apply go_draw
      | with_reducible exact go_ret
      | with_reducible exact go_skip
      | with_reducible exact go_exit
      | ((with_reducible apply go_true); rfl)
      | ((with_reducible apply go_false); rfl)
      | ((with_reducible apply regs_go)
         · rfl
         · first
           | ((with_reducible apply ops_add); rfl; rfl; (first | assumption | rfl); omega; omega)
           | ((with_reducible apply ops_sub); rfl; rfl; (first | assumption | rfl); omega; omega)
           | ((with_reducible apply ops_mul); rfl; rfl; (first | assumption | rfl); omega; omega)
           | ((with_reducible apply ops_quo); rfl; rfl; decide; (first | assumption | rfl); omega; omega)
           | ((with_reducible apply ops_rem); rfl; rfl; omega; (first | assumption | rfl))
           | ((with_reducible apply ops_lss); rfl; rfl; (first | assumption | rfl))
           | ((with_reducible apply ops_gtr); rfl; rfl; (first | assumption | rfl))
           | ((with_reducible apply ops_leq); rfl; rfl; (first | assumption | rfl))
           | ((with_reducible apply ops_geq); rfl; rfl; (first | assumption | rfl))
           | ((with_reducible apply ops_eql); rfl; rfl; (first | assumption | rfl))
           | ((with_reducible apply ops_neq); rfl; rfl; (first | assumption | rfl))
           | ((with_reducible apply ops_min2); rfl; (first | assumption | rfl))
           | ((with_reducible apply ops_max2); rfl; (first | assumption | rfl))
           | ((with_reducible apply ops_iaddrN); rfl; rfl; omega; rfl)
           | ((with_reducible apply ops_iaddr); rfl; rfl; omega; omega; rfl; rfl)
           | ((with_reducible apply ops_load); rfl; exact rowAt_of (by first | assumption) (Nat.zero_le _) (Nat.zero_le _); rfl; rfl)
           | ((with_reducible apply arr_loadN); rfl; (first | assumption); assumption; assumption; (first | assumption | (apply ints_get; omega) | (apply nats_get; omega)); rfl)
           | ((with_reducible apply arr_storeN); rfl; rfl; (first | assumption); assumption; assumption; (first | assumption | (apply ints_get; omega) | (apply nats_get; omega)); rfl; rfl; rfl; rfl; rfl)
           | ((with_reducible apply ops_call); rfl; rfl; exact hy)
           | ((with_reducible apply ops_struct); rfl; rfl; (first | assumption); rfl; rfl; rfl; rfl; rfl; exact Nat.le_of_ble_eq_true rfl; rfl)
           | ((with_reducible apply ops_bslice1); rfl; rfl; rfl)
           | ((with_reducible apply ops_push); rfl; rfl; (first | assumption); (first | assumption); assumption; assumption; assumption; assumption; omega; rfl)
           | ((with_reducible apply ops_cutN); rfl; rfl; omega)
           | exact ops_of rfl
         · dsimp only [putV, List.set]; try rfl
         · rfl
         · rfl)
      | ((with_reducible apply regs_skip)
         · rfl
         · dsimp only [putV, List.set]; try rfl)
      | ((with_reducible apply draws_go)
         · rfl
         · first
           | ((with_reducible apply ops_add); rfl; rfl; (first | assumption | rfl); omega; omega)
           | ((with_reducible apply ops_sub); rfl; rfl; (first | assumption | rfl); omega; omega)
           | ((with_reducible apply ops_mul); rfl; rfl; (first | assumption | rfl); omega; omega)
           | ((with_reducible apply ops_quo); rfl; rfl; decide; (first | assumption | rfl); omega; omega)
           | ((with_reducible apply ops_rem); rfl; rfl; omega; (first | assumption | rfl))
           | ((with_reducible apply ops_lss); rfl; rfl; (first | assumption | rfl))
           | ((with_reducible apply ops_gtr); rfl; rfl; (first | assumption | rfl))
           | ((with_reducible apply ops_leq); rfl; rfl; (first | assumption | rfl))
           | ((with_reducible apply ops_geq); rfl; rfl; (first | assumption | rfl))
           | ((with_reducible apply ops_eql); rfl; rfl; (first | assumption | rfl))
           | ((with_reducible apply ops_neq); rfl; rfl; (first | assumption | rfl))
           | ((with_reducible apply ops_min2); rfl; (first | assumption | rfl))
           | ((with_reducible apply ops_max2); rfl; (first | assumption | rfl))
           | ((with_reducible apply ops_iaddrN); rfl; rfl; omega; rfl)
           | ((with_reducible apply ops_iaddr); rfl; rfl; omega; omega; rfl; rfl)
           | ((with_reducible apply ops_load); rfl; exact rowAt_of (by first | assumption) (Nat.zero_le _) (Nat.zero_le _); rfl; rfl)
           | ((with_reducible apply arr_loadN); rfl; (first | assumption); assumption; assumption; (first | assumption | (apply ints_get; omega) | (apply nats_get; omega)); rfl)
           | ((with_reducible apply arr_storeN); rfl; rfl; (first | assumption); assumption; assumption; (first | assumption | (apply ints_get; omega) | (apply nats_get; omega)); rfl; rfl; rfl; rfl; rfl)
           | ((with_reducible apply ops_call); rfl; rfl; exact hy)
           | ((with_reducible apply ops_struct); rfl; rfl; (first | assumption); rfl; rfl; rfl; rfl; rfl; exact Nat.le_of_ble_eq_true rfl; rfl)
           | ((with_reducible apply ops_bslice1); rfl; rfl; rfl)
           | ((with_reducible apply ops_push); rfl; rfl; (first | assumption); (first | assumption); assumption; assumption; assumption; assumption; omega; rfl)
           | ((with_reducible apply ops_cutN); rfl; rfl; omega)
           | exact ops_of rfl
         · (first | rw [allW_same] | rw [allW_set] | rw [allW_push]) <;> (repeat (first | with_reducible exact free_nil | ((with_reducible apply free_mask); rfl) | ((with_reducible apply free_ne); first | rfl | (simp [clash, meets, *]; done))))
         · first | exact note_same | exact note_read | exact note_set | exact note_push
         · dsimp only [putV, List.set]; try rfl
         · rfl
         · rfl)
      | ((with_reducible apply draws_skip)
         · rfl
         · dsimp only [putV, List.set]; try rfl)
      | with_reducible exact regs_nil
      | with_reducible exact draws_nil)
  · exact .inl rfl
  · rfl
/-- Bump -/
theorem bump_no {h : H} {b bL bP bA : Nat} {L : List Nat} {P A : List Int} (hH : HeapAt h b bL bP bA L P A) {v y : Int} (h0 : ¬ (0 < v ∧ v < P.length) ∨ y < 0) : ∃ r, Calls' EH 10 [.ptr b 0 0 0, .int .i64 v, .int .i64 y] h ⟨.bool false, h, r, []⟩ := by
  by_cases h1 : 0 < v ∧ v < P.length
  · obtain ⟨_, hy⟩ := in_run hH (v := v)
    rw [decide_eq_true h1] at hy
    have hc : decide (y < 0) = true := by
      rcases h0 with h0 | h0
      · exact absurd h1 h0
      · exact decide_eq_true h0
    apply Exists.intro
    apply calls_keep (by rfl) (by rfl) (by simp only [List.length_cons, List.length_nil, List.replicate, List.cons_append, List.nil_append]; try rfl)
    · repeat (first
        | with_reducible apply gg_seq
        | with_reducible apply cont_norm
        | with_reducible exact cont_ret
        | with_reducible exact cont_exit
        | with_reducible apply go_reg
        | with_reducible apply go_draw
        | with_reducible exact go_ret
        | with_reducible exact go_skip
        | with_reducible exact go_exit
        | ((with_reducible apply go_true); rfl)
        | ((with_reducible apply go_false); rfl)
        | ((with_reducible apply regs_go)
           · rfl
           · first
             | ((with_reducible apply ops_add); rfl; rfl; (first | assumption | rfl); omega; omega)
             | ((with_reducible apply ops_sub); rfl; rfl; (first | assumption | rfl); omega; omega)
             | ((with_reducible apply ops_mul); rfl; rfl; (first | assumption | rfl); omega; omega)
             | ((with_reducible apply ops_quo); rfl; rfl; decide; (first | assumption | rfl); omega; omega)
             | ((with_reducible apply ops_rem); rfl; rfl; omega; (first | assumption | rfl))
             | ((with_reducible apply ops_lss); rfl; rfl; (first | assumption | rfl))
             | ((with_reducible apply ops_gtr); rfl; rfl; (first | assumption | rfl))
             | ((with_reducible apply ops_leq); rfl; rfl; (first | assumption | rfl))
             | ((with_reducible apply ops_geq); rfl; rfl; (first | assumption | rfl))
             | ((with_reducible apply ops_eql); rfl; rfl; (first | assumption | rfl))
             | ((with_reducible apply ops_neq); rfl; rfl; (first | assumption | rfl))
             | ((with_reducible apply ops_min2); rfl; (first | assumption | rfl))
             | ((with_reducible apply ops_max2); rfl; (first | assumption | rfl))
             | ((with_reducible apply ops_iaddrN); rfl; rfl; omega; rfl)
             | ((with_reducible apply ops_iaddr); rfl; rfl; omega; omega; rfl; rfl)
             | ((with_reducible apply ops_load); rfl; exact rowAt_of (by first | assumption) (Nat.zero_le _) (Nat.zero_le _); rfl; rfl)
             | ((with_reducible apply arr_loadN); rfl; (first | assumption); assumption; assumption; (first | assumption | (apply ints_get; omega) | (apply nats_get; omega)); rfl)
             | ((with_reducible apply arr_storeN); rfl; rfl; (first | assumption); assumption; assumption; (first | assumption | (apply ints_get; omega) | (apply nats_get; omega)); rfl; rfl; rfl; rfl; rfl)
             | ((with_reducible apply ops_call); rfl; rfl; exact hy)
             | ((with_reducible apply ops_struct); rfl; rfl; (first | assumption); rfl; rfl; rfl; rfl; rfl; exact Nat.le_of_ble_eq_true rfl; rfl)
             | ((with_reducible apply ops_bslice1); rfl; rfl; rfl)
             | ((with_reducible apply ops_push); rfl; rfl; (first | assumption); (first | assumption); assumption; assumption; assumption; assumption; omega; rfl)
             | ((with_reducible apply ops_cutN); rfl; rfl; omega)
             | exact ops_of rfl
           · dsimp only [putV, List.set]; try rfl
           · rfl
           · rfl)
        | ((with_reducible apply regs_skip)
           · rfl
           · dsimp only [putV, List.set]; try rfl)
        | ((with_reducible apply draws_go)
           · rfl
           · first
             | ((with_reducible apply ops_add); rfl; rfl; (first | assumption | rfl); omega; omega)
             | ((with_reducible apply ops_sub); rfl; rfl; (first | assumption | rfl); omega; omega)
             | ((with_reducible apply ops_mul); rfl; rfl; (first | assumption | rfl); omega; omega)
             | ((with_reducible apply ops_quo); rfl; rfl; decide; (first | assumption | rfl); omega; omega)
             | ((with_reducible apply ops_rem); rfl; rfl; omega; (first | assumption | rfl))
             | ((with_reducible apply ops_lss); rfl; rfl; (first | assumption | rfl))
             | ((with_reducible apply ops_gtr); rfl; rfl; (first | assumption | rfl))
             | ((with_reducible apply ops_leq); rfl; rfl; (first | assumption | rfl))
             | ((with_reducible apply ops_geq); rfl; rfl; (first | assumption | rfl))
             | ((with_reducible apply ops_eql); rfl; rfl; (first | assumption | rfl))
             | ((with_reducible apply ops_neq); rfl; rfl; (first | assumption | rfl))
             | ((with_reducible apply ops_min2); rfl; (first | assumption | rfl))
             | ((with_reducible apply ops_max2); rfl; (first | assumption | rfl))
             | ((with_reducible apply ops_iaddrN); rfl; rfl; omega; rfl)
             | ((with_reducible apply ops_iaddr); rfl; rfl; omega; omega; rfl; rfl)
             | ((with_reducible apply ops_load); rfl; exact rowAt_of (by first | assumption) (Nat.zero_le _) (Nat.zero_le _); rfl; rfl)
             | ((with_reducible apply arr_loadN); rfl; (first | assumption); assumption; assumption; (first | assumption | (apply ints_get; omega) | (apply nats_get; omega)); rfl)
             | ((with_reducible apply arr_storeN); rfl; rfl; (first | assumption); assumption; assumption; (first | assumption | (apply ints_get; omega) | (apply nats_get; omega)); rfl; rfl; rfl; rfl; rfl)
             | ((with_reducible apply ops_call); rfl; rfl; exact hy)
             | ((with_reducible apply ops_struct); rfl; rfl; (first | assumption); rfl; rfl; rfl; rfl; rfl; exact Nat.le_of_ble_eq_true rfl; rfl)
             | ((with_reducible apply ops_bslice1); rfl; rfl; rfl)
             | ((with_reducible apply ops_push); rfl; rfl; (first | assumption); (first | assumption); assumption; assumption; assumption; assumption; omega; rfl)
             | ((with_reducible apply ops_cutN); rfl; rfl; omega)
             | exact ops_of rfl
           · (first | rw [allW_same] | rw [allW_set] | rw [allW_push]) <;> (repeat (first | with_reducible exact free_nil | ((with_reducible apply free_mask); rfl) | ((with_reducible apply free_ne); first | rfl | (simp [clash, meets, *]; done))))
           · first | exact note_same | exact note_read | exact note_set | exact note_push
           · dsimp only [putV, List.set]; try rfl
           · rfl
           · rfl)
        | ((with_reducible apply draws_skip)
           · rfl
           · dsimp only [putV, List.set]; try rfl)
        | with_reducible exact regs_nil
        | with_reducible exact draws_nil)
    · exact .inl rfl
    · rfl
  · obtain ⟨_, hy⟩ := in_no hH h1
    apply Exists.intro
    apply calls_keep (by rfl) (by rfl) (by simp only [List.length_cons, List.length_nil, List.replicate, List.cons_append, List.nil_append]; try rfl)
    · repeat (first
        | with_reducible apply gg_seq
        | with_reducible apply cont_norm
        | with_reducible exact cont_ret
        | with_reducible exact cont_exit
        | with_reducible apply go_reg
        | with_reducible apply go_draw
        | with_reducible exact go_ret
        | with_reducible exact go_skip
        | with_reducible exact go_exit
        | ((with_reducible apply go_true); rfl)
        | ((with_reducible apply go_false); rfl)
        | ((with_reducible apply regs_go)
           · rfl
           · first
             | ((with_reducible apply ops_add); rfl; rfl; (first | assumption | rfl); omega; omega)
             | ((with_reducible apply ops_sub); rfl; rfl; (first | assumption | rfl); omega; omega)
             | ((with_reducible apply ops_mul); rfl; rfl; (first | assumption | rfl); omega; omega)
             | ((with_reducible apply ops_quo); rfl; rfl; decide; (first | assumption | rfl); omega; omega)
             | ((with_reducible apply ops_rem); rfl; rfl; omega; (first | assumption | rfl))
             | ((with_reducible apply ops_lss); rfl; rfl; (first | assumption | rfl))
             | ((with_reducible apply ops_gtr); rfl; rfl; (first | assumption | rfl))
             | ((with_reducible apply ops_leq); rfl; rfl; (first | assumption | rfl))
             | ((with_reducible apply ops_geq); rfl; rfl; (first | assumption | rfl))
             | ((with_reducible apply ops_eql); rfl; rfl; (first | assumption | rfl))
             | ((with_reducible apply ops_neq); rfl; rfl; (first | assumption | rfl))
             | ((with_reducible apply ops_min2); rfl; (first | assumption | rfl))
             | ((with_reducible apply ops_max2); rfl; (first | assumption | rfl))
             | ((with_reducible apply ops_iaddrN); rfl; rfl; omega; rfl)
             | ((with_reducible apply ops_iaddr); rfl; rfl; omega; omega; rfl; rfl)
             | ((with_reducible apply ops_load); rfl; exact rowAt_of (by first | assumption) (Nat.zero_le _) (Nat.zero_le _); rfl; rfl)
             | ((with_reducible apply arr_loadN); rfl; (first | assumption); assumption; assumption; (first | assumption | (apply ints_get; omega) | (apply nats_get; omega)); rfl)
             | ((with_reducible apply arr_storeN); rfl; rfl; (first | assumption); assumption; assumption; (first | assumption | (apply ints_get; omega) | (apply nats_get; omega)); rfl; rfl; rfl; rfl; rfl)
             | ((with_reducible apply ops_call); rfl; rfl; exact hy)
             | ((with_reducible apply ops_struct); rfl; rfl; (first | assumption); rfl; rfl; rfl; rfl; rfl; exact Nat.le_of_ble_eq_true rfl; rfl)
             | ((with_reducible apply ops_bslice1); rfl; rfl; rfl)
             | ((with_reducible apply ops_push); rfl; rfl; (first | assumption); (first | assumption); assumption; assumption; assumption; assumption; omega; rfl)
             | ((with_reducible apply ops_cutN); rfl; rfl; omega)
             | exact ops_of rfl
           · dsimp only [putV, List.set]; try rfl
           · rfl
           · rfl)
        | ((with_reducible apply regs_skip)
           · rfl
           · dsimp only [putV, List.set]; try rfl)
        | ((with_reducible apply draws_go)
           · rfl
           · first
             | ((with_reducible apply ops_add); rfl; rfl; (first | assumption | rfl); omega; omega)
             | ((with_reducible apply ops_sub); rfl; rfl; (first | assumption | rfl); omega; omega)
             | ((with_reducible apply ops_mul); rfl; rfl; (first | assumption | rfl); omega; omega)
             | ((with_reducible apply ops_quo); rfl; rfl; decide; (first | assumption | rfl); omega; omega)
             | ((with_reducible apply ops_rem); rfl; rfl; omega; (first | assumption | rfl))
             | ((with_reducible apply ops_lss); rfl; rfl; (first | assumption | rfl))
             | ((with_reducible apply ops_gtr); rfl; rfl; (first | assumption | rfl))
             | ((with_reducible apply ops_leq); rfl; rfl; (first | assumption | rfl))
             | ((with_reducible apply ops_geq); rfl; rfl; (first | assumption | rfl))
             | ((with_reducible apply ops_eql); rfl; rfl; (first | assumption | rfl))
             | ((with_reducible apply ops_neq); rfl; rfl; (first | assumption | rfl))
             | ((with_reducible apply ops_min2); rfl; (first | assumption | rfl))
             | ((with_reducible apply ops_max2); rfl; (first | assumption | rfl))
             | ((with_reducible apply ops_iaddrN); rfl; rfl; omega; rfl)
             | ((with_reducible apply ops_iaddr); rfl; rfl; omega; omega; rfl; rfl)
             | ((with_reducible apply ops_load); rfl; exact rowAt_of (by first | assumption) (Nat.zero_le _) (Nat.zero_le _); rfl; rfl)
             | ((with_reducible apply arr_loadN); rfl; (first | assumption); assumption; assumption; (first | assumption | (apply ints_get; omega) | (apply nats_get; omega)); rfl)
             | ((with_reducible apply arr_storeN); rfl; rfl; (first | assumption); assumption; assumption; (first | assumption | (apply ints_get; omega) | (apply nats_get; omega)); rfl; rfl; rfl; rfl; rfl)
             | ((with_reducible apply ops_call); rfl; rfl; exact hy)
             | ((with_reducible apply ops_struct); rfl; rfl; (first | assumption); rfl; rfl; rfl; rfl; rfl; exact Nat.le_of_ble_eq_true rfl; rfl)
             | ((with_reducible apply ops_bslice1); rfl; rfl; rfl)
             | ((with_reducible apply ops_push); rfl; rfl; (first | assumption); (first | assumption); assumption; assumption; assumption; assumption; omega; rfl)
             | ((with_reducible apply ops_cutN); rfl; rfl; omega)
             | exact ops_of rfl
           · (first | rw [allW_same] | rw [allW_set] | rw [allW_push]) <;> (repeat (first | with_reducible exact free_nil | ((with_reducible apply free_mask); rfl) | ((with_reducible apply free_ne); first | rfl | (simp [clash, meets, *]; done))))
           · first | exact note_same | exact note_read | exact note_set | exact note_push
           · dsimp only [putV, List.set]; try rfl
           · rfl
           · rfl)
        | ((with_reducible apply draws_skip)
           · rfl
           · dsimp only [putV, List.set]; try rfl)
        | with_reducible exact regs_nil
        | with_reducible exact draws_nil)
    · exact .inl rfl
    · rfl
theorem bump_yes {h : H} {b bL bP bA : Nat} {L : List Nat} {P A : List Int} (hH : HeapAt h b bL bP bA L P A) {u : Nat} {y d a : Int} (h0 : 0 < u) (h1 : u < P.length) (hPA : P.length = A.length) (hy0 : 0 ≤ y) (hA0 : 0 ≤ gI A u) (hA1 : gI A u ≤ 1152921504606846976) (hd : (if 1152921504606846976 - gI A u < y then 1152921504606846976 - gI A u else y) = d) (ha' : gI A u + d = a) (hL : L.length ≤ 1000000) (hx : ∀ x, x < L.length → gN L x < A.length)
    {Q : H → Prop} (hout : gI P u = -1 → ∀ h', HeapAt h' b bL bP bA L P (A.set u a) → Keeps h h' [bL, bP, bA] → Q h')
    (hin : ∀ i : Nat, gI P u = i → i < L.length ∧ gN L i = u ∧ ∀ h', HeapAt h' b bL bP bA (upL (gI (A.set u a)) i L P u i).1 (upL (gI (A.set u a)) i L P u i).2 (A.set u a) → Keeps h h' [bL, bP, bA] → Q h') (hP : gI P u = -1 ∨ ∃ i : Nat, gI P u = i) :
    Does EH 10 [.ptr b 0 0 0, .int .i64 u, .int .i64 y] h (.bool true) Q := by
  have hH0 := hH
  obtain ⟨⟨lv, pv, av, hb, hl, hp, ha, hcl⟩, n1, n2, n3, n4, n5, n6⟩ := hH
  have hp0 := hp
  obtain ⟨cP, rP, jP, eP, hP', sP, oP, lP⟩ := hp
  subst eP
  have lI := ints_len P
  have ha0 := ha
  obtain ⟨cA, rA, jA, eA, hA', sA, oA, lA⟩ := ha
  subst eA
  have lJ := ints_len A
  obtain ⟨_, hy⟩ := in_yes hH0 h0 h1
  have hc : decide (y < 0) = false := decide_eq_false (by omega)
  have hd0 : 0 ≤ d ∧ d ≤ 1152921504606846976 - gI A u := by rw [← hd]; split <;> omega
  have hb1 : ∀ o, (h.set bA o)[b]? = some (.row ⟨3, [[lv, .os bP rP.cur 1 0 (ints P).length cP, .os bA rA.cur 1 0 (ints A).length cA]], 0, 0⟩) := fun o => by rw [set_ne (Ne.symm n3)]; exact hb
  have hP1 : ∀ o, (h.set bA o)[bP]? = some (.row rP) := fun o => by rw [set_ne (Ne.symm n6)]; exact hP'
  have hH1 : HeapAt (h.set bA (.row ⟨rA.sz, (ints A).set u [V.int .i64 a] ++ jA, rA.cur, rA.cur⟩)) b bL bP bA L P (A.set u a) := by
    rw [ints_set]
    refine ⟨⟨lv, .os bP rP.cur 1 0 (ints P).length cP, .os bA rA.cur 1 0 (ints A).length cA, hb1 _, ?_, hp0.frame (Keeps.set (bs := [bA]) (by simp)) (by simp [n6]), Arr.of_set (c := cA) (els := ints A) rfl hA' sA (by simp [ints_len]), hcl⟩, n1, n2, n3, n4, n5, n6⟩
    rcases hl with hl | hl
    · exact .inl hl
    · exact .inr (hl.frame (Keeps.set (bs := [bA]) (by simp)) (by simp [n5]))
  have hk1 : Keeps h (h.set bA (.row ⟨rA.sz, (ints A).set u [V.int .i64 a] ++ jA, rA.cur, rA.cur⟩)) [bL, bP, bA] := Keeps.set (by simp)
  have hyr : ∃ r, Calls' EH 24 [.ptr b 0 0 0, .int .i64 u] h ⟨.bool true, h, r, []⟩ := ⟨_, hy⟩
  rcases hP with hP | ⟨i, hP⟩
  · have hc2 : (!decide (gI P u = -1)) = false := by simp [hP]
    apply does_keep (by rfl) (by rfl) (by simp only [List.length_cons, List.length_nil, List.replicate, List.cons_append, List.nil_append]; try rfl)
    repeat (first
      | with_reducible apply q_seq
      | with_reducible apply q_reg
      | with_reducible apply q_draw
      | with_reducible apply q_ret
      | with_reducible apply q_skip
      | with_reducible apply q_exit
      | with_reducible apply q_block
      | with_reducible apply k_norm
      | with_reducible apply k_ret
      | with_reducible apply k_exit
      | with_reducible apply b_norm
      | with_reducible apply b_ret
      | with_reducible apply b_leave
      | ((with_reducible apply b_exit); decide)
      | with_reducible apply g_nil
      | with_reducible apply d_nil
      | ((with_reducible apply q_true); rfl)
      | ((with_reducible apply q_false); rfl)
      | ((with_reducible apply g_skip)
         · rfl
         · dsimp only [putV, List.set]; try rfl)
      | ((with_reducible apply d_skip)
         · rfl
         · dsimp only [putV, List.set]; try rfl)
      | ((with_reducible apply g_read)
         · rfl
         · rfl
         · rfl
         · exact hyr
         · dsimp only [putV, List.set]; try rfl
         intro _)
      | ((with_reducible apply d_read)
         · rfl
         · rfl
         · rfl
         · exact hyr
         · rfl
         · dsimp only [putV, List.set]; try rfl
         intro _ _)
      | ((with_reducible apply g_go)
         · rfl
         · first
           | ((with_reducible apply ops_add); rfl; rfl; (first | assumption | rfl); omega; omega)
           | ((with_reducible apply ops_sub); rfl; rfl; (first | assumption | rfl); omega; omega)
           | ((with_reducible apply ops_mul); rfl; rfl; (first | assumption | rfl); omega; omega)
           | ((with_reducible apply ops_quo); rfl; rfl; decide; (first | assumption | rfl); omega; omega)
           | ((with_reducible apply ops_rem); rfl; rfl; omega; (first | assumption | rfl))
           | ((with_reducible apply ops_lss); rfl; rfl; (first | assumption | rfl))
           | ((with_reducible apply ops_gtr); rfl; rfl; (first | assumption | rfl))
           | ((with_reducible apply ops_leq); rfl; rfl; (first | assumption | rfl))
           | ((with_reducible apply ops_geq); rfl; rfl; (first | assumption | rfl))
           | ((with_reducible apply ops_eql); rfl; rfl; (first | assumption | rfl))
           | ((with_reducible apply ops_neq); rfl; rfl; (first | assumption | rfl))
           | ((with_reducible apply ops_min2); rfl; (first | assumption | rfl))
           | ((with_reducible apply ops_max2); rfl; (first | assumption | rfl))
           | ((with_reducible apply ops_iaddrN); rfl; rfl; omega; rfl)
           | ((with_reducible apply ops_iaddr); rfl; rfl; omega; omega; rfl; rfl)
           | ((with_reducible apply ops_load); rfl; exact rowAt_of (by first | assumption | exact hb1 _ | exact hP1 _) (Nat.zero_le _) (Nat.zero_le _); rfl; rfl)
           | ((with_reducible apply arr_loadN); rfl; (first | assumption | exact hb1 _ | exact hP1 _); assumption; assumption; (first | assumption | (apply ints_get; omega) | (apply nats_get; omega)); rfl)
           | ((with_reducible apply arr_storeN); rfl; rfl; (first | assumption | exact hb1 _ | exact hP1 _); assumption; assumption; (first | assumption | (apply ints_get; omega) | (apply nats_get; omega)); rfl; rfl; rfl; rfl; rfl)
           | ((with_reducible apply ops_struct); rfl; rfl; (first | assumption | exact hb1 _ | exact hP1 _); rfl; rfl; rfl; rfl; rfl; exact Nat.le_of_ble_eq_true rfl; rfl)
           | ((with_reducible apply ops_bslice1); rfl; rfl; rfl)
           | ((with_reducible apply ops_push); rfl; rfl; (first | assumption | exact hb1 _ | exact hP1 _); (first | assumption | exact hb1 _ | exact hP1 _); assumption; assumption; assumption; assumption; omega; rfl)
           | ((with_reducible apply ops_cutN); rfl; rfl; omega)
           | exact ops_of rfl
         · dsimp only [putV, List.set]; try rfl)
      | ((with_reducible apply d_go)
         · rfl
         · first
           | ((with_reducible apply ops_add); rfl; rfl; (first | assumption | rfl); omega; omega)
           | ((with_reducible apply ops_sub); rfl; rfl; (first | assumption | rfl); omega; omega)
           | ((with_reducible apply ops_mul); rfl; rfl; (first | assumption | rfl); omega; omega)
           | ((with_reducible apply ops_quo); rfl; rfl; decide; (first | assumption | rfl); omega; omega)
           | ((with_reducible apply ops_rem); rfl; rfl; omega; (first | assumption | rfl))
           | ((with_reducible apply ops_lss); rfl; rfl; (first | assumption | rfl))
           | ((with_reducible apply ops_gtr); rfl; rfl; (first | assumption | rfl))
           | ((with_reducible apply ops_leq); rfl; rfl; (first | assumption | rfl))
           | ((with_reducible apply ops_geq); rfl; rfl; (first | assumption | rfl))
           | ((with_reducible apply ops_eql); rfl; rfl; (first | assumption | rfl))
           | ((with_reducible apply ops_neq); rfl; rfl; (first | assumption | rfl))
           | ((with_reducible apply ops_min2); rfl; (first | assumption | rfl))
           | ((with_reducible apply ops_max2); rfl; (first | assumption | rfl))
           | ((with_reducible apply ops_iaddrN); rfl; rfl; omega; rfl)
           | ((with_reducible apply ops_iaddr); rfl; rfl; omega; omega; rfl; rfl)
           | ((with_reducible apply ops_load); rfl; exact rowAt_of (by first | assumption | exact hb1 _ | exact hP1 _) (Nat.zero_le _) (Nat.zero_le _); rfl; rfl)
           | ((with_reducible apply arr_loadN); rfl; (first | assumption | exact hb1 _ | exact hP1 _); assumption; assumption; (first | assumption | (apply ints_get; omega) | (apply nats_get; omega)); rfl)
           | ((with_reducible apply arr_storeN); rfl; rfl; (first | assumption | exact hb1 _ | exact hP1 _); assumption; assumption; (first | assumption | (apply ints_get; omega) | (apply nats_get; omega)); rfl; rfl; rfl; rfl; rfl)
           | ((with_reducible apply ops_struct); rfl; rfl; (first | assumption | exact hb1 _ | exact hP1 _); rfl; rfl; rfl; rfl; rfl; exact Nat.le_of_ble_eq_true rfl; rfl)
           | ((with_reducible apply ops_bslice1); rfl; rfl; rfl)
           | ((with_reducible apply ops_push); rfl; rfl; (first | assumption | exact hb1 _ | exact hP1 _); (first | assumption | exact hb1 _ | exact hP1 _); assumption; assumption; assumption; assumption; omega; rfl)
           | ((with_reducible apply ops_cutN); rfl; rfl; omega)
           | exact ops_of rfl
         · (first | with_reducible exact free_empty | rw [allW_same] | rw [allW_set] | rw [allW_push]) <;> (repeat (first | with_reducible exact free_nil | with_reducible exact free_empty | ((with_reducible apply free_mask); rfl) | ((with_reducible apply free_ne); first | rfl | (simp [clash, meets, *]; done))))
         · first | exact note_same | exact note_read | exact note_set | exact note_push
         · dsimp only [putV, List.set]; try rfl))
    exact ⟨.inl rfl, _, _, rfl, rfl, hout hP _ hH1 hk1⟩
  · have hc2 : (!decide ((i : Int) = -1)) = true := by simp <;> omega
    have hpi : (ints P)[u]? = some [V.int .i64 (i : Int)] := by rw [ints_get h1, hP]
    obtain ⟨q1, q2, q3⟩ := hin i hP
    have hyu := up_run (k := i) hH1 q1 (Nat.le_refl _) hL (by simp [hPA]) (by simpa using hx)
    rw [q2] at hyu
    apply does_keep (by rfl) (by rfl) (by simp only [List.length_cons, List.length_nil, List.replicate, List.cons_append, List.nil_append]; try rfl)
    repeat (first
      | with_reducible apply q_seq
      | with_reducible apply q_reg
      | with_reducible apply q_draw
      | with_reducible apply q_ret
      | with_reducible apply q_skip
      | with_reducible apply q_exit
      | with_reducible apply q_block
      | with_reducible apply k_norm
      | with_reducible apply k_ret
      | with_reducible apply k_exit
      | with_reducible apply b_norm
      | with_reducible apply b_ret
      | with_reducible apply b_leave
      | ((with_reducible apply b_exit); decide)
      | with_reducible apply g_nil
      | with_reducible apply d_nil
      | ((with_reducible apply q_true); rfl)
      | ((with_reducible apply q_false); rfl)
      | ((with_reducible apply g_skip)
         · rfl
         · dsimp only [putV, List.set]; try rfl)
      | ((with_reducible apply d_skip)
         · rfl
         · dsimp only [putV, List.set]; try rfl)
      | ((with_reducible apply g_read)
         · rfl
         · rfl
         · rfl
         · exact hyr
         · dsimp only [putV, List.set]; try rfl
         intro _)
      | ((with_reducible apply d_read)
         · rfl
         · rfl
         · rfl
         · exact hyr
         · rfl
         · dsimp only [putV, List.set]; try rfl
         intro _ _)
      | ((with_reducible apply g_call)
         · rfl
         · rfl
         · rfl
         · exact hyu
         · dsimp only [putV, List.set]; try rfl)
      | ((with_reducible apply g_go)
         · rfl
         · first
           | ((with_reducible apply ops_add); rfl; rfl; (first | assumption | rfl); omega; omega)
           | ((with_reducible apply ops_sub); rfl; rfl; (first | assumption | rfl); omega; omega)
           | ((with_reducible apply ops_mul); rfl; rfl; (first | assumption | rfl); omega; omega)
           | ((with_reducible apply ops_quo); rfl; rfl; decide; (first | assumption | rfl); omega; omega)
           | ((with_reducible apply ops_rem); rfl; rfl; omega; (first | assumption | rfl))
           | ((with_reducible apply ops_lss); rfl; rfl; (first | assumption | rfl))
           | ((with_reducible apply ops_gtr); rfl; rfl; (first | assumption | rfl))
           | ((with_reducible apply ops_leq); rfl; rfl; (first | assumption | rfl))
           | ((with_reducible apply ops_geq); rfl; rfl; (first | assumption | rfl))
           | ((with_reducible apply ops_eql); rfl; rfl; (first | assumption | rfl))
           | ((with_reducible apply ops_neq); rfl; rfl; (first | assumption | rfl))
           | ((with_reducible apply ops_min2); rfl; (first | assumption | rfl))
           | ((with_reducible apply ops_max2); rfl; (first | assumption | rfl))
           | ((with_reducible apply ops_iaddrN); rfl; rfl; omega; rfl)
           | ((with_reducible apply ops_iaddr); rfl; rfl; omega; omega; rfl; rfl)
           | ((with_reducible apply ops_load); rfl; exact rowAt_of (by first | assumption | exact hb1 _ | exact hP1 _) (Nat.zero_le _) (Nat.zero_le _); rfl; rfl)
           | ((with_reducible apply arr_loadN); rfl; (first | assumption | exact hb1 _ | exact hP1 _); assumption; assumption; (first | assumption | (apply ints_get; omega) | (apply nats_get; omega)); rfl)
           | ((with_reducible apply arr_storeN); rfl; rfl; (first | assumption | exact hb1 _ | exact hP1 _); assumption; assumption; (first | assumption | (apply ints_get; omega) | (apply nats_get; omega)); rfl; rfl; rfl; rfl; rfl)
           | ((with_reducible apply ops_struct); rfl; rfl; (first | assumption | exact hb1 _ | exact hP1 _); rfl; rfl; rfl; rfl; rfl; exact Nat.le_of_ble_eq_true rfl; rfl)
           | ((with_reducible apply ops_bslice1); rfl; rfl; rfl)
           | ((with_reducible apply ops_push); rfl; rfl; (first | assumption | exact hb1 _ | exact hP1 _); (first | assumption | exact hb1 _ | exact hP1 _); assumption; assumption; assumption; assumption; omega; rfl)
           | ((with_reducible apply ops_cutN); rfl; rfl; omega)
           | exact ops_of rfl
         · dsimp only [putV, List.set]; try rfl)
      | ((with_reducible apply d_go)
         · rfl
         · first
           | ((with_reducible apply ops_add); rfl; rfl; (first | assumption | rfl); omega; omega)
           | ((with_reducible apply ops_sub); rfl; rfl; (first | assumption | rfl); omega; omega)
           | ((with_reducible apply ops_mul); rfl; rfl; (first | assumption | rfl); omega; omega)
           | ((with_reducible apply ops_quo); rfl; rfl; decide; (first | assumption | rfl); omega; omega)
           | ((with_reducible apply ops_rem); rfl; rfl; omega; (first | assumption | rfl))
           | ((with_reducible apply ops_lss); rfl; rfl; (first | assumption | rfl))
           | ((with_reducible apply ops_gtr); rfl; rfl; (first | assumption | rfl))
           | ((with_reducible apply ops_leq); rfl; rfl; (first | assumption | rfl))
           | ((with_reducible apply ops_geq); rfl; rfl; (first | assumption | rfl))
           | ((with_reducible apply ops_eql); rfl; rfl; (first | assumption | rfl))
           | ((with_reducible apply ops_neq); rfl; rfl; (first | assumption | rfl))
           | ((with_reducible apply ops_min2); rfl; (first | assumption | rfl))
           | ((with_reducible apply ops_max2); rfl; (first | assumption | rfl))
           | ((with_reducible apply ops_iaddrN); rfl; rfl; omega; rfl)
           | ((with_reducible apply ops_iaddr); rfl; rfl; omega; omega; rfl; rfl)
           | ((with_reducible apply ops_load); rfl; exact rowAt_of (by first | assumption | exact hb1 _ | exact hP1 _) (Nat.zero_le _) (Nat.zero_le _); rfl; rfl)
           | ((with_reducible apply arr_loadN); rfl; (first | assumption | exact hb1 _ | exact hP1 _); assumption; assumption; (first | assumption | (apply ints_get; omega) | (apply nats_get; omega)); rfl)
           | ((with_reducible apply arr_storeN); rfl; rfl; (first | assumption | exact hb1 _ | exact hP1 _); assumption; assumption; (first | assumption | (apply ints_get; omega) | (apply nats_get; omega)); rfl; rfl; rfl; rfl; rfl)
           | ((with_reducible apply ops_struct); rfl; rfl; (first | assumption | exact hb1 _ | exact hP1 _); rfl; rfl; rfl; rfl; rfl; exact Nat.le_of_ble_eq_true rfl; rfl)
           | ((with_reducible apply ops_bslice1); rfl; rfl; rfl)
           | ((with_reducible apply ops_push); rfl; rfl; (first | assumption | exact hb1 _ | exact hP1 _); (first | assumption | exact hb1 _ | exact hP1 _); assumption; assumption; assumption; assumption; omega; rfl)
           | ((with_reducible apply ops_cutN); rfl; rfl; omega)
           | exact ops_of rfl
         · (first | with_reducible exact free_empty | rw [allW_same] | rw [allW_set] | rw [allW_push]) <;> (repeat (first | with_reducible exact free_nil | with_reducible exact free_empty | ((with_reducible apply free_mask); rfl) | ((with_reducible apply free_ne); first | rfl | (simp [clash, meets, *]; done))))
         · first | exact note_same | exact note_read | exact note_set | exact note_push
         · dsimp only [putV, List.set]; try rfl))
    intro r2 w2 h2 hD
    obtain ⟨d1, d2⟩ := hD
    repeat (first
      | with_reducible apply q_seq
      | with_reducible apply q_reg
      | with_reducible apply q_draw
      | with_reducible apply q_ret
      | with_reducible apply q_skip
      | with_reducible apply q_exit
      | with_reducible apply q_block
      | with_reducible apply k_norm
      | with_reducible apply k_ret
      | with_reducible apply k_exit
      | with_reducible apply b_norm
      | with_reducible apply b_ret
      | with_reducible apply b_leave
      | ((with_reducible apply b_exit); decide)
      | with_reducible apply g_nil
      | with_reducible apply d_nil
      | ((with_reducible apply q_true); rfl)
      | ((with_reducible apply q_false); rfl)
      | ((with_reducible apply g_skip)
         · rfl
         · dsimp only [putV, List.set]; try rfl)
      | ((with_reducible apply d_skip)
         · rfl
         · dsimp only [putV, List.set]; try rfl)
      | ((with_reducible apply g_go)
         · rfl
         · first
           | ((with_reducible apply ops_add); rfl; rfl; (first | assumption | rfl); omega; omega)
           | ((with_reducible apply ops_sub); rfl; rfl; (first | assumption | rfl); omega; omega)
           | ((with_reducible apply ops_mul); rfl; rfl; (first | assumption | rfl); omega; omega)
           | ((with_reducible apply ops_quo); rfl; rfl; decide; (first | assumption | rfl); omega; omega)
           | ((with_reducible apply ops_rem); rfl; rfl; omega; (first | assumption | rfl))
           | ((with_reducible apply ops_lss); rfl; rfl; (first | assumption | rfl))
           | ((with_reducible apply ops_gtr); rfl; rfl; (first | assumption | rfl))
           | ((with_reducible apply ops_leq); rfl; rfl; (first | assumption | rfl))
           | ((with_reducible apply ops_geq); rfl; rfl; (first | assumption | rfl))
           | ((with_reducible apply ops_eql); rfl; rfl; (first | assumption | rfl))
           | ((with_reducible apply ops_neq); rfl; rfl; (first | assumption | rfl))
           | ((with_reducible apply ops_min2); rfl; (first | assumption | rfl))
           | ((with_reducible apply ops_max2); rfl; (first | assumption | rfl))
           | ((with_reducible apply ops_iaddrN); rfl; rfl; omega; rfl)
           | ((with_reducible apply ops_iaddr); rfl; rfl; omega; omega; rfl; rfl)
           | ((with_reducible apply ops_load); rfl; exact rowAt_of (by first | assumption) (Nat.zero_le _) (Nat.zero_le _); rfl; rfl)
           | ((with_reducible apply arr_loadN); rfl; (first | assumption); assumption; assumption; (first | assumption | (apply ints_get; omega) | (apply nats_get; omega)); rfl)
           | ((with_reducible apply arr_storeN); rfl; rfl; (first | assumption); assumption; assumption; (first | assumption | (apply ints_get; omega) | (apply nats_get; omega)); rfl; rfl; rfl; rfl; rfl)
           | ((with_reducible apply ops_struct); rfl; rfl; (first | assumption); rfl; rfl; rfl; rfl; rfl; exact Nat.le_of_ble_eq_true rfl; rfl)
           | ((with_reducible apply ops_bslice1); rfl; rfl; rfl)
           | ((with_reducible apply ops_push); rfl; rfl; (first | assumption); (first | assumption); assumption; assumption; assumption; assumption; omega; rfl)
           | ((with_reducible apply ops_cutN); rfl; rfl; omega)
           | exact ops_of rfl
         · dsimp only [putV, List.set]; try rfl)
      | ((with_reducible apply d_go)
         · rfl
         · first
           | ((with_reducible apply ops_add); rfl; rfl; (first | assumption | rfl); omega; omega)
           | ((with_reducible apply ops_sub); rfl; rfl; (first | assumption | rfl); omega; omega)
           | ((with_reducible apply ops_mul); rfl; rfl; (first | assumption | rfl); omega; omega)
           | ((with_reducible apply ops_quo); rfl; rfl; decide; (first | assumption | rfl); omega; omega)
           | ((with_reducible apply ops_rem); rfl; rfl; omega; (first | assumption | rfl))
           | ((with_reducible apply ops_lss); rfl; rfl; (first | assumption | rfl))
           | ((with_reducible apply ops_gtr); rfl; rfl; (first | assumption | rfl))
           | ((with_reducible apply ops_leq); rfl; rfl; (first | assumption | rfl))
           | ((with_reducible apply ops_geq); rfl; rfl; (first | assumption | rfl))
           | ((with_reducible apply ops_eql); rfl; rfl; (first | assumption | rfl))
           | ((with_reducible apply ops_neq); rfl; rfl; (first | assumption | rfl))
           | ((with_reducible apply ops_min2); rfl; (first | assumption | rfl))
           | ((with_reducible apply ops_max2); rfl; (first | assumption | rfl))
           | ((with_reducible apply ops_iaddrN); rfl; rfl; omega; rfl)
           | ((with_reducible apply ops_iaddr); rfl; rfl; omega; omega; rfl; rfl)
           | ((with_reducible apply ops_load); rfl; exact rowAt_of (by first | assumption) (Nat.zero_le _) (Nat.zero_le _); rfl; rfl)
           | ((with_reducible apply arr_loadN); rfl; (first | assumption); assumption; assumption; (first | assumption | (apply ints_get; omega) | (apply nats_get; omega)); rfl)
           | ((with_reducible apply arr_storeN); rfl; rfl; (first | assumption); assumption; assumption; (first | assumption | (apply ints_get; omega) | (apply nats_get; omega)); rfl; rfl; rfl; rfl; rfl)
           | ((with_reducible apply ops_struct); rfl; rfl; (first | assumption); rfl; rfl; rfl; rfl; rfl; exact Nat.le_of_ble_eq_true rfl; rfl)
           | ((with_reducible apply ops_bslice1); rfl; rfl; rfl)
           | ((with_reducible apply ops_push); rfl; rfl; (first | assumption); (first | assumption); assumption; assumption; assumption; assumption; omega; rfl)
           | ((with_reducible apply ops_cutN); rfl; rfl; omega)
           | exact ops_of rfl
         · (first | with_reducible exact free_empty | rw [allW_same] | rw [allW_set] | rw [allW_push]) <;> (repeat (first | with_reducible exact free_nil | with_reducible exact free_empty | ((with_reducible apply free_mask); rfl) | ((with_reducible apply free_ne); first | rfl | (simp [clash, meets, *]; done))))
         · first | exact note_same | exact note_read | exact note_set | exact note_push
         · dsimp only [putV, List.set]; try rfl))
    exact ⟨.inl rfl, _, _, rfl, rfl, q3 _ d1 (hk1.trans (d2.mono (by simp)))⟩
end Go.Proofs.Ytmmipfmdkoaekaa.Code
