/- A part of the proof: HeapRun6. No condition. -/
import Derived.Test.YtmmipfmdkoaekaaHeapRun5
set_option linter.all false
set_option maxRecDepth 100000
namespace Go.Proofs.Ytmmipfmdkoaekaa.Code
open Go.Mini Go.HeapMath Go.HeapRun
set_option linter.all false
set_option maxHeartbeats 4000000
/-- Put -/
theorem put_no {h : H} {b bL bP bA : Nat} {L : List Nat} {P A : List Int} (hH : HeapAt h b bL bP bA L P A) {v : Int} (h0 : ¬ (0 < v ∧ v < P.length) ∨ ∃ u : Nat, v = u ∧ 0 < u ∧ u < P.length ∧ gI P u ≠ -1) : ∃ r, Calls' EH 15 [.ptr b 0 0 0, .int .i64 v] h ⟨.bool false, h, r, []⟩ := by
  have hH0 := hH
  obtain ⟨⟨lv, pv, av, hb, hl, hp, ha, hcl⟩, n1, n2, n3, n4, n5, n6⟩ := hH
  have hp0 := hp
  obtain ⟨cP, rP, jP, eP, hP', sP, oP, lP⟩ := hp
  subst eP
  have lI := ints_len P
  rcases h0 with h0 | ⟨u, rfl, u0, u1, hu⟩
  · obtain ⟨_, hy⟩ := in_no hH0 h0
    apply Exists.intro
    apply calls_keep (by rfl) (by rfl) (by simp only [List.length_cons, List.length_nil, List.replicate, List.cons_append, List.nil_append]; try rfl)
    · repeat (first
      | with_reducible apply gg_seq
      | with_reducible apply cont_norm
      | with_reducible exact cont_ret
      | with_reducible exact cont_exit
      | with_reducible apply go_reg
      | with_reducible apply go_draw
      | with_reducible exact go_ret
      | with_reducible exact go_skip
      | with_reducible exact go_exit
      | ((with_reducible apply go_true); rfl)
      | ((with_reducible apply go_false); rfl)
      | ((with_reducible apply regs_go)
         · rfl
         · first
           | ((with_reducible apply ops_add); rfl; rfl; (first | assumption | rfl); omega; omega)
           | ((with_reducible apply ops_sub); rfl; rfl; (first | assumption | rfl); omega; omega)
           | ((with_reducible apply ops_mul); rfl; rfl; (first | assumption | rfl); omega; omega)
           | ((with_reducible apply ops_quo); rfl; rfl; decide; (first | assumption | rfl); omega; omega)
           | ((with_reducible apply ops_rem); rfl; rfl; omega; (first | assumption | rfl))
           | ((with_reducible apply ops_lss); rfl; rfl; (first | assumption | rfl))
           | ((with_reducible apply ops_gtr); rfl; rfl; (first | assumption | rfl))
           | ((with_reducible apply ops_leq); rfl; rfl; (first | assumption | rfl))
           | ((with_reducible apply ops_geq); rfl; rfl; (first | assumption | rfl))
           | ((with_reducible apply ops_eql); rfl; rfl; (first | assumption | rfl))
           | ((with_reducible apply ops_neq); rfl; rfl; (first | assumption | rfl))
           | ((with_reducible apply ops_min2); rfl; (first | assumption | rfl))
           | ((with_reducible apply ops_max2); rfl; (first | assumption | rfl))
           | ((with_reducible apply ops_iaddrN); rfl; rfl; omega; rfl)
           | ((with_reducible apply ops_iaddr); rfl; rfl; omega; omega; rfl; rfl)
           | ((with_reducible apply ops_load); rfl; exact rowAt_of (by first | assumption) (Nat.zero_le _) (Nat.zero_le _); rfl; rfl)
           | ((with_reducible apply arr_loadN); rfl; (first | assumption); assumption; assumption; (first | assumption | (apply ints_get; omega) | (apply nats_get; omega)); rfl)
           | ((with_reducible apply arr_storeN); rfl; rfl; (first | assumption); assumption; assumption; (first | assumption | (apply ints_get; omega) | (apply nats_get; omega)); rfl; rfl; rfl; rfl; rfl)
           | ((with_reducible apply ops_call); rfl; rfl; exact hy)
           | ((with_reducible apply ops_struct); rfl; rfl; (first | assumption); rfl; rfl; rfl; rfl; rfl; exact Nat.le_of_ble_eq_true rfl; rfl)
           | ((with_reducible apply ops_bslice1); rfl; rfl; rfl)
           | ((with_reducible apply ops_push); rfl; rfl; (first | assumption); (first | assumption); assumption; assumption; assumption; (first | rfl | assumption); omega; rfl)
           | ((with_reducible apply ops_cutN); rfl; rfl; omega)
           | exact ops_of rfl
         · dsimp only [putV, List.set]; try rfl
         · rfl
         · rfl)
      | ((with_reducible apply regs_skip)
         · rfl
         · dsimp only [putV, List.set]; try rfl)
      | ((with_reducible apply draws_go)
         · rfl
         · first
           | ((with_reducible apply ops_add); rfl; rfl; (first | assumption | rfl); omega; omega)
           | ((with_reducible apply ops_sub); rfl; rfl; (first | assumption | rfl); omega; omega)
           | ((with_reducible apply ops_mul); rfl; rfl; (first | assumption | rfl); omega; omega)
           | ((with_reducible apply ops_quo); rfl; rfl; decide; (first | assumption | rfl); omega; omega)
           | ((with_reducible apply ops_rem); rfl; rfl; omega; (first | assumption | rfl))
           | ((with_reducible apply ops_lss); rfl; rfl; (first | assumption | rfl))
           | ((with_reducible apply ops_gtr); rfl; rfl; (first | assumption | rfl))
           | ((with_reducible apply ops_leq); rfl; rfl; (first | assumption | rfl))
           | ((with_reducible apply ops_geq); rfl; rfl; (first | assumption | rfl))
           | ((with_reducible apply ops_eql); rfl; rfl; (first | assumption | rfl))
           | ((with_reducible apply ops_neq); rfl; rfl; (first | assumption | rfl))
           | ((with_reducible apply ops_min2); rfl; (first | assumption | rfl))
           | ((with_reducible apply ops_max2); rfl; (first | assumption | rfl))
           | ((with_reducible apply ops_iaddrN); rfl; rfl; omega; rfl)
           | ((with_reducible apply ops_iaddr); rfl; rfl; omega; omega; rfl; rfl)
           | ((with_reducible apply ops_load); rfl; exact rowAt_of (by first | assumption) (Nat.zero_le _) (Nat.zero_le _); rfl; rfl)
           | ((with_reducible apply arr_loadN); rfl; (first | assumption); assumption; assumption; (first | assumption | (apply ints_get; omega) | (apply nats_get; omega)); rfl)
           | ((with_reducible apply arr_storeN); rfl; rfl; (first | assumption); assumption; assumption; (first | assumption | (apply ints_get; omega) | (apply nats_get; omega)); rfl; rfl; rfl; rfl; rfl)
           | ((with_reducible apply ops_call); rfl; rfl; exact hy)
           | ((with_reducible apply ops_struct); rfl; rfl; (first | assumption); rfl; rfl; rfl; rfl; rfl; exact Nat.le_of_ble_eq_true rfl; rfl)
           | ((with_reducible apply ops_bslice1); rfl; rfl; rfl)
           | ((with_reducible apply ops_push); rfl; rfl; (first | assumption); (first | assumption); assumption; assumption; assumption; (first | rfl | assumption); omega; rfl)
           | ((with_reducible apply ops_cutN); rfl; rfl; omega)
           | exact ops_of rfl
         · (first | rw [allW_same] | rw [allW_set] | rw [allW_push]) <;> (repeat (first | with_reducible exact free_nil | ((with_reducible apply free_mask); rfl) | ((with_reducible apply free_ne); first | rfl | (simp [clash, meets, *]; done))))
         · first | exact note_same | exact note_read | exact note_set | exact note_push
         · dsimp only [putV, List.set]; try rfl
         · rfl
         · rfl)
      | ((with_reducible apply draws_skip)
         · rfl
         · dsimp only [putV, List.set]; try rfl)
      | with_reducible exact regs_nil
      | with_reducible exact draws_nil)
    · exact .inl rfl
    · rfl
  · obtain ⟨_, hy⟩ := in_yes hH0 u0 u1
    have hc : (!decide (gI P u = -1)) = true := by simp [hu]
    apply Exists.intro
    apply calls_keep (by rfl) (by rfl) (by simp only [List.length_cons, List.length_nil, List.replicate, List.cons_append, List.nil_append]; try rfl)
    · repeat (first
      | with_reducible apply gg_seq
      | with_reducible apply cont_norm
      | with_reducible exact cont_ret
      | with_reducible exact cont_exit
      | with_reducible apply go_reg
      | with_reducible apply go_draw
      | with_reducible exact go_ret
      | with_reducible exact go_skip
      | with_reducible exact go_exit
      | ((with_reducible apply go_true); rfl)
      | ((with_reducible apply go_false); rfl)
      | ((with_reducible apply regs_go)
         · rfl
         · first
           | ((with_reducible apply ops_add); rfl; rfl; (first | assumption | rfl); omega; omega)
           | ((with_reducible apply ops_sub); rfl; rfl; (first | assumption | rfl); omega; omega)
           | ((with_reducible apply ops_mul); rfl; rfl; (first | assumption | rfl); omega; omega)
           | ((with_reducible apply ops_quo); rfl; rfl; decide; (first | assumption | rfl); omega; omega)
           | ((with_reducible apply ops_rem); rfl; rfl; omega; (first | assumption | rfl))
           | ((with_reducible apply ops_lss); rfl; rfl; (first | assumption | rfl))
           | ((with_reducible apply ops_gtr); rfl; rfl; (first | assumption | rfl))
           | ((with_reducible apply ops_leq); rfl; rfl; (first | assumption | rfl))
           | ((with_reducible apply ops_geq); rfl; rfl; (first | assumption | rfl))
           | ((with_reducible apply ops_eql); rfl; rfl; (first | assumption | rfl))
           | ((with_reducible apply ops_neq); rfl; rfl; (first | assumption | rfl))
           | ((with_reducible apply ops_min2); rfl; (first | assumption | rfl))
           | ((with_reducible apply ops_max2); rfl; (first | assumption | rfl))
           | ((with_reducible apply ops_iaddrN); rfl; rfl; omega; rfl)
           | ((with_reducible apply ops_iaddr); rfl; rfl; omega; omega; rfl; rfl)
           | ((with_reducible apply ops_load); rfl; exact rowAt_of (by first | assumption) (Nat.zero_le _) (Nat.zero_le _); rfl; rfl)
           | ((with_reducible apply arr_loadN); rfl; (first | assumption); assumption; assumption; (first | assumption | (apply ints_get; omega) | (apply nats_get; omega)); rfl)
           | ((with_reducible apply arr_storeN); rfl; rfl; (first | assumption); assumption; assumption; (first | assumption | (apply ints_get; omega) | (apply nats_get; omega)); rfl; rfl; rfl; rfl; rfl)
           | ((with_reducible apply ops_call); rfl; rfl; exact hy)
           | ((with_reducible apply ops_struct); rfl; rfl; (first | assumption); rfl; rfl; rfl; rfl; rfl; exact Nat.le_of_ble_eq_true rfl; rfl)
           | ((with_reducible apply ops_bslice1); rfl; rfl; rfl)
           | ((with_reducible apply ops_push); rfl; rfl; (first | assumption); (first | assumption); assumption; assumption; assumption; (first | rfl | assumption); omega; rfl)
           | ((with_reducible apply ops_cutN); rfl; rfl; omega)
           | exact ops_of rfl
         · dsimp only [putV, List.set]; try rfl
         · rfl
         · rfl)
      | ((with_reducible apply regs_skip)
         · rfl
         · dsimp only [putV, List.set]; try rfl)
      | ((with_reducible apply draws_go)
         · rfl
         · first
           | ((with_reducible apply ops_add); rfl; rfl; (first | assumption | rfl); omega; omega)
           | ((with_reducible apply ops_sub); rfl; rfl; (first | assumption | rfl); omega; omega)
           | ((with_reducible apply ops_mul); rfl; rfl; (first | assumption | rfl); omega; omega)
           | ((with_reducible apply ops_quo); rfl; rfl; decide; (first | assumption | rfl); omega; omega)
           | ((with_reducible apply ops_rem); rfl; rfl; omega; (first | assumption | rfl))
           | ((with_reducible apply ops_lss); rfl; rfl; (first | assumption | rfl))
           | ((with_reducible apply ops_gtr); rfl; rfl; (first | assumption | rfl))
           | ((with_reducible apply ops_leq); rfl; rfl; (first | assumption | rfl))
           | ((with_reducible apply ops_geq); rfl; rfl; (first | assumption | rfl))
           | ((with_reducible apply ops_eql); rfl; rfl; (first | assumption | rfl))
           | ((with_reducible apply ops_neq); rfl; rfl; (first | assumption | rfl))
           | ((with_reducible apply ops_min2); rfl; (first | assumption | rfl))
           | ((with_reducible apply ops_max2); rfl; (first | assumption | rfl))
           | ((with_reducible apply ops_iaddrN); rfl; rfl; omega; rfl)
           | ((with_reducible apply ops_iaddr); rfl; rfl; omega; omega; rfl; rfl)
           | ((with_reducible apply ops_load); rfl; exact rowAt_of (by first | assumption) (Nat.zero_le _) (Nat.zero_le _); rfl; rfl)
           | ((with_reducible apply arr_loadN); rfl; (first | assumption); assumption; assumption; (first | assumption | (apply ints_get; omega) | (apply nats_get; omega)); rfl)
           | ((with_reducible apply arr_storeN); rfl; rfl; (first | assumption); assumption; assumption; (first | assumption | (apply ints_get; omega) | (apply nats_get; omega)); rfl; rfl; rfl; rfl; rfl)
           | ((with_reducible apply ops_call); rfl; rfl; exact hy)
           | ((with_reducible apply ops_struct); rfl; rfl; (first | assumption); rfl; rfl; rfl; rfl; rfl; exact Nat.le_of_ble_eq_true rfl; rfl)
           | ((with_reducible apply ops_bslice1); rfl; rfl; rfl)
           | ((with_reducible apply ops_push); rfl; rfl; (first | assumption); (first | assumption); assumption; assumption; assumption; (first | rfl | assumption); omega; rfl)
           | ((with_reducible apply ops_cutN); rfl; rfl; omega)
           | exact ops_of rfl
         · (first | rw [allW_same] | rw [allW_set] | rw [allW_push]) <;> (repeat (first | with_reducible exact free_nil | ((with_reducible apply free_mask); rfl) | ((with_reducible apply free_ne); first | rfl | (simp [clash, meets, *]; done))))
         · first | exact note_same | exact note_read | exact note_set | exact note_push
         · dsimp only [putV, List.set]; try rfl
         · rfl
         · rfl)
      | ((with_reducible apply draws_skip)
         · rfl
         · dsimp only [putV, List.set]; try rfl)
      | with_reducible exact regs_nil
      | with_reducible exact draws_nil)
    · exact .inl rfl
    · rfl
theorem put_yes {h : H} {b bL bP bA : Nat} {L : List Nat} {P A : List Int} (hH : HeapAt h b bL bP bA L P A) {u k : Nat} (u0 : 0 < u) (u1 : u < P.length) (hu : gI P u = -1) (hL : L.length < 1000000) (hPA : P.length = A.length) (hx : ∀ x, x < L.length → gN L x < A.length) (hk : L.length ≤ k)
    {Q : H → Prop} (hQ : ∀ h', HeapAt h' b bL bP bA (upL (gI A) k (L ++ [u]) P u L.length).1 (upL (gI A) k (L ++ [u]) P u L.length).2 A → Keeps h h' [b, bL, bP] → Q h') :
    Does EH 15 [.ptr b 0 0 0, .int .i64 u] h (.bool true) Q := by
  have hH0 := hH
  obtain ⟨⟨lv, pv, av, hb, hl, hp, ha, hcl⟩, n1, n2, n3, n4, n5, n6⟩ := hH
  have hp0 := hp
  obtain ⟨cP, rP, jP, eP, hP', sP, oP, lP⟩ := hp
  subst eP
  have lI := ints_len P
  rcases hl with ⟨_, _, hl⟩ | hl
  · omega
  have hl0 := hl
  obtain ⟨cL, rL, jL, eL, hL', sL, oL, lL⟩ := hl
  subst eL
  have hcl' : cL = false := hcl
  subst hcl'
  have lN := nats_len L
  have hyr := in_yes hH0 u0 u1
  have hc : (!decide (gI P u = -1)) = false := by simp [hu]
  have bl : b < h.length := (List.getElem?_eq_some_iff.1 hb).1
  have Ll : bL < h.length := (List.getElem?_eq_some_iff.1 hL').1
  have hT : ∀ o, (h ++ [o])[h.length]? = some o := fun o => by simp
  have hL1 : ∀ o, (h ++ [o])[bL]? = some (.row rL) := fun o => by rw [List.getElem?_append_left Ll]; exact hL'
  have hb2 : ∀ o o', ((h ++ [o]).set bL o')[b]? = some (.row ⟨3, [[V.os bL rL.cur 1 0 (nats L).length false, .os bP rP.cur 1 0 (ints P).length cP, av]], 0, 0⟩) := fun o o' => by
    rw [set_ne (Ne.symm n1), List.getElem?_append_left bl]; exact hb
  apply does_keep (by rfl) (by rfl) (by simp only [List.length_cons, List.length_nil, List.replicate, List.cons_append, List.nil_append]; try rfl)
  repeat (first
      | with_reducible apply q_seq
      | with_reducible apply q_reg
      | with_reducible apply q_draw
      | with_reducible apply q_ret
      | with_reducible apply q_skip
      | with_reducible apply q_exit
      | with_reducible apply q_block
      | with_reducible apply k_norm
      | with_reducible apply k_ret
      | with_reducible apply k_exit
      | with_reducible apply b_norm
      | with_reducible apply b_ret
      | with_reducible apply b_leave
      | ((with_reducible apply b_exit); decide)
      | with_reducible apply g_nil
      | with_reducible apply d_nil
      | ((with_reducible apply q_true); rfl)
      | ((with_reducible apply q_false); rfl)
      | ((with_reducible apply g_skip)
         · rfl
         · dsimp only [putV, List.set]; try rfl)
      | ((with_reducible apply d_skip)
         · rfl
         · dsimp only [putV, List.set]; try rfl)
      | ((with_reducible apply g_read)
         · rfl
         · rfl
         · rfl
         · exact hyr
         · dsimp only [putV, List.set]; try rfl
         intro _)
      | ((with_reducible apply d_read)
         · rfl
         · rfl
         · rfl
         · exact hyr
         · rfl
         · dsimp only [putV, List.set]; try rfl
         intro _ _)
      | ((with_reducible apply g_go)
         · rfl
         · first
           | ((with_reducible apply ops_add); rfl; rfl; (first | assumption | rfl); omega; omega)
           | ((with_reducible apply ops_sub); rfl; rfl; (first | assumption | rfl); omega; omega)
           | ((with_reducible apply ops_mul); rfl; rfl; (first | assumption | rfl); omega; omega)
           | ((with_reducible apply ops_quo); rfl; rfl; decide; (first | assumption | rfl); omega; omega)
           | ((with_reducible apply ops_rem); rfl; rfl; omega; (first | assumption | rfl))
           | ((with_reducible apply ops_lss); rfl; rfl; (first | assumption | rfl))
           | ((with_reducible apply ops_gtr); rfl; rfl; (first | assumption | rfl))
           | ((with_reducible apply ops_leq); rfl; rfl; (first | assumption | rfl))
           | ((with_reducible apply ops_geq); rfl; rfl; (first | assumption | rfl))
           | ((with_reducible apply ops_eql); rfl; rfl; (first | assumption | rfl))
           | ((with_reducible apply ops_neq); rfl; rfl; (first | assumption | rfl))
           | ((with_reducible apply ops_min2); rfl; (first | assumption | rfl))
           | ((with_reducible apply ops_max2); rfl; (first | assumption | rfl))
           | ((with_reducible apply ops_iaddrN); rfl; rfl; omega; rfl)
           | ((with_reducible apply ops_iaddr); rfl; rfl; omega; omega; rfl; rfl)
           | ((with_reducible apply ops_load); rfl; exact rowAt_of (by first | assumption | exact hT _ | exact hL1 _ | exact hb2 _ _) (Nat.zero_le _) (Nat.zero_le _); rfl; rfl)
           | ((with_reducible apply arr_loadN); rfl; (first | assumption | exact hT _ | exact hL1 _ | exact hb2 _ _); assumption; assumption; (first | assumption | (apply ints_get; omega) | (apply nats_get; omega)); rfl)
           | ((with_reducible apply arr_storeN); rfl; rfl; (first | assumption | exact hT _ | exact hL1 _ | exact hb2 _ _); assumption; assumption; (first | assumption | (apply ints_get; omega) | (apply nats_get; omega)); rfl; rfl; rfl; rfl; rfl)
           | ((with_reducible apply ops_struct); rfl; rfl; (first | assumption | exact hT _ | exact hL1 _ | exact hb2 _ _); rfl; rfl; rfl; rfl; rfl; exact Nat.le_of_ble_eq_true rfl; rfl)
           | ((with_reducible apply ops_bslice1); rfl; rfl; rfl)
           | ((with_reducible apply ops_push); rfl; rfl; (first | assumption | exact hT _ | exact hL1 _ | exact hb2 _ _); (first | assumption | exact hT _ | exact hL1 _ | exact hb2 _ _); assumption; assumption; assumption; (first | rfl | assumption); omega; rfl)
           | ((with_reducible apply ops_cutN); rfl; rfl; omega)
           | exact ops_of rfl
         · dsimp only [putV, List.set]; try rfl)
      | ((with_reducible apply d_go)
         · rfl
         · first
           | ((with_reducible apply ops_add); rfl; rfl; (first | assumption | rfl); omega; omega)
           | ((with_reducible apply ops_sub); rfl; rfl; (first | assumption | rfl); omega; omega)
           | ((with_reducible apply ops_mul); rfl; rfl; (first | assumption | rfl); omega; omega)
           | ((with_reducible apply ops_quo); rfl; rfl; decide; (first | assumption | rfl); omega; omega)
           | ((with_reducible apply ops_rem); rfl; rfl; omega; (first | assumption | rfl))
           | ((with_reducible apply ops_lss); rfl; rfl; (first | assumption | rfl))
           | ((with_reducible apply ops_gtr); rfl; rfl; (first | assumption | rfl))
           | ((with_reducible apply ops_leq); rfl; rfl; (first | assumption | rfl))
           | ((with_reducible apply ops_geq); rfl; rfl; (first | assumption | rfl))
           | ((with_reducible apply ops_eql); rfl; rfl; (first | assumption | rfl))
           | ((with_reducible apply ops_neq); rfl; rfl; (first | assumption | rfl))
           | ((with_reducible apply ops_min2); rfl; (first | assumption | rfl))
           | ((with_reducible apply ops_max2); rfl; (first | assumption | rfl))
           | ((with_reducible apply ops_iaddrN); rfl; rfl; omega; rfl)
           | ((with_reducible apply ops_iaddr); rfl; rfl; omega; omega; rfl; rfl)
           | ((with_reducible apply ops_load); rfl; exact rowAt_of (by first | assumption | exact hT _ | exact hL1 _ | exact hb2 _ _) (Nat.zero_le _) (Nat.zero_le _); rfl; rfl)
           | ((with_reducible apply arr_loadN); rfl; (first | assumption | exact hT _ | exact hL1 _ | exact hb2 _ _); assumption; assumption; (first | assumption | (apply ints_get; omega) | (apply nats_get; omega)); rfl)
           | ((with_reducible apply arr_storeN); rfl; rfl; (first | assumption | exact hT _ | exact hL1 _ | exact hb2 _ _); assumption; assumption; (first | assumption | (apply ints_get; omega) | (apply nats_get; omega)); rfl; rfl; rfl; rfl; rfl)
           | ((with_reducible apply ops_struct); rfl; rfl; (first | assumption | exact hT _ | exact hL1 _ | exact hb2 _ _); rfl; rfl; rfl; rfl; rfl; exact Nat.le_of_ble_eq_true rfl; rfl)
           | ((with_reducible apply ops_bslice1); rfl; rfl; rfl)
           | ((with_reducible apply ops_push); rfl; rfl; (first | assumption | exact hT _ | exact hL1 _ | exact hb2 _ _); (first | assumption | exact hT _ | exact hL1 _ | exact hb2 _ _); assumption; assumption; assumption; (first | rfl | assumption); omega; rfl)
           | ((with_reducible apply ops_cutN); rfl; rfl; omega)
           | exact ops_of rfl
         · (first | with_reducible exact free_empty | rw [allW_same] | rw [allW_set] | rw [allW_push]) <;> (repeat (first | with_reducible exact free_nil | with_reducible exact free_empty | ((with_reducible apply free_mask); rfl) | ((with_reducible apply free_ne); first | rfl | (simp [clash, meets, *]; done))))
         · first | exact note_same | exact note_read | exact note_set | exact note_push
         · dsimp only [putV, List.set]; try rfl))
  obtain ⟨rd', hrd⟩ : ∃ rd', rd' = if 0 + (nats L).length = rL.els.length then rL.rd else rL.cur + 1 := ⟨_, rfl⟩
  have hrd' : rd' ≤ rL.cur + 1 := by rw [hrd]; split <;> omega
  obtain ⟨h3, hh3⟩ : ∃ h3, h3 = ((h ++ [Ob.row ⟨1, [[V.int .i64 (u : Int)]], 0, 0⟩]).set bL (.row ⟨1, nats L ++ [[V.int .i64 (u : Int)]], rL.cur + 1, rd'⟩)).set b (.row ⟨3, [[V.os bL (rL.cur + 1) 1 0 ((nats L).length + 1) false, .os bP rP.cur 1 0 (ints P).length cP, av]], 0, 0⟩) := ⟨_, rfl⟩
  have k3 : Keeps h h3 [b, bL, bP] := by
    rw [hh3]
    exact (Keeps.push.trans (Keeps.set (by simp))).trans (Keeps.set (by simp))
  have k3' : Keeps h h3 [b, bL] := by
    rw [hh3]
    exact (Keeps.push.trans (Keeps.set (by simp))).trans (Keeps.set (by simp))
  have b3 : h3[b]? = some (.row ⟨3, [[V.os bL (rL.cur + 1) 1 0 ((nats L).length + 1) false, .os bP rP.cur 1 0 (ints P).length cP, av]], 0, 0⟩) := by
    rw [hh3]; exact set_at (by simp; omega)
  have L3 : h3[bL]? = some (.row ⟨1, nats L ++ [[V.int .i64 (u : Int)]], rL.cur + 1, rd'⟩) := by rw [hh3, set_ne n1]; exact set_at (by simp; omega)
  have H3 : HeapAt h3 b bL bP bA (L ++ [u]) P A := by
    refine ⟨⟨V.os bL (rL.cur + 1) 1 0 ((nats L).length + 1) false, _, av, b3, .inr ⟨false, _, [], ?_, L3, rfl, hrd', ?_⟩, hp0.frame k3' (by simp [Ne.symm n2, Ne.symm n4]), ha.frame k3' (by simp [Ne.symm n3, Ne.symm n5]), rfl⟩, n1, n2, n3, n4, n5, n6⟩
    · rw [nats_len, nats_len]; simp
    · rw [nats_app, List.append_nil]
  have e0 : ((nats L).length : Int) + 1 - 1 = (L.length : Int) := by rw [lN]; omega
  have e0' : (((nats L).length + 1 : Nat) : Int) - 1 = (L.length : Int) := by rw [lN]; omega
  change GQ EH _ _ ⟨_, ((h ++ [Ob.row ⟨1, [[V.int .i64 (u : Int)]], 0, 0⟩]).set bL (.row ⟨1, nats L ++ [[V.int .i64 (u : Int)]], rL.cur + 1, if 0 + (nats L).length = rL.els.length then rL.rd else rL.cur + 1⟩)).set b (.row ⟨3, [[V.os bL (rL.cur + 1) 1 0 ((nats L).length + 1) false, .os bP rP.cur 1 0 (ints P).length cP, av]], 0, 0⟩), _, _⟩ _
  rw [← hrd, ← hh3]
  clear hb hL' hT hL1 hb2
  have hy := up_run (k := k) (i := L.length) H3 (by simp) hk (by simp; omega) hPA (fun x hxx => by
    rw [gN_append]
    split
    · omega
    · rename_i hne
      simp at hxx; exact hx x (by omega))
  have e3 : gN (L ++ [u]) L.length = u := by rw [gN_append, if_pos rfl]
  rw [e3] at hy
  repeat (first
      | with_reducible apply q_seq
      | with_reducible apply q_reg
      | with_reducible apply q_draw
      | with_reducible apply q_ret
      | with_reducible apply q_skip
      | with_reducible apply q_exit
      | with_reducible apply q_block
      | with_reducible apply k_norm
      | with_reducible apply k_ret
      | with_reducible apply k_exit
      | with_reducible apply b_norm
      | with_reducible apply b_ret
      | with_reducible apply b_leave
      | ((with_reducible apply b_exit); decide)
      | with_reducible apply g_nil
      | with_reducible apply d_nil
      | ((with_reducible apply q_true); rfl)
      | ((with_reducible apply q_false); rfl)
      | ((with_reducible apply g_skip)
         · rfl
         · dsimp only [putV, List.set]; try rfl)
      | ((with_reducible apply d_skip)
         · rfl
         · dsimp only [putV, List.set]; try rfl)
      | ((with_reducible apply g_call)
         · rfl
         · rfl
         · rfl
         · exact hy
         · dsimp only [putV, List.set]; try rfl)
      | ((with_reducible apply g_go)
         · rfl
         · first
           | ((with_reducible apply ops_add); rfl; rfl; (first | assumption | rfl); omega; omega)
           | ((with_reducible apply ops_sub); rfl; rfl; (first | assumption | rfl); omega; omega)
           | ((with_reducible apply ops_mul); rfl; rfl; (first | assumption | rfl); omega; omega)
           | ((with_reducible apply ops_quo); rfl; rfl; decide; (first | assumption | rfl); omega; omega)
           | ((with_reducible apply ops_rem); rfl; rfl; omega; (first | assumption | rfl))
           | ((with_reducible apply ops_lss); rfl; rfl; (first | assumption | rfl))
           | ((with_reducible apply ops_gtr); rfl; rfl; (first | assumption | rfl))
           | ((with_reducible apply ops_leq); rfl; rfl; (first | assumption | rfl))
           | ((with_reducible apply ops_geq); rfl; rfl; (first | assumption | rfl))
           | ((with_reducible apply ops_eql); rfl; rfl; (first | assumption | rfl))
           | ((with_reducible apply ops_neq); rfl; rfl; (first | assumption | rfl))
           | ((with_reducible apply ops_min2); rfl; (first | assumption | rfl))
           | ((with_reducible apply ops_max2); rfl; (first | assumption | rfl))
           | ((with_reducible apply ops_iaddrN); rfl; rfl; omega; rfl)
           | ((with_reducible apply ops_iaddr); rfl; rfl; omega; omega; rfl; rfl)
           | ((with_reducible apply ops_load); rfl; exact rowAt_of (by first | assumption) (Nat.zero_le _) (Nat.zero_le _); rfl; rfl)
           | ((with_reducible apply arr_loadN); rfl; (first | assumption); assumption; assumption; (first | assumption | (apply ints_get; omega) | (apply nats_get; omega)); rfl)
           | ((with_reducible apply arr_storeN); rfl; rfl; (first | assumption); assumption; assumption; (first | assumption | (apply ints_get; omega) | (apply nats_get; omega)); rfl; rfl; rfl; rfl; rfl)
           | ((with_reducible apply ops_struct); rfl; rfl; (first | assumption); rfl; rfl; rfl; rfl; rfl; exact Nat.le_of_ble_eq_true rfl; rfl)
           | ((with_reducible apply ops_bslice1); rfl; rfl; rfl)
           | ((with_reducible apply ops_push); rfl; rfl; (first | assumption); (first | assumption); assumption; assumption; assumption; (first | rfl | assumption); omega; rfl)
           | ((with_reducible apply ops_cutN); rfl; rfl; omega)
           | exact ops_of rfl
         · dsimp only [putV, List.set]; try rfl)
      | ((with_reducible apply d_go)
         · rfl
         · first
           | ((with_reducible apply ops_add); rfl; rfl; (first | assumption | rfl); omega; omega)
           | ((with_reducible apply ops_sub); rfl; rfl; (first | assumption | rfl); omega; omega)
           | ((with_reducible apply ops_mul); rfl; rfl; (first | assumption | rfl); omega; omega)
           | ((with_reducible apply ops_quo); rfl; rfl; decide; (first | assumption | rfl); omega; omega)
           | ((with_reducible apply ops_rem); rfl; rfl; omega; (first | assumption | rfl))
           | ((with_reducible apply ops_lss); rfl; rfl; (first | assumption | rfl))
           | ((with_reducible apply ops_gtr); rfl; rfl; (first | assumption | rfl))
           | ((with_reducible apply ops_leq); rfl; rfl; (first | assumption | rfl))
           | ((with_reducible apply ops_geq); rfl; rfl; (first | assumption | rfl))
           | ((with_reducible apply ops_eql); rfl; rfl; (first | assumption | rfl))
           | ((with_reducible apply ops_neq); rfl; rfl; (first | assumption | rfl))
           | ((with_reducible apply ops_min2); rfl; (first | assumption | rfl))
           | ((with_reducible apply ops_max2); rfl; (first | assumption | rfl))
           | ((with_reducible apply ops_iaddrN); rfl; rfl; omega; rfl)
           | ((with_reducible apply ops_iaddr); rfl; rfl; omega; omega; rfl; rfl)
           | ((with_reducible apply ops_load); rfl; exact rowAt_of (by first | assumption) (Nat.zero_le _) (Nat.zero_le _); rfl; rfl)
           | ((with_reducible apply arr_loadN); rfl; (first | assumption); assumption; assumption; (first | assumption | (apply ints_get; omega) | (apply nats_get; omega)); rfl)
           | ((with_reducible apply arr_storeN); rfl; rfl; (first | assumption); assumption; assumption; (first | assumption | (apply ints_get; omega) | (apply nats_get; omega)); rfl; rfl; rfl; rfl; rfl)
           | ((with_reducible apply ops_struct); rfl; rfl; (first | assumption); rfl; rfl; rfl; rfl; rfl; exact Nat.le_of_ble_eq_true rfl; rfl)
           | ((with_reducible apply ops_bslice1); rfl; rfl; rfl)
           | ((with_reducible apply ops_push); rfl; rfl; (first | assumption); (first | assumption); assumption; assumption; assumption; (first | rfl | assumption); omega; rfl)
           | ((with_reducible apply ops_cutN); rfl; rfl; omega)
           | exact ops_of rfl
         · (first | with_reducible exact free_empty | rw [allW_same] | rw [allW_set] | rw [allW_push]) <;> (repeat (first | with_reducible exact free_nil | with_reducible exact free_empty | ((with_reducible apply free_mask); rfl) | ((with_reducible apply free_ne); first | rfl | (simp [clash, meets, *]; done))))
         · first | exact note_same | exact note_read | exact note_set | exact note_push
         · dsimp only [putV, List.set]; try rfl))
  intro r2 w2 h6 hD
  obtain ⟨d1, d2⟩ := hD
  repeat (first
      | with_reducible apply q_seq
      | with_reducible apply q_reg
      | with_reducible apply q_draw
      | with_reducible apply q_ret
      | with_reducible apply q_skip
      | with_reducible apply q_exit
      | with_reducible apply q_block
      | with_reducible apply k_norm
      | with_reducible apply k_ret
      | with_reducible apply k_exit
      | with_reducible apply b_norm
      | with_reducible apply b_ret
      | with_reducible apply b_leave
      | ((with_reducible apply b_exit); decide)
      | with_reducible apply g_nil
      | with_reducible apply d_nil
      | ((with_reducible apply q_true); rfl)
      | ((with_reducible apply q_false); rfl)
      | ((with_reducible apply g_skip)
         · rfl
         · dsimp only [putV, List.set]; try rfl)
      | ((with_reducible apply d_skip)
         · rfl
         · dsimp only [putV, List.set]; try rfl)
      | ((with_reducible apply g_go)
         · rfl
         · first
           | ((with_reducible apply ops_add); rfl; rfl; (first | assumption | rfl); omega; omega)
           | ((with_reducible apply ops_sub); rfl; rfl; (first | assumption | rfl); omega; omega)
           | ((with_reducible apply ops_mul); rfl; rfl; (first | assumption | rfl); omega; omega)
           | ((with_reducible apply ops_quo); rfl; rfl; decide; (first | assumption | rfl); omega; omega)
           | ((with_reducible apply ops_rem); rfl; rfl; omega; (first | assumption | rfl))
           | ((with_reducible apply ops_lss); rfl; rfl; (first | assumption | rfl))
           | ((with_reducible apply ops_gtr); rfl; rfl; (first | assumption | rfl))
           | ((with_reducible apply ops_leq); rfl; rfl; (first | assumption | rfl))
           | ((with_reducible apply ops_geq); rfl; rfl; (first | assumption | rfl))
           | ((with_reducible apply ops_eql); rfl; rfl; (first | assumption | rfl))
           | ((with_reducible apply ops_neq); rfl; rfl; (first | assumption | rfl))
           | ((with_reducible apply ops_min2); rfl; (first | assumption | rfl))
           | ((with_reducible apply ops_max2); rfl; (first | assumption | rfl))
           | ((with_reducible apply ops_iaddrN); rfl; rfl; omega; rfl)
           | ((with_reducible apply ops_iaddr); rfl; rfl; omega; omega; rfl; rfl)
           | ((with_reducible apply ops_load); rfl; exact rowAt_of (by first | assumption) (Nat.zero_le _) (Nat.zero_le _); rfl; rfl)
           | ((with_reducible apply arr_loadN); rfl; (first | assumption); assumption; assumption; (first | assumption | (apply ints_get; omega) | (apply nats_get; omega)); rfl)
           | ((with_reducible apply arr_storeN); rfl; rfl; (first | assumption); assumption; assumption; (first | assumption | (apply ints_get; omega) | (apply nats_get; omega)); rfl; rfl; rfl; rfl; rfl)
           | ((with_reducible apply ops_struct); rfl; rfl; (first | assumption); rfl; rfl; rfl; rfl; rfl; exact Nat.le_of_ble_eq_true rfl; rfl)
           | ((with_reducible apply ops_bslice1); rfl; rfl; rfl)
           | ((with_reducible apply ops_push); rfl; rfl; (first | assumption); (first | assumption); assumption; assumption; assumption; (first | rfl | assumption); omega; rfl)
           | ((with_reducible apply ops_cutN); rfl; rfl; omega)
           | exact ops_of rfl
         · dsimp only [putV, List.set]; try rfl)
      | ((with_reducible apply d_go)
         · rfl
         · first
           | ((with_reducible apply ops_add); rfl; rfl; (first | assumption | rfl); omega; omega)
           | ((with_reducible apply ops_sub); rfl; rfl; (first | assumption | rfl); omega; omega)
           | ((with_reducible apply ops_mul); rfl; rfl; (first | assumption | rfl); omega; omega)
           | ((with_reducible apply ops_quo); rfl; rfl; decide; (first | assumption | rfl); omega; omega)
           | ((with_reducible apply ops_rem); rfl; rfl; omega; (first | assumption | rfl))
           | ((with_reducible apply ops_lss); rfl; rfl; (first | assumption | rfl))
           | ((with_reducible apply ops_gtr); rfl; rfl; (first | assumption | rfl))
           | ((with_reducible apply ops_leq); rfl; rfl; (first | assumption | rfl))
           | ((with_reducible apply ops_geq); rfl; rfl; (first | assumption | rfl))
           | ((with_reducible apply ops_eql); rfl; rfl; (first | assumption | rfl))
           | ((with_reducible apply ops_neq); rfl; rfl; (first | assumption | rfl))
           | ((with_reducible apply ops_min2); rfl; (first | assumption | rfl))
           | ((with_reducible apply ops_max2); rfl; (first | assumption | rfl))
           | ((with_reducible apply ops_iaddrN); rfl; rfl; omega; rfl)
           | ((with_reducible apply ops_iaddr); rfl; rfl; omega; omega; rfl; rfl)
           | ((with_reducible apply ops_load); rfl; exact rowAt_of (by first | assumption) (Nat.zero_le _) (Nat.zero_le _); rfl; rfl)
           | ((with_reducible apply arr_loadN); rfl; (first | assumption); assumption; assumption; (first | assumption | (apply ints_get; omega) | (apply nats_get; omega)); rfl)
           | ((with_reducible apply arr_storeN); rfl; rfl; (first | assumption); assumption; assumption; (first | assumption | (apply ints_get; omega) | (apply nats_get; omega)); rfl; rfl; rfl; rfl; rfl)
           | ((with_reducible apply ops_struct); rfl; rfl; (first | assumption); rfl; rfl; rfl; rfl; rfl; exact Nat.le_of_ble_eq_true rfl; rfl)
           | ((with_reducible apply ops_bslice1); rfl; rfl; rfl)
           | ((with_reducible apply ops_push); rfl; rfl; (first | assumption); (first | assumption); assumption; assumption; assumption; (first | rfl | assumption); omega; rfl)
           | ((with_reducible apply ops_cutN); rfl; rfl; omega)
           | exact ops_of rfl
         · (first | with_reducible exact free_empty | rw [allW_same] | rw [allW_set] | rw [allW_push]) <;> (repeat (first | with_reducible exact free_nil | with_reducible exact free_empty | ((with_reducible apply free_mask); rfl) | ((with_reducible apply free_ne); first | rfl | (simp [clash, meets, *]; done))))
         · first | exact note_same | exact note_read | exact note_set | exact note_push
         · dsimp only [putV, List.set]; try rfl))
  exact ⟨.inl rfl, _, _, rfl, rfl, hQ _ d1 (k3.trans (d2.mono (by simp)))⟩
end Go.Proofs.Ytmmipfmdkoaekaa.Code
