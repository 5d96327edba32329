/- A part of the proof: HeapRun8. No condition. -/
import Derived.Test.YtmmipfmdkoaekaaHeapRun7
set_option linter.all false
set_option maxRecDepth 100000
namespace Go.Proofs.Ytmmipfmdkoaekaa.Code
open Go.Mini Go.HeapMath Go.HeapRun
set_option linter.all false
set_option maxHeartbeats 4000000
theorem ops_mk {E : Env} {t : List V} {h : H} {l c : Opd} {z : V} {m : Nat} (hl : ev E.G t l = some (.int .i64 (m : Int))) (hc : ev E.G t c = some (.int .i64 (m : Int))) (hm : m ≤ 1000000) : Ops E t (.mkslice 1 8 [z] l c) h ⟨.os h.length 0 1 0 m false, h ++ [Ob.row ⟨1, List.replicate m [z], 0, 0⟩], [], []⟩ := by
  refine ops_of ?_
  simp only [opV, op_mkslice, hl, hc]
  rw [if_neg (by omega)]
  simp only [Int.toNat_natCast]
  rfl
theorem ops_box3 {E : Env} {t : List V} {h : H} {x : Opd} {a b c : V} (hx : ev E.G t x = some (.agg [a, b, c])) : Ops E t (.box 3 x) h ⟨.ptr h.length 0 0 0, h ++ [Ob.row ⟨3, [[a, b, c]], 0, 0⟩], [], []⟩ := by
  refine ops_of ?_
  simp only [opV, op_box, hx]; rfl
theorem ops_push0 {E : Env} {t : List V} {h : H} {x y : Opd} {bt : Nat} {u : V} (hs : ev E.G t y = some .nils) (hx : ev E.G t x = some (.os bt 0 1 0 1 true)) (ht : h[bt]? = some (.row ⟨1, [[u]], 0, 0⟩)) : Ops E t (.append 1 8 y x) h ⟨.os h.length 0 1 0 1 false, h ++ [Ob.row ⟨1, [[u]], 0, 0⟩], [bt], []⟩ := by
  refine ops_of ?_
  have h1 : sources 1 h (.os bt 0 1 0 1 true) = some ([[u]], [bt]) := by
    simp only [sources, elems, rowAt_of ht (Nat.le_refl _) (Nat.le_refl _)]
    rfl
  simp only [opV, op_append, hs, hx, appendV, h1]
  rfl
def newLoop : MCode := (.loop (.seq (.seq (.reg [⟨(some 20), .mv (.t 5), none⟩, ⟨(some 21), .mv (.t 0), none⟩, ⟨(some 22), .bin .leq .no (.t 20) (.t 21), none⟩])
   (.cond (.t 22)
     .skip
     (.exit 0)))
   (.seq (.block 1 (.seq (.draw [⟨(some 25), .mv (.t 4), none⟩, ⟨(some 26), .nilc (.t 25), none⟩, ⟨(some 27), .faddr 1 (.t 26), none⟩, ⟨(some 28), .load none (.t 27), none⟩, ⟨(some 29), .mv (.t 5), none⟩, ⟨(some 30), .mv (.t 4), none⟩, ⟨(some 31), .nilc (.t 30), none⟩, ⟨(some 32), .faddr 0 (.t 31), none⟩, ⟨(some 33), .load none (.t 32), none⟩, ⟨(some 34), .len (.t 33), none⟩, ⟨(some 35), .iaddr 1 (.t 28) (.t 29), none⟩, ⟨none, .store 1 (.t 35) (.t 34), none⟩] [0, 1, 3, 7, 0, 0, 32, 96, 224, 480, 1023, 2047])
    (.reg [⟨(some 36), .mv (.t 4), none⟩, ⟨(some 37), .mv (.t 4), none⟩, ⟨(some 38), .nilc (.t 37), none⟩, ⟨(some 39), .faddr 0 (.t 38), none⟩, ⟨(some 40), .load none (.t 39), none⟩, ⟨(some 41), .mv (.t 5), none⟩, ⟨(some 42), .bslice 1 1 [(.int .i64 0)] [(0, 1, (.t 41))], none⟩, ⟨(some 43), .append 1 8 (.t 40) (.t 42), none⟩, ⟨(some 44), .nilc (.t 36), none⟩, ⟨(some 45), .faddr 0 (.t 44), none⟩, ⟨none, .store 1 (.t 45) (.t 43), none⟩])))
   (.reg [⟨(some 23), .mv (.t 5), none⟩, ⟨(some 24), .bin .add .no (.t 23) (.c (.int .i64 1)), none⟩, ⟨(some 5), .mv (.t 24), none⟩]))))
theorem new_loop {n n0 b bL bP bA : Nat} {A : List Int} (hn : n ≤ 100000) (Q : Ex → St → Prop) : ∀ (d i : Nat) (L : List Nat) (P : List Int) (h : H) (r w : List Nat) (j1 j2 j3 j6 j7 j8 j9 j10 j11 j12 j13 j14 j15 j16 j17 j18 j19 j20 j21 j22 j23 j24 j25 j26 j27 j28 j29 j30 j31 j32 j33 j34 j35 j36 j37 j38 j39 j40 j41 j42 j43 j44 j45 j46 : V), n = i + d → 1 ≤ i → L.length = i → (∀ x, x < i → gN L x = x + 1) → P.length = n + 1 → (∀ u, 1 ≤ u → u ≤ i → gI P u = (u : Int) - 1) → HeapAt h b bL bP bA L P A →
    (∀ (L' : List Nat) (P' : List Int) (h' : H) (r' w' : List Nat) (k5 : V) (k1 k2 k3 k6 k7 k8 k9 k10 k11 k12 k13 k14 k15 k16 k17 k18 k19 k20 k21 k22 k23 k24 k25 k26 k27 k28 k29 k30 k31 k32 k33 k34 k35 k36 k37 k38 k39 k40 k41 k42 k43 k44 k45 k46 : V), HeapAt h' b bL bP bA L' P' A → L'.length = n → (∀ x, x < n → gN L' x = x + 1) → P'.length = n + 1 → (∀ u, 1 ≤ u → u ≤ n → gI P' u = (u : Int) - 1) → Keeps h h' [b, bL, bP] → Q (.exit 0) ⟨[(.int .i64 (n : Nat)), k1, k2, k3, (.ptr b 0 0 0), k5, k6, k7, k8, k9, k10, k11, k12, k13, k14, k15, k16, k17, k18, k19, k20, k21, k22, k23, k24, k25, k26, k27, k28, k29, k30, k31, k32, k33, k34, k35, k36, k37, k38, k39, k40, k41, k42, k43, k44, k45, k46], h', r', w'⟩) →
    RQ EH n0 newLoop ⟨[(.int .i64 (n : Nat)), j1, j2, j3, (.ptr b 0 0 0), (.int .i64 (i + 1  : Nat)), j6, j7, j8, j9, j10, j11, j12, j13, j14, j15, j16, j17, j18, j19, j20, j21, j22, j23, j24, j25, j26, j27, j28, j29, j30, j31, j32, j33, j34, j35, j36, j37, j38, j39, j40, j41, j42, j43, j44, j45, j46], h, r, w⟩ Q
  | d, i, L, P, h, r, w, j1, j2, j3, j6, j7, j8, j9, j10, j11, j12, j13, j14, j15, j16, j17, j18, j19, j20, j21, j22, j23, j24, j25, j26, j27, j28, j29, j30, j31, j32, j33, j34, j35, j36, j37, j38, j39, j40, j41, j42, j43, j44, j45, j46, hd, h1, hL, hf, hP, hg, hH, hQ => by
    have hH0 := hH
    obtain ⟨⟨lv, pv, av, hb, hl, hp, ha, hcl⟩, n1, n2, n3, n4, n5, n6⟩ := hH
    rcases hl with ⟨_, hl, _⟩ | hl
    · subst hl; simp at hL; omega
    have hp0 := hp
    obtain ⟨cP, rP, jP, eP, hP', sP, oP, lP⟩ := hp
    subst eP
    have lI := ints_len P
    obtain ⟨cL, rL, jL, eL, hL', sL, oL, lL⟩ := hl
    subst eL
    have hcl' : cL = false := hcl
    subst hcl'
    have lN := nats_len L
    unfold newLoop
    apply q_loop
    match d, hd with
    | 0, hd =>
      have hc : decide (((i + 1 : Nat) : Int) ≤ (n : Int)) = false := decide_eq_false (by omega)
      repeat (first | (with_reducible first | apply q_seq | apply q_reg | apply q_draw | apply q_ret | apply q_skip | apply q_exit | apply q_block | apply k_norm | apply k_ret | apply k_exit | apply b_norm | apply b_ret | apply b_leave | apply g_nil | apply d_nil) | ((with_reducible apply b_exit); decide) | ((with_reducible apply q_true); rfl) | ((with_reducible apply q_false); rfl) | ((with_reducible first | apply g_skip | apply d_skip); rfl; (dsimp only [putV, List.set] <;> try rfl)) | ((with_reducible first | apply g_go | apply d_go2); rfl; (first | ((with_reducible apply ops_add); rfl; rfl; (first | assumption | rfl); omega; omega) | ((with_reducible apply ops_sub); rfl; rfl; (first | assumption | rfl); omega; omega) | ((with_reducible apply ops_mul); rfl; rfl; (first | assumption | rfl); omega; omega) | ((with_reducible apply ops_quo); rfl; rfl; decide; (first | assumption | rfl); omega; omega) | ((with_reducible apply ops_rem); rfl; rfl; omega; (first | assumption | rfl)) | ((with_reducible apply ops_lss); rfl; rfl; (first | assumption | rfl)) | ((with_reducible apply ops_gtr); rfl; rfl; (first | assumption | rfl)) | ((with_reducible apply ops_leq); rfl; rfl; (first | assumption | rfl)) | ((with_reducible apply ops_geq); rfl; rfl; (first | assumption | rfl)) | ((with_reducible apply ops_eql); rfl; rfl; (first | assumption | rfl)) | ((with_reducible apply ops_neq); rfl; rfl; (first | assumption | rfl)) | ((with_reducible apply ops_min2); rfl; (first | assumption | rfl)) | ((with_reducible apply ops_max2); rfl; (first | assumption | rfl)) | ((with_reducible apply ops_iaddrN); rfl; rfl; omega; rfl) | ((with_reducible apply ops_iaddr); rfl; rfl; omega; omega; rfl; rfl) | ((with_reducible apply ops_load); rfl; exact rowAt_of (by first | assumption) (Nat.zero_le _) (Nat.zero_le _); rfl; rfl) | ((with_reducible apply arr_loadN); rfl; (first | assumption); assumption; assumption; (first | assumption | (apply ints_get; omega) | (apply nats_get; omega)); rfl) | ((with_reducible apply arr_storeN); rfl; rfl; (first | assumption); assumption; assumption; (first | assumption | (apply ints_get; omega) | (apply nats_get; omega)); rfl; rfl; rfl; rfl; rfl) | ((with_reducible apply ops_struct); rfl; rfl; (first | assumption); rfl; rfl; rfl; rfl; rfl; exact Nat.le_of_ble_eq_true rfl; rfl) | ((with_reducible apply ops_bslice1); rfl; rfl; rfl) | ((with_reducible apply ops_push); rfl; rfl; (first | assumption); (first | assumption); assumption; assumption; assumption; (first | rfl | assumption); omega; rfl) | ((with_reducible apply ops_cutN); rfl; rfl; omega) | exact ops_of rfl); (dsimp only [putV, List.set] <;> try rfl); (first | (((first | with_reducible exact free_empty | rw [allW_same] | rw [allW_set] | rw [allW_push]) <;> (repeat (first | with_reducible exact free_nil | with_reducible exact free_empty | ((with_reducible apply free_mask); rfl) | ((with_reducible apply free_ne); (focus (first | rfl | (simp [clash, meets, *]; done))))))); (first | exact note_same | exact note_read | exact note_set | exact note_push)) | skip)))
      have : i = n := by omega
      subst this
      exact hQ L P h _ _ _ _ _ _ _ _ _ _ _ _ _ _ _ _ _ _ _ _ _ _ _ _ _ _ _ _ _ _ _ _ _ _ _ _ _ _ _ _ _ _ _ _ _ _ _ hH0 hL hf hP hg (Keeps.refl _ _)
    | d + 1, hd =>
      have hc : decide (((i + 1 : Nat) : Int) ≤ (n : Int)) = true := decide_eq_true (by omega)
      have e1 : ((i + 1 : Nat) : Int) + 1 = ((i + 2 : Nat) : Int) := by omega
      have bl : b < h.length := (List.getElem?_eq_some_iff.1 hb).1
      have Ll : bL < h.length := (List.getElem?_eq_some_iff.1 hL').1
      have Pl : bP < h.length := (List.getElem?_eq_some_iff.1 hP').1
      have hT : ∀ (h : H) o, (h ++ [o])[h.length]? = some o := fun h o => by simp
      have hb1 : ∀ o, (h.set bP o)[b]? = some (.row ⟨3, [[V.os bL rL.cur 1 0 (nats L).length false, .os bP rP.cur 1 0 (ints P).length cP, av]], 0, 0⟩) := fun o => by rw [set_ne (Ne.symm n2)]; exact hb
      have hL1 : ∀ o o', ((h.set bP o) ++ [o'])[bL]? = some (.row rL) := fun o o' => by
        rw [List.getElem?_append_left (by simp; omega), set_ne (Ne.symm n4)]; exact hL'
      have hb2 : ∀ o o' o2, (((h.set bP o) ++ [o']).set bL o2)[b]? = some (.row ⟨3, [[V.os bL rL.cur 1 0 (nats L).length false, .os bP rP.cur 1 0 (ints P).length cP, av]], 0, 0⟩) := fun o o' o2 => by
        rw [set_ne (Ne.symm n1), List.getElem?_append_left (by simp; omega)]; exact hb1 _
      repeat (first | (with_reducible first | apply q_seq | apply q_reg | apply q_draw | apply q_ret | apply q_skip | apply q_exit | apply q_block | apply k_norm | apply k_ret | apply k_exit | apply b_norm | apply b_ret | apply b_leave | apply g_nil | apply d_nil) | ((with_reducible apply b_exit); decide) | ((with_reducible apply q_true); rfl) | ((with_reducible apply q_false); rfl) | ((with_reducible first | apply g_skip | apply d_skip); rfl; (dsimp only [putV, List.set] <;> try rfl)) | ((with_reducible first | apply g_go | apply d_go2); rfl; (first | ((with_reducible apply ops_add); rfl; rfl; (first | assumption | rfl); omega; omega) | ((with_reducible apply ops_sub); rfl; rfl; (first | assumption | rfl); omega; omega) | ((with_reducible apply ops_mul); rfl; rfl; (first | assumption | rfl); omega; omega) | ((with_reducible apply ops_quo); rfl; rfl; decide; (first | assumption | rfl); omega; omega) | ((with_reducible apply ops_rem); rfl; rfl; omega; (first | assumption | rfl)) | ((with_reducible apply ops_lss); rfl; rfl; (first | assumption | rfl)) | ((with_reducible apply ops_gtr); rfl; rfl; (first | assumption | rfl)) | ((with_reducible apply ops_leq); rfl; rfl; (first | assumption | rfl)) | ((with_reducible apply ops_geq); rfl; rfl; (first | assumption | rfl)) | ((with_reducible apply ops_eql); rfl; rfl; (first | assumption | rfl)) | ((with_reducible apply ops_neq); rfl; rfl; (first | assumption | rfl)) | ((with_reducible apply ops_min2); rfl; (first | assumption | rfl)) | ((with_reducible apply ops_max2); rfl; (first | assumption | rfl)) | ((with_reducible apply ops_iaddrN); rfl; rfl; omega; rfl) | ((with_reducible apply ops_iaddr); rfl; rfl; omega; omega; rfl; rfl) | ((with_reducible apply ops_load); rfl; exact rowAt_of (by first | assumption | exact hb1 _ | exact hT _ _ | exact hL1 _ _ | exact hb2 _ _ _) (Nat.zero_le _) (Nat.zero_le _); rfl; rfl) | ((with_reducible apply arr_loadN); rfl; (first | assumption | exact hb1 _ | exact hT _ _ | exact hL1 _ _ | exact hb2 _ _ _); assumption; assumption; (first | assumption | (apply ints_get; omega) | (apply nats_get; omega)); rfl) | ((with_reducible apply arr_storeN); rfl; rfl; (first | assumption | exact hb1 _ | exact hT _ _ | exact hL1 _ _ | exact hb2 _ _ _); assumption; assumption; (first | assumption | (apply ints_get; omega) | (apply nats_get; omega)); rfl; rfl; rfl; rfl; rfl) | ((with_reducible apply ops_struct); rfl; rfl; (first | assumption | exact hb1 _ | exact hT _ _ | exact hL1 _ _ | exact hb2 _ _ _); rfl; rfl; rfl; rfl; rfl; exact Nat.le_of_ble_eq_true rfl; rfl) | ((with_reducible apply ops_bslice1); rfl; rfl; rfl) | ((with_reducible apply ops_push); rfl; rfl; (first | assumption | exact hb1 _ | exact hT _ _ | exact hL1 _ _ | exact hb2 _ _ _); (first | assumption | exact hb1 _ | exact hT _ _ | exact hL1 _ _ | exact hb2 _ _ _); assumption; assumption; assumption; (first | rfl | assumption); omega; rfl) | ((with_reducible apply ops_cutN); rfl; rfl; omega) | exact ops_of rfl); (dsimp only [putV, List.set] <;> try rfl); (first | (((first | with_reducible exact free_empty | rw [allW_same] | rw [allW_set] | rw [allW_push]) <;> (repeat (first | with_reducible exact free_nil | with_reducible exact free_empty | ((with_reducible apply free_mask); rfl) | ((with_reducible apply free_ne); (focus (first | rfl | (simp [clash, meets, *]; done))))))); (first | exact note_same | exact note_read | exact note_set | exact note_push)) | skip)))
      obtain ⟨rd', hrd⟩ : ∃ rd', rd' = if 0 + (nats L).length = rL.els.length then rL.rd else rL.cur + 1 := ⟨_, rfl⟩
      have hrd' : rd' ≤ rL.cur + 1 := by rw [hrd]; split <;> omega
      have eS : (ints P).set (i + 1) [V.int .i64 ((nats L).length : Int)] = ints (P.set (i + 1) (i : Int)) := by rw [lN, hL]; exact ints_set
      obtain ⟨h3, hh3⟩ : ∃ h3, h3 = (((h.set bP (.row ⟨rP.sz, ints (P.set (i + 1) (i : Int)) ++ jP, rP.cur, rP.cur⟩)) ++ [Ob.row ⟨1, [[V.int .i64 ((i + 1 : Nat) : Int)]], 0, 0⟩]).set bL (.row ⟨1, nats L ++ [[V.int .i64 ((i + 1 : Nat) : Int)]], rL.cur + 1, rd'⟩)).set b (.row ⟨3, [[V.os bL (rL.cur + 1) 1 0 ((nats L).length + 1) false, .os bP rP.cur 1 0 (ints P).length cP, av]], 0, 0⟩) := ⟨_, rfl⟩
      have kp : Keeps h (h.set bP (.row ⟨rP.sz, ints (P.set (i + 1) (i : Int)) ++ jP, rP.cur, rP.cur⟩)) [bP] := Keeps.set (by simp)
      have kk2 : Keeps (h.set bP (.row ⟨rP.sz, ints (P.set (i + 1) (i : Int)) ++ jP, rP.cur, rP.cur⟩)) h3 [b, bL] := by
        rw [hh3]
        exact (Keeps.push.trans (Keeps.set (by simp))).trans (Keeps.set (by simp))
      have kk3 : Keeps h h3 [b, bL, bP] := (kp.mono (by simp)).trans (kk2.mono (by simp))
      have b3 : h3[b]? = some (.row ⟨3, [[V.os bL (rL.cur + 1) 1 0 ((nats L).length + 1) false, .os bP rP.cur 1 0 (ints P).length cP, av]], 0, 0⟩) := by
        rw [hh3]; exact set_at (by simp; omega)
      have L3 : h3[bL]? = some (.row ⟨1, nats L ++ [[V.int .i64 ((i + 1 : Nat) : Int)]], rL.cur + 1, rd'⟩) := by rw [hh3, set_ne n1]; exact set_at (by simp; omega)
      have H3 : HeapAt h3 b bL bP bA (L ++ [i + 1]) (P.set (i + 1) (i : Int)) A := by
        refine ⟨⟨V.os bL (rL.cur + 1) 1 0 ((nats L).length + 1) false, .os bP rP.cur 1 0 (ints P).length cP, av, b3, .inr ⟨false, _, [], ?_, L3, rfl, hrd', ?_⟩, ?_, (ha.frame kp (by simp [Ne.symm n6])).frame kk2 (by simp [Ne.symm n3, Ne.symm n5]), rfl⟩, n1, n2, n3, n4, n5, n6⟩
        · rw [nats_len, nats_len]; simp
        · rw [nats_app, List.append_nil]
        · have := Arr.of_set (h := h) (c := cP) (els := ints P) (els' := ints (P.set (i + 1) (i : Int))) (junk := jP) rfl hP' sP (by simp [ints_len])
          exact this.frame kk2 (by simp [Ne.symm n2, Ne.symm n4])
      change RQ EH _ _ ⟨_, (((h.set bP (.row ⟨rP.sz, (ints P).set (i + 1) [V.int .i64 ((nats L).length : Int)] ++ jP, rP.cur, rP.cur⟩)) ++ [Ob.row ⟨1, [[V.int .i64 ((i + 1 : Nat) : Int)]], 0, 0⟩]).set bL (.row ⟨1, nats L ++ [[V.int .i64 ((i + 1 : Nat) : Int)]], rL.cur + 1, if 0 + (nats L).length = rL.els.length then rL.rd else rL.cur + 1⟩)).set b (.row ⟨3, [[V.os bL (rL.cur + 1) 1 0 ((nats L).length + 1) false, .os bP rP.cur 1 0 (ints P).length cP, av]], 0, 0⟩), _, _⟩ _
      rw [eS, ← hrd, ← hh3]
      refine new_loop (bL := bL) (bP := bP) (bA := bA) (A := A) hn Q d (i + 1) (L ++ [i + 1]) (P.set (i + 1) (i : Int)) h3 _ _ _ _ _ _ _ _ _ _ _ _ _ _ _ _ _ _ _ _ _ _ _ _ _ _ _ _ _ _ _ _ _ _ _ _ _ _ _ _ _ _ _ _ _ _ (by omega) (by omega) (by simp [hL]) ?_ (by simp [hP]) ?_ H3 ?_
      · intro x hx
        rw [gN_append, hL]
        split
        · omega
        · exact hf x (by omega)
      · intro u hu1 hu2
        rw [gI_set (by omega)]
        split
        · omega
        · exact hg u hu1 (by omega)
      · intro L' P' h' r' w' k5 k1 k2 k3 k6 k7 k8 k9 k10 k11 k12 k13 k14 k15 k16 k17 k18 k19 k20 k21 k22 k23 k24 k25 k26 k27 k28 k29 k30 k31 k32 k33 k34 k35 k36 k37 k38 k39 k40 k41 k42 k43 k44 k45 k46 a1 a2 a3 a4 a5 a6
        exact hQ L' P' h' r' w' k5 k1 k2 k3 k6 k7 k8 k9 k10 k11 k12 k13 k14 k15 k16 k17 k18 k19 k20 k21 k22 k23 k24 k25 k26 k27 k28 k29 k30 k31 k32 k33 k34 k35 k36 k37 k38 k39 k40 k41 k42 k43 k44 k45 k46 a1 a2 a3 a4 a5 (kk3.trans a6)
end Go.Proofs.Ytmmipfmdkoaekaa.Code
