/- A part of the proof: MiniOps6. No condition. -/
import Derived.Test.YtgknkkdemjjeoaaGreatDoorMiniMem
set_option linter.all false
set_option maxRecDepth 100000
namespace Go.Mini
set_option linter.unusedVariables false
set_option linter.unusedSimpArgs false
variable {P : Program} {G : Nat → Option V} {forb : Nat → Prop} {φ : Phi} {w : World} {t : List V} {a : Act} {D : Nat → Prop} {base : Nat} {h : H} {o : Oper}

theorem at_off (l : Loc) (i o n : Nat) : (l.at i o).add n = ⟨l.cb, l.coff + (i - l.lo) * l.sz + (o + n), none⟩ := by rw [at_add]; rfl

theorem deref_ok (hR : Rel forb φ D base h w) {v : V} {cells : List V} {r : List Nat} {c : Value} (hd : deref h v = some (cells, r)) (hv : VR forb w φ v c) (hr : ∀ b ∈ r, D b) :
    ∃ A, c = .pointer (some A) ∧ ∀ (k : Nat) y, cells[k]? = some y → y.isCell = true ∧ ∃ u, w.cell? (A.add k) = some u ∧ VR forb w φ y u := by
  unfold deref at hd
  split at hd
  · cases hd
    obtain ⟨A, rfl, h2, h3⟩ := hv.rp_inv
    refine ⟨A, rfl, fun k y hy => ?_⟩
    obtain ⟨_, h4, u, h5⟩ := h2 k y hy
    exact ⟨h4, u, h5, (h3 k y u hy h5).less (fun _ h => h) (fun _ _ _ h => by cases h)⟩
  · rename_i b vv i oo
    split at hd
    · rename_i x hx
      split at hd
      · rename_i el hel
        cases hd
        obtain ⟨l, rfl, hφ, h1, h2⟩ := hv.ptr_inv
        obtain ⟨hx1, hx2, hx3⟩ := rowAt_some hx
        obtain ⟨k1, k2, k3, k4, cs, ty, fr, k5, k6, k7⟩ := hR.row b x vv l (hr b (by simp)) hx1 hx2 hx3 hφ
        refine ⟨_, rfl, fun k y hy => ?_⟩
        rw [List.getElem?_drop] at hy
        obtain ⟨h3, u, h4, h5⟩ := k7 i el (oo + k) y h1 h2 hel hy
        refine ⟨h3, u, ?_, h5⟩
        rw [at_off]
        simp only [World.cell?, k5]
        simpa [Nat.add_assoc] using h4
      · cases hd
    · cases hd
  · cases hd

theorem loadVar_ok {ty : TypeId} {agg : Option Nat} (ha : aggN P ty = some agg) {cells : List V} {A : Addr} {v : V} (hc : ∀ (k : Nat) y, cells[k]? = some y → y.isCell = true ∧ ∃ u, w.cell? (A.add k) = some u ∧ VR forb w φ y u) (h : loadC agg cells = some v) :
    ∃ c, (loadVar ty A).run P w = .ok c w ∧ VR forb w φ v c := by
  rcases loadC_ok h with ⟨n, rfl, hn, rfl⟩ | ⟨rfl, hv⟩
  · obtain ⟨h1, h2⟩ := aggN_some ha
    have hex : ∃ us : List Value, us.length = n ∧ ∀ (k : Nat) u, us[k]? = some u → w.cell? (A.add k) = some u := by
      refine ⟨(List.range n).map fun k => (w.cell? (A.add k)).getD undef, by simp, fun k u hu => ?_⟩
      rw [List.getElem?_map] at hu
      rcases hk : (List.range n)[k]? with _ | j
      · rw [hk] at hu; cases hu
      · rw [hk] at hu
        obtain ⟨hlt, rfl⟩ := List.getElem?_eq_some_iff.1 hk
        simp at hlt
        obtain ⟨_, u', h3, _⟩ := hc k cells[k] (by simp [show k < cells.length by omega])
        simp at hu
        rw [h3] at hu ⊢
        simpa using hu
    obtain ⟨us, hl, hu⟩ := hex
    have hrun := run_loadCells_list (P := P) w A us hu
    refine ⟨.agg us.toArray, by simp [loadVar, h1, h2, ← hl, hrun], ?_⟩
    refine .agg (by simp [hl, hn]) (fun x hx => ?_) (fun i x c hx hcx => ?_)
    · obtain ⟨i, hi⟩ := List.getElem?_of_mem hx
      rw [List.getElem?_take] at hi
      split at hi
      · exact (hc _ _ hi).1
      · cases hi
    · rw [List.getElem?_take] at hx
      split at hx
      · obtain ⟨_, u', h3, h4⟩ := hc _ _ hx
        have h5 := hu i c hcx
        rw [h3] at h5; cases h5; exact h4
      · cases hx
  · obtain ⟨h1, _⟩ := aggN_none ha
    obtain ⟨_, u, h3, h4⟩ := hc 0 v hv
    have : A.add 0 = A := rfl
    rw [this] at h3
    refine ⟨u, ?_, h4⟩
    simp only [loadVar, Sem.run_bind, h1, Result.andThen_ok, Bool.false_eq_true, if_false]
    simp [load, Sem.run, h3]

theorem op_load_ok (ht : Tm G forb φ w t a) (hR : Rel forb φ D base h w) {ty : TypeId} {agg : Option Nat} {x : Operand} {dx : Opd} (ho : o.op = .load ty x) (ha : aggN P ty = some agg) (hx : opd x = some dx) {r : Res} (hr : op_load G t agg dx h = some r) (hD : ∀ b ∈ r.r, D b) : Goes P o a w (Post forb φ D base h w r) := by
  unfold op_load at hr
  split at hr
  · rename_i v hv
    have h1 := ev_ok ht hx hv
    split at hr
    · rename_i cells rr hd
      split at hr
      · rename_i u hu
        cases hr
        obtain ⟨A, he, h2⟩ := deref_ok hR hd h1 hD
        obtain ⟨c, h3, h4⟩ := loadVar_ok ha h2 hu
        refine goes_same hR (c := c) ?_ h4
        unfold execOp; rw [ho]
        simp [Instr.loadAt, he, Instr.sureAddr, h3]
      · cases hr
    · cases hr
  · cases hr

theorem op_store_ok (ht : Tm G forb φ w t a) (hR : Rel forb φ D base h w) {ty : TypeId} {n : Nat} {x y : Operand} {dx dy : Opd} (ho : o.op = .store ty x y) (hn : sizeT P ty = some n) (hn0 : n ≠ 0) (hx : opd x = some dx) (hy : opd y = some dy) {r : Res} (hr : op_store G t n dx dy h = some r) (hD : ∀ b ∈ r.w, D b) : Goes P o a w (Post forb φ D base h w r) := by
  unfold op_store at hr
  split at hr
  · rename_i u v hu hv
    have h1 := ev_ok ht hx hu
    have h2 := ev_ok ht hy hv
    unfold storeV at hr
    split at hr
    · rename_i b vv i oo
      split at hr
      · rename_i x0 hx0
        split at hr
        · rename_i hc
          obtain ⟨rfl, hc2, hc3⟩ := hc
          split at hr
          · rename_i el hel
            split at hr
            · rename_i hlen
              cases hr
              obtain ⟨l, he, hφ, q1, q2⟩ := h1.ptr_inv
              obtain ⟨hx1, hx2, hx3⟩ := rowAt_some hx0
              have hDb : D b := hD b (by simp)
              obtain ⟨k1, k2, k3, k4, cells, tt, fr, k5, k6, k7⟩ := hR.row b x0 x0.cur l hDb hx1 hx2 hx3 hφ
              obtain ⟨c1, c2, c3⟩ := h2.cells_ok hc3
              generalize hcv : a.eval y = cv at h2 c1 c2 c3
              have hels : el.length = x0.sz := k4 el (List.mem_of_getElem? hel)
              have hvl : cv.cells.toList.length = n := by simp [c1, hc2]
              -- where the cells lie
              have hcellAt : ∀ j, j < el.length → ∃ u, cells[l.coff + (i - l.lo) * l.sz + j]? = some u := by
                intro j hj
                obtain ⟨_, u, h5, _⟩ := k7 i el j el[j] q1 q2 hel (by simp [hj])
                exact ⟨u, h5⟩
              have hfit : l.coff + (i - l.lo) * l.sz + oo + cv.cells.toList.length ≤ cells.size := by
                obtain ⟨u, hu⟩ := hcellAt (oo + n - 1) (by omega)
                have := (Array.getElem?_eq_some_iff.1 hu).1
                omega
              have hcl : ∀ j, j < cv.cells.toList.length → (w.cell? ⟨l.cb, l.coff + (i - l.lo) * l.sz + oo + j, none⟩).isSome = true := by
                intro j hj
                obtain ⟨u, hu⟩ := hcellAt (oo + j) (by omega)
                simp only [World.cell?, k5, Option.isSome_none, Bool.false_eq_true, if_false]
                rw [Nat.add_assoc, hu]; rfl
              have hfz : ∀ j, j < cv.cells.toList.length → w.frozen? ⟨l.cb, l.coff + (i - l.lo) * l.sz + oo + j, none⟩ = false := by
                intro j hj
                obtain ⟨u, hu⟩ := hcellAt (oo + j) (by omega)
                have hlt := (Array.getElem?_eq_some_iff.1 hu).1
                have := k6 _ hlt
                simp only [World.frozen?, k5]
                rw [Nat.add_assoc]
                simpa using this
              have hone : ∀ z ∈ cv.cells.toList, z.oneCell' = true := by
                intro z hz
                obtain ⟨j, hj⟩ := List.getElem?_of_mem hz
                have hjl := (List.getElem?_eq_some_iff.1 hj).1
                have hj2 : j < v.cells.length := by omega
                obtain ⟨u, hu1, hu2⟩ := c3 j v.cells[j] (by simp [hj2])
                rw [← Array.getElem?_toList, hj] at hu1
                cases hu1
                exact hu2.oneCell (c2 _ (List.getElem_mem _))
              have hst : (storeCells (l.at i oo) cv.cells.toList).run P w = .ok () (w.setCells l.cb (l.coff + (i - l.lo) * l.sz + oo) cv.cells.toList) := by
                have := run_storeCells_cells (P := P) l.cb (l.coff + (i - l.lo) * l.sz + oo) cv.cells.toList 0 w (by simpa using hcl) (by simpa using hfz) hone
                simpa [Loc.at] using this
              refine .inr (.inl ⟨w.setCells l.cb (l.coff + (i - l.lo) * l.sz + oo) cv.cells.toList, ?_, ?_⟩)
              · unfold execOp; rw [ho]
                simp only [Instr.storeAt, he, Instr.sureAddr, hcv, storeVar, Sem.run_bind, Sem.run_pure, Result.andThen_ok, run_sizeOf hn, c1, hc2, ne_eq, not_true_eq_false, if_false, hst]
              · have hlow := hR.low b x0.cur l hφ
                have hE := ext_setCells (forb := forb) hlow.2.2 cv.cells.toList (l.coff + (i - l.lo) * l.sz + oo) k5 hfit
                obtain ⟨cells', w1, w2, w3⟩ := setCells_heap l.cb tt fr cv.cells.toList (l.coff + (i - l.lo) * l.sz + oo) w cells k5 hfit
                have hil : i < x0.els.length := (List.getElem?_eq_some_iff.1 hel).1
                refine post_write hR (l' := l) (φ' := φ) hx1 hDb hφ k5 hfit (fun _ _ _ h => h) (fun _ _ _ => rfl) (fun _ _ h => .inl h) (Nat.le_refl _) ?_ .undef
                intro v' l' hv1 hv2 hl'
                simp only [] at hv1 hv2
                obtain rfl : v' = x0.cur := by omega
                rw [hφ] at hl'; cases hl'
                refine ⟨k1, by simpa using k2, fun _ => by simpa using k3 rfl, fun el' hel' => ?_, cells', tt, fr, w1, by rw [w2]; exact k6, fun i' el' o' y' p1 p2 p3 p4 => ?_⟩
                · obtain ⟨j, hj⟩ := List.getElem?_of_mem hel'
                  rw [List.getElem?_set] at hj
                  split at hj
                  · cases hj; rw [setFrom_length (by omega)]; exact hels
                  · exact k4 el' (List.mem_of_getElem? hj)
                · simp only [] at p3
                  rw [List.getElem?_set] at p3
                  split at p3
                  · rename_i e; subst e
                    cases p3
                    rw [setFrom_get (by omega)] at p4
                    split at p4
                    · rename_i hin
                      obtain ⟨u, z1, z2⟩ := c3 _ _ p4
                      refine ⟨c2 _ (List.mem_of_getElem? p4), u, ?_, z2.ext hE φ (fun _ _ _ h => h)⟩
                      rw [w3, if_pos (by omega)]
                      rw [show l.coff + (i - l.lo) * l.sz + o' - (l.coff + (i - l.lo) * l.sz + oo) = o' - oo by omega, Array.getElem?_toList]
                      exact z1
                    · rename_i hin
                      obtain ⟨z0, u, z1, z2⟩ := k7 i el o' y' p1 p2 hel p4
                      refine ⟨z0, u, ?_, z2.ext hE φ (fun _ _ _ h => h)⟩
                      rw [w3, if_neg (by omega)]; exact z1
                  · rename_i e
                    obtain ⟨z0, u, z1, z2⟩ := k7 i' el' o' y' p1 p2 p3 p4
                    refine ⟨z0, u, ?_, z2.ext hE φ (fun _ _ _ h => h)⟩
                    have ho' : o' < l.sz := by
                      have := k4 el' (List.mem_of_getElem? p3)
                      have := (List.getElem?_eq_some_iff.1 p4).1
                      omega
                    rw [w3, if_neg]
                    · exact z1
                    · rcases Nat.lt_or_gt_of_ne e with h' | h'
                      · have := mul_sep (i := i - l.lo) (i' := i' - l.lo) (s := l.sz) (o := oo + n - 1) (o' := o') (by omega) (by omega)
                        omega
                      · have := mul_sep (i := i' - l.lo) (i' := i - l.lo) (s := l.sz) (o := o') (o' := oo) (by omega) ho'
                        omega
            · cases hr
          · cases hr
        · cases hr
      · cases hr
    · cases hr
  · cases hr
end Go.Mini
