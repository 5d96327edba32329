/- A part of the proof: MiniOp. No condition. -/
import Derived.Test.YtgknkkdemjjeoaaGreatDoorMiniCall
set_option linter.all false
set_option maxRecDepth 100000
namespace Go.Mini
set_option linter.unusedVariables false
set_option linter.unusedSimpArgs false
variable {P : Program} {G : Nat → Option V} {forb : Nat → Prop} {φ : Phi} {w : World} {t : List V} {a : Act} {D : Nat → Prop} {base : Nat} {h : H} {o : Oper}

theorem Option.map_some_inv {α β : Type} {f : α → β} {x : Option α} {y : β} (h : x.map f = some y) : ∃ z, x = some z ∧ f z = y := by
  cases x <;> simp at h; exact ⟨_, rfl, h⟩

set_option maxHeartbeats 4000000 in
/-- Each operation of the small machine is the model's. -/
theorem opV_ok {C : FuncId → List V → H → Option Res} (hC : CallOk P G C) (ht : Tm G forb φ w t a) (hR : Rel forb φ D base h w) {m : MOp} (hm : compOp P o = some m) {r : Res} (hB : ArgsVB G h.length t m) (hH : HB h.length h) (hr : opV G C t m h = some r) (hD : ∀ b, (b ∈ r.r ∨ b ∈ r.w) → D b) (hfree : ∀ b v, h.length ≤ b → b < r.h.length → φ b v = none) : Goes P o a w (Post forb φ D base h w r) := by
  cases ho : o.op <;> simp only [compOp, ho] at hm <;> try (cases hm; done)
  case move x => obtain ⟨d, hd, rfl⟩ := Option.map_some_inv hm; exact op_mv_ok ht hR (.inl ho) hd hr
  case assign x => obtain ⟨d, hd, rfl⟩ := Option.map_some_inv hm; exact op_mv_ok ht hR (.inr ho) hd hr
  case pick c x y =>
    split at hm
    · rename_i h1 h2 h3; cases hm; exact op_pick_ok ht hR ho h1 h2 h3 hr
    · cases hm
  case alloc ty =>
    split at hm
    · rename_i z hz
      split at hm
      · rename_i hc; cases hm
        have hl : r.h.length = h.length + 1 := by unfold opV op_alloc at hr; cases hr; simp [newRow]
        exact op_alloc_ok ht hR ho hz hc hr fun v => hfree _ _ (Nat.le_refl _) (by omega)
      · cases hm
    · cases hm
  case box ty x =>
    split at hm
    · rename_i h1 h2; cases hm
      refine op_box_ok ht hR ho h1 hr fun v => hfree _ _ (Nat.le_refl _) ?_
      simp only [opV, op_box] at hr
      split at hr
      · split at hr
        · cases hr; simp [newRow]
        · cases hr
      · cases hr
    · cases hm
  case build ty parts =>
    split at hm
    · rename_i z fs hz hu
      split at hm
      · rename_i ps ss hp hs
        split at hm
        · rename_i hc; cases hm
          exact op_build_ok ht hR ho hu hz hc hp hs hr
        · cases hm
      · cases hm
    · cases hm
  case buildSlice ty len parts =>
    split at hm
    · rename_i el hu
      split at hm
      · rename_i s z hs hz
        split at hm
        · cases hm
        · rename_i hn
          simp only [not_or, Decidable.not_not, Bool.not_eq_false, gt_iff_lt, Nat.not_lt] at hn
          obtain ⟨n1, n2, n3, n4⟩ := hn
          split at hm
          · rename_i ps hp; cases hm
            refine op_bslice_ok ht hR ho hu hs hz n1 n2 n3 n4 hp hr fun v => hfree _ _ (Nat.le_refl _) ?_
            simp only [opV, op_bslice] at hr
            split at hr
            · split at hr
              · cases hr; simp [newRow]
              · cases hr
            · cases hr
          · cases hm
      · cases hm
    · cases hm
  case load ty x =>
    split at hm
    · rename_i h1 h2; cases hm; exact op_load_ok ht hR ho h1 h2 hr fun b hb => hD b (.inl hb)
    · cases hm
  case store ty x y =>
    split at hm
    · rename_i h1 h2 h3
      split at hm
      · cases hm
      · rename_i hn; cases hm; exact op_store_ok ht hR ho h1 hn h2 h3 hr fun b hb => hD b (.inr hb)
    · cases hm
  case nilCheck x => obtain ⟨d, hd, rfl⟩ := Option.map_some_inv hm; exact op_nilc_ok ht hR ho hd hr
  case binOp op ty x y ty' =>
    split at hm
    · rename_i h1 h2; cases hm; exact op_bin_ok ht hR ho h1 h2 hr
    · cases hm
  case unOp op ty x => obtain ⟨d, hd, rfl⟩ := Option.map_some_inv hm; exact op_un_ok ht hR ho hd hr
  case convert src dst x =>
    split at hm
    · rename_i h1 h2 h3; cases hm; exact op_convI_ok ht hR ho h1 h2 h3 hr
    · rename_i h1 h2 h3
      split at hm
      · rename_i h4 _
        split at hm
        · cases hm
          refine op_s2b_ok ht hR ho h1 h2 h4 h3 hr fun v => hfree _ _ (Nat.le_refl _) ?_
          simp only [opV, op_s2b] at hr
          split at hr
          · split at hr
            · cases hr; simp [newRow]
            · cases hr
          · cases hr
        · cases hm
      · cases hm
    · rename_i h1 h2 h3
      split at hm
      · rename_i h4; cases hm; exact op_b2s_ok ht hR ho h1 h2 h4 h3 hr fun b hb => hD b (.inl hb)
      · cases hm
    · cases hm
  case makeFunc fn first cap =>
    cases fn <;> simp only [] at hm <;> try (cases hm; done)
    split at hm
    · rename_i h1 h2; cases hm; exact op_mkfn_ok ht hR ho h1 h2 hr
    · cases hm
  case makeSlice ty l c =>
    split at hm
    · rename_i el hu
      split at hm
      · rename_i inf z dl dc h1 h2 h3 h4
        split at hm
        · cases hm
        · rename_i hn
          simp only [not_or, Decidable.not_not, Bool.not_eq_false] at hn
          obtain ⟨n1, n2, n3, n4⟩ := hn
          cases hm
          refine op_mkslice_ok ht hR ho hu h1 h2 h3 h4 n1 n2 n3 n4 hr fun v => hfree _ _ (Nat.le_refl _) ?_
          simp only [opV, op_mkslice] at hr
          split at hr
          · split at hr
            · cases hr
            · cases hr; simp [newRow]
          · cases hr
      · cases hm
    · cases hm
  case slice ty x lo hi mx =>
    split at hm
    · rename_i h1 h2 h3 h4 h5; cases hm
      cases mx with
      | none => exact op_cutS_ok ht hR ho h1 h2 h3 h4 hr
      | some q => simp only [opdO] at h5; rcases hq : opd q with _ | e <;> simp [hq] at h5
    · rename_i h1 h2 h3 h4 h5
      split at hm
      · rename_i s hs
        split at hm
        · cases hm
        · rename_i hn; cases hm
          exact op_cut_ok ht hR ho h1 hs h2 h3 h4 h5 (Bool.eq_false_iff.2 hn) hr
      · cases hm
    · cases hm
  case fieldAddr ty x f =>
    split at hm
    · rename_i h1 h2
      split at hm
      · rename_i fd h3
        split at hm
        · rename_i s h4
          split at hm
          · cases hm
          · rename_i hs; cases hm; exact op_faddr_ok ht hR ho h1 h3 h4 hs h2 hr
        · cases hm
      · cases hm
    · cases hm
  case field ty x f =>
    split at hm
    · rename_i h1 h2
      split at hm
      · rename_i fd h3
        obtain ⟨n, h4, rfl⟩ := Option.map_some_inv hm
        exact op_field_ok ht hR ho h1 h3 h4 h2 hr
      · cases hm
    · cases hm
  case indexAddr ty x ix =>
    split at hm
    · rename_i h1 h2 h3
      obtain ⟨n, h4, rfl⟩ := Option.map_some_inv hm
      exact op_iaddr_ok ht hR ho h1 h4 h2 h3 hr
    · rename_i h1 h2 h3
      obtain ⟨n, h4, rfl⟩ := Option.map_some_inv hm
      exact op_iaddrA_ok ht hR ho h1 h4 h2 h3 hr
    · cases hm
  case index ty x ix =>
    split at hm
    · rename_i h1 h2 h3; cases hm; exact op_index_ok ht hR ho h1 h2 h3 hr
    · cases hm
  case extract x i => obtain ⟨d, hd, rfl⟩ := Option.map_some_inv hm; exact op_extract_ok ht hR ho hd hr
  case call c =>
    split at hm
    · rename_i hc
      split at hm
      · rename_i ty x h1 h2
        have hx : ∃ x0, c.args.toList = [x0] ∧ opd x0 = some x := by
          rcases hq : c.args.toList with _ | ⟨x0, _ | ⟨x1, xs⟩⟩
          · rw [hq] at h2; simp [mapM?] at h2
          · rw [hq] at h2; simp only [mapM?] at h2; split at h2
            · rename_i h3 h4; cases h2; exact ⟨x0, rfl, h3⟩
            · cases h2
          · rw [hq] at h2; have := mapM?_length h2; simp at this
        obtain ⟨x0, hx1, hx2⟩ := hx
        split at hm
        · rename_i hu; cases hm; exact op_lenS_ok ht hR ho hc h1 hx1 hu hx2 hr
        · rename_i hu; cases hm; exact op_len_ok ht hR ho hc h1 hx1 hu hx2 hr
        · cases hm
      · cases hm
    · rename_i hc
      split at hm
      · rename_i ty ty' s x h1 h2
        have hx : ∃ s0 x0, c.args.toList = [s0, x0] ∧ opd s0 = some s ∧ opd x0 = some x := by
          rcases hq : c.args.toList with _ | ⟨x0, _ | ⟨x1, _ | ⟨x2, xs⟩⟩⟩
          · rw [hq] at h2; simp [mapM?] at h2
          · rw [hq] at h2; have := mapM?_length h2; simp at this
          · rw [hq] at h2
            have g0 := mapM?_get h2 0 s rfl
            have g1 := mapM?_get h2 1 x rfl
            obtain ⟨y0, p0, p1⟩ := g0
            obtain ⟨y1, q0, q1⟩ := g1
            simp at p0 q0; subst p0 q0
            exact ⟨x0, x1, rfl, p1, q1⟩
          · rw [hq] at h2; have := mapM?_length h2; simp at this
        obtain ⟨s0, x0, hx1, hx2, hx3⟩ := hx
        split at hm
        · cases hm
        · rename_i el d hni hu hu'
          split at hm
          · rename_i inf hi
            split at hm
            · rename_i z hz
              split at hm
              · cases hm
              · rename_i hn
                simp only [not_or, Decidable.not_not] at hn
                obtain ⟨n1, n2, n3⟩ := hn
                cases hm
                exact op_append_ok ht hR ho hc h1 hx1 hu hu' (fun k hk => hni k hk) hi hz n1 n2 n3 hx2 hx3 hr hD (fun hlt v => hfree _ _ (Nat.le_refl _) hlt)
            · cases hm
          · cases hm
        · cases hm
      · cases hm
    · rename_i hc
      obtain ⟨ds, h1, rfl⟩ := Option.map_some_inv hm
      exact op_minmax_ok (mx := false) ht hR ho hc h1 hr
    · rename_i hc
      obtain ⟨ds, h1, rfl⟩ := Option.map_some_inv hm
      exact op_minmax_ok (mx := true) ht hR ho hc h1 hr
    · rename_i f hc
      split at hm
      · rename_i hi
        split at hm
        · rename_i h2; cases hm; exact op_idxB_ok ht hR ho hc hi h2 hr
        · cases hm
      · split at hm
        · rename_i h1 h2; cases hm; exact op_call_ok hC ht hR ho hc h1 h2 (hB _ _ rfl) hH hr hD hfree
        · cases hm
    · cases hm
theorem opV_okX {C : FuncId → List V → H → Option Res} (hC : CallOk P G C) (ht : Tm G forb φ w t a) (hR : Rel forb φ D base h w) {m : MOp} (hm : compX P o = m) {r : Res} (hB : ArgsVB G h.length t m) (hH : HB h.length h) (hr : opV G C t m h = some r) (hD : ∀ b, (b ∈ r.r ∨ b ∈ r.w) → D b) (hfree : ∀ b v, h.length ≤ b → b < r.h.length → φ b v = none) : Goes P o a w (Post forb φ D base h w r) := by
  rcases compX_cases P o with h1 | h1 | h1
  · rw [hm] at h1
    unfold compNil at h1
    split at h1
    · rename_i op ty x _ ho
      split at h1
      · rename_i ms dx hu hx
        cases h1
        exact op_binI_ok ht hR ho hu hx hr
      · cases h1
    · rename_i ty parts ho
      split at h1
      · rename_i z len el hz hu
        split at h1
        · rename_i s hs
          split at h1
          · rename_i ps hp
            split at h1
            · rename_i hc
              cases h1
              exact op_buildA_ok ht hR ho hu hs hz hc hp hr
            · cases h1
          · cases h1
        · cases h1
      · cases h1
    · rename_i ty x ix ho
      split at h1
      · rename_i len el dx di hu hx hi
        split at h1
        · rename_i g s ha hs
          cases h1
          exact op_idxA_ok ht hR ho hu ha hs hx hi hr
        · cases h1
      · cases h1
    · rename_i c ho
      split at h1
      · rename_i fo hc
        split at h1
        · rename_i hi
          split at h1
          · rename_i has
            cases h1
            exact op_cntB_ok ht hR ho hc hi has hr
          · cases h1
        · cases h1
      · cases h1
    · cases h1
  · rw [hm] at h1; exact opV_ok hC ht hR h1 hB hH hr hD hfree
  · rw [hm] at h1; subst h1
    simp [stuckOp, opV, op_call, ev, evs] at hr
end Go.Mini
