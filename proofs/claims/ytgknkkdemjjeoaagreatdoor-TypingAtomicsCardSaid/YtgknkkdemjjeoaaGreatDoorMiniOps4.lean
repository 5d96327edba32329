/- A part of the proof: MiniOps4. No condition. -/
import Derived.Test.YtgknkkdemjjeoaaGreatDoorMiniOps3
set_option linter.all false
set_option maxRecDepth 100000
namespace Go.Mini
set_option linter.unusedVariables false
set_option linter.unusedSimpArgs false
variable {P : Program} {G : Nat → Option V} {forb : Nat → Prop} {φ : Phi} {w : World} {t : List V} {a : Act} {D : Nat → Prop} {base : Nat} {h : H} {o : Oper}

theorem add_add (a : Addr) (m n : Nat) : (a.add m).add n = a.add (m + n) := by
  unfold Addr.add
  by_cases h1 : m = 0 <;> by_cases h2 : n = 0 <;> simp [h1, h2, Nat.add_assoc]
theorem at_add (l : Loc) (i o n : Nat) : (l.at i o).add n = l.at i (o + n) := by
  unfold Addr.add Loc.at
  by_cases h : n = 0 <;> simp [h, Nat.add_assoc]

theorem bound_ok (ht : Tm G forb φ w t a) {x : Option Operand} {d : Option Opd} {df n : Nat} (hx : opdO x = some d) (hn : boundOf G t df d = some n) :
    (x.map a.eval = none ∧ d = none ∧ n = df) ∨ ∃ k i, x.map a.eval = some (.int k i) ∧ 0 ≤ i ∧ n = i.toNat := by
  unfold opdO at hx
  split at hx
  · cases hx; simp [boundOf] at hn; exact .inl ⟨rfl, rfl, hn.symm⟩
  · rename_i y
    rcases hy : opd y with _ | e
    · simp [hy] at hx
    · simp [hy] at hx; subst hx
      simp only [boundOf] at hn
      split at hn
      · rename_i k i hv
        have h1 := ev_ok ht hy hv
        unfold asNat at hn
        split at hn
        · cases hn
          generalize he : a.eval y = c at h1
          cases h1
          exact .inr ⟨k, i, by simp [he], by assumption, rfl⟩
        · cases hn
      · cases hn

theorem run_bound {k : IntKind} {i : Int} {y : Nat} {code : BoundsCode} (h0 : 0 ≤ i) (h1 : i.toNat ≤ y) : (Instr.sliceBound (.int k i) y code).run P w = .ok i.toNat w := by
  have : 0 ≤ i ∧ i ≤ (y : Int) := ⟨h0, by omega⟩
  simp [Instr.sliceBound, asIntOf, this]

theorem op_cutS_ok (ht : Tm G forb φ w t a) (hR : Rel forb φ D base h w) {ty : TypeId} {x : Operand} {lo hi : Option Operand} {dx : Opd} {dl dh : Option Opd} (ho : o.op = .slice ty x lo hi none) (hu : P.underlying ty = some .string) (hx : opd x = some dx) (hl : opdO lo = some dl) (hh : opdO hi = some dh) {r : Res} (hr : op_cutS G t dx dl dh h = some r) : Goes P o a w (Post forb φ D base h w r) := by
  unfold op_cutS at hr
  split at hr
  · rename_i s hs
    have h1 := ev_ok ht hx hs
    split at hr
    · rename_i l u hl1 hh1
      split at hr
      · rename_i hle
        cases hr
        have b1 := bound_ok ht hl hl1
        have b2 := bound_ok ht hh hh1
        generalize he : a.eval x = c at h1
        cases h1
        refine goes_same hR (c := .string ⟨((s.take u).drop l).toArray⟩) ?_ .str
        have hsz : (⟨s.toArray⟩ : ByteArray).size = s.length := by show s.toArray.size = _; simp
        have hex : (⟨s.toArray⟩ : ByteArray).extract l u = ⟨((s.take u).drop l).toArray⟩ := by
          rw [ByteArray.extract_mk, List.take_drop, Nat.add_sub_cancel' hle.1]
        unfold execOp; rw [ho]
        have hb : (Instr.sliceBounds false (⟨s.toArray⟩ : ByteArray).size (⟨s.toArray⟩ : ByteArray).size (lo.map a.eval) (hi.map a.eval) none).run P w = .ok (l, u, s.length) w := by
          rw [hsz]
          unfold Instr.sliceBounds
          rcases b1 with ⟨b1, _, rfl⟩ | ⟨k, i, b1, b1', rfl⟩ <;> rcases b2 with ⟨b2, _, rfl⟩ | ⟨k', i', b2, b2', rfl⟩
          · simp [b1, b2]
          · simp [b1, b2, run_bound b2' hle.2]
          · simp [b1, b2, run_bound b1' hle.1]
          · simp [b1, b2, run_bound b2' hle.2, run_bound b1' hle.1]
        simp only [Option.map_none, Instr.sliceAt, Instr.slice, Sem.run_bind, run_underlying hu, Result.andThen_ok, he, Option.isSome_none, Bool.false_eq_true, if_false, hb, hex, Sem.run_pure]
      · cases hr
    · cases hr
  · cases hr

theorem run_sizeOf {e : TypeId} {s : Nat} (h : sizeT P e = some s) : (sizeOf e).run P w = .ok s w := by
  unfold sizeT at h
  rcases hi : P.info? e with _ | i
  · simp [hi] at h
  · simp [hi] at h
    subst h
    simp [sizeOf, typeInfo, hi, run_program]

/-- a bound, or what stands for it -/
def Bd (x : Option Value) (df n : Nat) : Prop := (x = none ∧ n = df) ∨ ∃ k i, x = some (.int k i) ∧ 0 ≤ i ∧ n = i.toNat
theorem bd_ok (ht : Tm G forb φ w t a) {x : Option Operand} {d : Option Opd} {df n : Nat} (hx : opdO x = some d) (hn : boundOf G t df d = some n) : Bd (x.map a.eval) df n := by
  rcases bound_ok ht hx hn with ⟨h1, _, h2⟩ | ⟨k, i, h⟩
  · exact .inl ⟨h1, h2⟩
  · exact .inr ⟨k, i, h⟩

theorem run_bounds {s : Bool} {len cap l u m : Nat} {lo hi mx : Option Value} (b1 : Bd lo 0 l) (b2 : Bd hi len u) (b3 : Bd mx cap m) (h1 : l ≤ u) (h2 : u ≤ m) (h3 : m ≤ cap) (hm : mx.isSome = true → hi.isSome = true) :
    (Instr.sliceBounds s len cap lo hi mx).run P w = .ok (l, u, m) w := by
  unfold Instr.sliceBounds
  rcases b1 with ⟨rfl, rfl⟩ | ⟨k1, i1, rfl, p1, rfl⟩ <;> rcases b2 with ⟨rfl, rfl⟩ | ⟨k2, i2, rfl, p2, rfl⟩ <;> rcases b3 with ⟨rfl, rfl⟩ | ⟨k3, i3, rfl, p3, rfl⟩ <;>
    first
      | (simp at hm; done)
      | simp [run_bound, *]

set_option maxHeartbeats 1000000 in
theorem op_cut_ok (ht : Tm G forb φ w t a) (hR : Rel forb φ D base h w) {ty el : TypeId} {sz : Nat} {x : Operand} {lo hi mx : Option Operand} {dx : Opd} {dl dh dm : Option Opd} (ho : o.op = .slice ty x lo hi mx) (hu : P.underlying ty = some (.slice el)) (hsz : sizeT P el = some sz) (hx : opd x = some dx) (hl : opdO lo = some dl) (hh : opdO hi = some dh) (hm : opdO mx = some dm) (hmh : (dm.isSome && dh.isNone) = false) {r : Res} (hr : op_cut G t sz dx dl dh dm h = some r) : Goes P o a w (Post forb φ D base h w r) := by
  have hmh' : (mx.map a.eval).isSome = true → (hi.map a.eval).isSome = true := by
    intro h1
    cases mx with
    | none => simp at h1
    | some m => cases hi with
      | some _ => rfl
      | none =>
        simp only [opdO] at hh hm
        cases hh
        rcases hq : opd m with _ | q
        · simp [hq] at hm
        · simp [hq] at hm; subst hm; simp at hmh
  unfold op_cut at hr
  split at hr
  · rename_i v hv
    have h1 := ev_ok ht hx hv
    obtain ⟨u, hu1, rfl⟩ := one_some hr
    have hrun : ∀ A n cap, a.eval x = .slice A n cap → ∀ l u m, Bd (lo.map a.eval) 0 l → Bd (hi.map a.eval) n u → Bd (mx.map a.eval) cap m → l ≤ u → u ≤ m → m ≤ cap →
        (execOp a.eval o).run P w = .ok (.value (.slice (if m = l then A else A.map (·.add (l * sz))) (u - l) (m - l))) w := by
      intro A n cap hA l u m c1 c2 c3 c4 c5 c6
      unfold execOp; rw [ho]
      simp only [Instr.sliceAt, Instr.slice, Sem.run_bind, run_underlying hu, Result.andThen_ok, hA, run_bounds c1 c2 c3 c4 c5 c6 hmh', run_sizeOf hsz, Sem.run_pure]
    unfold cutV at hu1
    split at hu1
    · split at hu1
      · rename_i e1 e2 e3
        cases hu1
        generalize he : a.eval x = c at h1
        cases h1
        refine goes_same hR (c := .slice none 0 0) ?_ .nils
        rw [hrun none 0 0 he 0 0 0 (bd_ok ht hl e1) (bd_ok ht hh e2) (bd_ok ht hm e3) (by omega) (by omega) (by omega)]
        simp
      · cases hu1
    · rename_i sz' els
      split at hu1
      · rename_i l u' e1 e2
        split at hu1
        · rename_i hle
          obtain ⟨hle1, hle2, rfl⟩ := hle
          cases hu1
          obtain ⟨A, cap, he, hq1, hq2, hq3, hq4, hq5⟩ := h1.rs_inv
          have hmx : mx.map a.eval = none := by
            cases mx with
            | none => rfl
            | some m => simp only [opdO] at hm; rcases hq : opd m with _ | q <;> simp [hq] at hm
          have hr2 := hrun (some A) els.length cap he l u' cap (bd_ok ht hl e1) (bd_ok ht hh e2) (.inl ⟨hmx, rfl⟩) hle1 (by omega) (by omega)
          refine goes_same hR hr2 ?_
          have hlen : ((els.take u').drop l).length = u' - l := by simp; omega
          have hget : ∀ (i : Nat) el, ((els.take u').drop l)[i]? = some el → els[l + i]? = some el := by
            intro i el hi'
            rw [List.getElem?_drop, List.getElem?_take] at hi'
            split at hi'
            · exact hi'
            · cases hi'
          by_cases hc : cap = l
          · have hel : (els.take u').drop l = [] := by apply List.eq_nil_of_length_eq_zero; omega
            rw [if_pos hc, hel]
            have : u' - l = ([] : List (List V)).length := by simp; omega
            rw [this]
            exact .rs (by simp) (by simp) (by omega) (by simp) (by simp)
          · rw [if_neg hc]
            rw [← hlen]
            refine .rs (fun el hel => hq1 el (List.mem_of_mem_take (List.mem_of_mem_drop hel))) (by omega) (by omega) (fun i el' oo x' hi' ho' => ?_) (fun i el' oo x' c' hi' ho' hc' => ?_)
            · have := hq4 (l + i) el' oo x' (hget i el' hi') ho'
              simp only [Option.map, add_block, add_add]
              rwa [show (l + i) * sz' + oo = l * sz' + (i * sz' + oo) by rw [Nat.add_mul]; omega] at this
            · refine hq5 (l + i) el' oo x' c' (hget i el' hi') ho' ?_
              rw [add_add] at hc'
              rwa [show (l + i) * sz' + oo = l * sz' + (i * sz' + oo) by rw [Nat.add_mul]; omega]
        · cases hu1
      · cases hu1
    · rename_i b vv sz' i n clip
      split at hu1
      · rename_i l u' e1 e2
        split at hu1
        · rename_i hle
          obtain ⟨hle1, hle2, rfl⟩ := hle
          obtain ⟨L, A, cap, he, hφ, hq1, hq2, hq3, hq4, hq5, hq6, hq7⟩ := h1.os_inv
          have hos : ∀ m, l ≤ u' → u' ≤ m → m ≤ cap → ∀ cl : Bool, (cl = true → m = u') → VR forb w φ (.os b vv sz' (i + l) (u' - l) cl) (.slice (if m = l then some A else (some A).map (·.add (l * sz'))) (u' - l) (m - l)) := by
            intro m m1 m2 m3 cl hcl
            by_cases hc : m = l
            · rw [if_pos hc]
              refine .os hφ hq1 (by omega) (by omega) (by omega) (by omega) (fun hh => by have := hcl hh; omega) (fun hh => by omega)
            · rw [if_neg hc]
              obtain ⟨ha, cells, t', fr, h5, h6⟩ := hq7 (by omega)
              refine .os hφ hq1 (by omega) (by omega) (by omega) (by omega) (fun hh => by have := hcl hh; omega) (fun hh => ⟨?_, cells, t', fr, h5, ?_⟩)
              · rw [ha]
                simp only [Loc.at, Addr.add, hq1]
                have : i + l - L.lo = (i - L.lo) + l := by omega
                rw [this, Nat.add_mul]
                split
                · rename_i hz; simp [hz]
                · simp; omega
              · refine Nat.le_trans ?_ h6
                have : i + l - L.lo + (m - l) ≤ i - L.lo + cap := by omega
                exact Nat.add_le_add_left (Nat.mul_le_mul_right _ this) _
          split at hu1
          · cases hu1
            have hmx : mx.map a.eval = none := by
              cases mx with
              | none => rfl
              | some m => simp only [opdO] at hm; rcases hq : opd m with _ | q <;> simp [hq] at hm
            have hr2 := hrun (some A) n cap he l u' cap (bd_ok ht hl e1) (bd_ok ht hh e2) (.inl ⟨hmx, rfl⟩) hle1 (by omega) (by omega)
            refine goes_same hR hr2 (hos cap hle1 (by omega) (by omega) _ fun hh => ?_)
            simp at hh
            have := hq6 hh.1
            omega
          · split at hu1
            · rename_i m' e3
              split at hu1
              · rename_i hmu
                cases hu1
                have hbm : Bd (mx.map a.eval) cap m' := by
                  cases mx with
                  | none => simp [opdO] at hm
                  | some m =>
                    rcases bd_ok ht hm e3 with ⟨h1, h2⟩ | h1
                    · simp at h1
                    · exact .inr h1
                have hr2 := hrun (some A) n cap he l u' m' (bd_ok ht hl e1) (bd_ok ht hh e2) hbm hle1 (by omega) (by omega)
                exact goes_same hR hr2 (hos m' hle1 (by omega) (by omega) _ fun _ => by omega)
              · cases hu1
            · cases hu1
        · cases hu1
      · cases hu1
    · cases hu1
  · cases hr
end Go.Mini
