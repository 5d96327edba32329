/- A part of the proof: MiniOps8. No condition. -/
import Derived.Test.YtgknkkdemjjeoaaGreatDoorMiniOps7
set_option linter.all false
set_option maxRecDepth 100000
namespace Go.Mini
set_option linter.unusedVariables false
set_option linter.unusedSimpArgs false
variable {P : Program} {G : Nat → Option V} {forb : Nat → Prop} {φ : Phi} {w : World} {t : List V} {a : Act} {D : Nat → Prop} {base : Nat} {h : H} {o : Oper}

theorem new_os {b cb n sz cap len : Nat} {clip : Bool} {φ' : Phi} {forb' : Nat → Prop} {w' : World} {cells : Array Value} {ty : TypeId} (h : φ' b 0 = some ⟨cb, 0, 0, len, sz⟩) (hn : n ≤ len) (hc : n ≤ cap) (hm : cap ≤ 9223372036854775807) (hcl : clip = true → cap = n)
    (hw : ∃ fr, w'.heap[cb]? = some (.cells cells ty fr)) (hs : cap * sz ≤ cells.size) : VR forb' w' φ' (.os b 0 sz 0 n clip) (.slice (some ⟨cb, 0, none⟩) n cap) := by
  obtain ⟨fr, hw⟩ := hw
  refine VR.os h rfl (Nat.le_refl _) (by simpa using hn) hc hm hcl fun _ => ⟨by simp [Loc.at], cells, ty, fr, hw, by simpa using hs⟩

theorem cr_replicate {z : List V} {zs : Array Value} (hz : CR forb w φ z zs) (n s : Nat) (hs : z.length = s) (hs0 : s ≠ 0) : CR forb w φ (List.replicate n z).flatten ((Array.range (n * s)).map (zs[· % zs.size]!)) := by
  subst hs
  have hlen : (List.replicate n z).flatten.length = n * z.length := by simp
  refine ⟨by simp, fun k y hy => ?_⟩
  have hk : k < n * z.length := by have := (List.getElem?_eq_some_iff.1 hy).1; omega
  have hget : ∀ (n k : Nat), k < n * z.length → (List.replicate n z).flatten[k]? = z[k % z.length]? := by
    intro n
    induction n with
    | zero => intro k hk; simp at hk
    | succ n ih =>
      intro k hk
      rw [List.replicate_succ, List.flatten_cons]
      by_cases e : k < z.length
      · rw [List.getElem?_append_left e, Nat.mod_eq_of_lt e]
      · rw [List.getElem?_append_right (by omega), ih _ (by rw [Nat.add_mul] at hk; omega)]
        congr 1
        rw [← Nat.mod_eq_sub_mod (by omega)]
  rw [hget n k hk] at hy
  obtain ⟨h1, c, h2, h3⟩ := hz.2 _ _ hy
  refine ⟨h1, c, ?_, h3⟩
  have h4 : (Array.range (n * z.length))[k]? = some k := by simp [hk]
  rw [Array.getElem?_map, h4]
  simp only [Option.map_some]
  rw [hz.1]
  have h5 := (Array.getElem?_eq_some_iff.1 h2).1
  have h6 := (Array.getElem?_eq_some_iff.1 h2).2
  rw [getElem!_pos zs _ h5, h6]

theorem op_buildA_ok (ht : Tm G forb φ w t a) (hR : Rel forb φ D base h w) {ty el : TypeId} {len s : Nat} {parts : Array (Nat × Operand)} {z : V} {ps : List (Nat × Nat × Opd)} (ho : o.op = .build ty parts) (hu : P.underlying ty = some (.array len el)) (hs : sizeT P el = some s) (hz : zeroT P ty = some z) (hc : z.cells.all V.isCell = true)
    (hp : mapM? (fun (p : Nat × Operand) => (opd p.2).map fun x => (p.1 * s, s, x)) parts.toList = some ps) {r : Res} (hr : op_build G t z.cells ps h = some r) : Goes P o a w (Post forb φ D base h w r) := by
  unfold op_build at hr
  split at hr
  · rename_i qs hq
    split at hr
    · rename_i cs hcs
      cases hr
      obtain ⟨it, zv, zi, z1, z2⟩ := zeroT_info hz
      obtain ⟨zv', z1', _⟩ := zeroT_ok hz
      have hzz : zv' = zv := by
        have := z1' w
        simp [zeroValue, typeInfo, zi, z1] at this
        exact this.symm
      subst hzz
      obtain ⟨e1, e2⟩ := evP_ok (f := fun (p : Nat × Operand) => (opd p.2).map fun x => (p.1 * s, s, x)) ht hp (fun x d hd => by
        rcases hy : opd x.2 with _ | y
        · simp [hy] at hd
        · simp [hy] at hd; subst hd; rfl) hq
      obtain ⟨us, u1, u2, u3⟩ := fill_ok (fun i => some (i * s, s)) (qs := parts.toList.map fun p => (p.1, a.eval p.2)) hcs (cr_zero hc (z2 forb φ w)) (by simp [e1]) (fun i p q hpi hqi => by
        rw [List.getElem?_map] at hqi
        rcases hx : parts.toList[i]? with _ | x
        · rw [hx] at hqi; cases hqi
        · rw [hx] at hqi
          simp at hqi
          subst hqi
          obtain ⟨⟨d, d1, d2, d3⟩, d4⟩ := e2 i p x hpi hx
          refine ⟨?_, d4⟩
          rcases hy : opd x.2 with _ | y
          · simp [hy] at d1
          · simp [hy] at d1; subst d1; simp only [] at d2 d3 ⊢; rw [← d2, ← d3])
      refine goes_same hR (c := .agg us) ?_ (cr_agg u2)
      have hsz := run_sizeOf (P := P) (w := w) hs
      have hpl : (parts.map fun p => (p.1, a.eval p.2)).toList = parts.toList.map fun p => (p.1, a.eval p.2) := by simp
      have hbs : (Instr.build ty (parts.map fun p => (p.1, a.eval p.2))).run P w = .ok (.agg us) w := by
        unfold Instr.build
        simp only [Sem.run_bind, z1', run_underlying hu, Result.andThen_ok, hsz, hpl, u1, Sem.run_pure]
      unfold execOp; rw [ho]
      simp [hbs]
    · cases hr
  · cases hr

theorem op_idxA_ok (ht : Tm G forb φ w t a) (hR : Rel forb φ D base h w) {ty el : TypeId} {len s : Nat} {x ix : Operand} {agg : Option Nat} {dx di : Opd} (ho : o.op = .index ty x ix) (hu : P.underlying ty = some (.array len el)) (ha : aggN P el = some agg) (hs : sizeT P el = some s) (hx : opd x = some dx) (hi : opd ix = some di) {r : Res} (hr : op_idxA G t len agg s dx di h = some r) : Goes P o a w (Post forb φ D base h w r) := by
  unfold op_idxA at hr
  split at hr
  · rename_i cs k n hb hb2
    have h1 := ev_ok ht hx hb
    have h2 := ev_ok ht hi hb2
    split at hr
    · rename_i h0
      obtain ⟨u, hu1, rfl⟩ := one_some hr
      obtain ⟨vs, he, hc⟩ := agg_cr h1
      obtain ⟨c, h3, h4⟩ := part_ok ha hc hu1
      refine goes_same hR (c := c) ?_ h4
      have hsz := run_sizeOf (P := P) (w := w) hs
      unfold execOp; rw [ho]
      generalize he' : a.eval ix = e' at h2
      cases h2
      simp [Instr.index, he, he', asIntOf, run_underlying hu, h0, hsz, h3]
    · cases hr
  · cases hr

theorem op_bslice_ok (ht : Tm G forb φ w t a) (hR : Rel forb φ D base h w) {ty el : TypeId} {len s : Nat} {parts : Array (Nat × Operand)} {z : V} {ps : List (Nat × Nat × Opd)} (ho : o.op = .buildSlice ty len parts) (hu : P.underlying ty = some (.slice el)) (hs : sizeT P el = some s) (hz : zeroT P el = some z) (hs0 : s ≠ 0) (hzl : z.cells.length = s) (hmax : len * s ≤ 16777216) (hc : z.cells.all V.isCell = true)
    (hp : mapM? (fun (p : Nat × Operand) => (opd p.2).map fun x => (p.1 * s, s, x)) parts.toList = some ps) {r : Res} (hr : op_bslice G t s len z.cells ps h = some r) (hfree : ∀ v, φ h.length v = none) : Goes P o a w (Post forb φ D base h w r) := by
  unfold op_bslice at hr
  split at hr
  · rename_i qs hq
    split at hr
    · rename_i cs hcs
      cases hr
      obtain ⟨it, zv, zi, z1, z2⟩ := zeroT_info hz
      obtain ⟨zv', z1', _⟩ := zeroT_ok hz
      have hzz : zv' = zv := by
        have := z1' w
        simp [zeroValue, typeInfo, zi, z1] at this
        exact this.symm
      subst hzz
      obtain ⟨e1, e2⟩ := evP_ok (f := fun (p : Nat × Operand) => (opd p.2).map fun x => (p.1 * s, s, x)) ht hp (fun x d hd => by
        rcases hy : opd x.2 with _ | y
        · simp [hy] at hd
        · simp [hy] at hd; subst hd; rfl) hq
      have hcr := cr_replicate (cr_zero hc (z2 forb φ w)) len s hzl hs0
      obtain ⟨us, u1, u2, u3⟩ := fill_ok (fun i => some (i * s, s)) (qs := parts.toList.map fun p => (p.1, a.eval p.2)) hcs hcr (by simp [e1]) (fun i p q hpi hqi => by
        rw [List.getElem?_map] at hqi
        rcases hx : parts.toList[i]? with _ | x
        · rw [hx] at hqi; cases hqi
        · rw [hx] at hqi
          simp at hqi
          subst hqi
          obtain ⟨⟨d, d1, d2, d3⟩, d4⟩ := e2 i p x hpi hx
          refine ⟨?_, d4⟩
          rcases hy : opd x.2 with _ | y
          · simp [hy] at d1
          · simp [hy] at d1; subst d1; simp only [] at d2 d3 ⊢; rw [← d2, ← d3])
      have hlen : cs.length = len * s := by rw [u3]; simp [hzl]
      refine goes_value (c := .slice (some ⟨w.heap.size, 0, none⟩) len len) (w' := grow w (.cells us el (0, 0))) ?_ ?_
      · unfold execOp; rw [ho]
        have h0 : ¬ (len * s > 2 ^ 24) := by omega
        have hsz := run_sizeOf (P := P) (w := w) hs
        have hbs : (Instr.buildSlice ty len (parts.map fun p => (p.1, a.eval p.2))).run P w = .ok (.slice (some ⟨w.heap.size, 0, none⟩) len len) (grow w (.cells us el (0, 0))) := by
          have hpl : (parts.map fun p => (p.1, a.eval p.2)).toList = parts.toList.map fun p => (p.1, a.eval p.2) := by simp
          unfold Instr.buildSlice
          simp only [Sem.run_bind, run_underlying hu, Result.andThen_ok, hsz, Sem.run_ite, h0, if_false, hpl]
          by_cases hl0 : len * s = 0
          · simp only [hl0, if_true, Sem.run_pure, Result.andThen_ok]
            rw [hl0] at u1
            have e0 : (Array.range 0).map (fun x => (#[] : Array Value)[x % (#[] : Array Value).size]!) = (Array.range 0).map (fun x => zv'.cells[x % zv'.cells.size]!) := by simp
            rw [e0, u1]
            simp [Go.newRow, newObj, Sem.run]
          · simp only [hl0, if_false, Sem.run_bind, z1', Result.andThen_ok, Sem.run_pure, u1]
            simp [Go.newRow, newObj, Sem.run]
        simp [hbs]
      · refine post_new hR s (chunks s len cs) us el (0, 0) (fun o _ => by simp) (fun e he => ?_) hfree (fun i e oo y hi ho2 => ?_) (fun forb' φ' w' hφ' hw => ?_)
        · obtain ⟨j, hj⟩ := List.getElem?_of_mem he
          rw [chunks_get] at hj
          split at hj
          · rename_i hjl
            cases hj
            have : (j + 1) * s ≤ len * s := Nat.mul_le_mul_right _ hjl
            rw [Nat.add_mul] at this
            simp; omega
          · cases hj
        · rw [chunks_get] at hi
          split at hi
          · cases hi
            rw [List.getElem?_take] at ho2
            split at ho2
            · rw [List.getElem?_drop] at ho2
              exact u2.2 _ _ ho2
            · cases ho2
          · cases hi
        · refine new_os hφ' (by rw [chunks_length]; exact Nat.le_refl _) (Nat.le_refl _) ?_ (fun _ => rfl) hw (by rw [u2.1, hlen]; exact Nat.le_refl _)
          have : len ≤ len * s := Nat.le_mul_of_pos_right _ (by omega)
          omega
    · cases hr
  · cases hr
end Go.Mini
