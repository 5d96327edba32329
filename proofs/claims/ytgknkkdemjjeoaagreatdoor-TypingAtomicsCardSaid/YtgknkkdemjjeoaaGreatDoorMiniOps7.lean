/- A part of the proof: MiniOps7. No condition. -/
import Derived.Test.YtgknkkdemjjeoaaGreatDoorMiniOps6
import Derived.Laws.Tables
set_option linter.all false
set_option maxRecDepth 100000
namespace Go.Mini
set_option linter.unusedVariables false
set_option linter.unusedSimpArgs false
variable {P : Program} {G : Nat → Option V} {forb : Nat → Prop} {φ : Phi} {w : World} {t : List V} {a : Act} {D : Nat → Prop} {base : Nat} {h : H} {o : Oper}

theorem zeroT_ok {ty : TypeId} {z : V} (hz : zeroT P ty = some z) : ∃ zv, (∀ w, (zeroValue ty).run P w = .ok zv w) ∧ ∀ forb φ w, VR forb w φ z zv := by
  unfold zeroT at hz
  split at hz
  · rename_i i hi
    split at hz
    · rename_i zv hzv
      exact ⟨zv, fun w => by simp [zeroValue, typeInfo, hi, hzv], fun _ _ _ => ofVal_ok hz⟩
    · cases hz
  · cases hz
theorem zeroT_info {ty : TypeId} {z : V} (hz : zeroT P ty = some z) : ∃ i zv, P.info? ty = some i ∧ i.zero = some zv ∧ ∀ forb φ w, VR forb w φ z zv := by
  unfold zeroT at hz
  split at hz
  · rename_i i hi
    split at hz
    · rename_i zv hzv
      exact ⟨i, zv, hi, hzv, fun _ _ _ => ofVal_ok hz⟩
    · cases hz
  · cases hz
theorem lies_of_cells {z : V} (h : z.cells.all V.isCell = true) : z.lies = true := by
  cases z <;> first | rfl | simp [V.cells, V.isCell] at h

theorem new_ptr {b cb n sz : Nat} {φ' : Phi} {forb' : Nat → Prop} {w' : World} (h : φ' b 0 = some ⟨cb, 0, 0, n, sz⟩) (hn : 0 < n) : VR forb' w' φ' (.ptr b 0 0 0) (.pointer (some ⟨cb, 0, none⟩)) := by
  have := VR.ptr (forb := forb') (w := w') (i := 0) (o := 0) h (Nat.le_refl _) hn
  simpa [Loc.at] using this

/-- a variable -/
theorem post_var (hR : Rel forb φ D base h w) {x : V} {c : Value} (hv : VR forb w φ x c) (hl : x.lies = true) (hfree : ∀ v, φ h.length v = none) (ty : TypeId) :
    Post forb φ D base h w ⟨.ptr h.length 0 0 0, newRow h x.cells.length [x.cells], [], []⟩ (.pointer (some ⟨w.heap.size, 0, none⟩)) (grow w (.cells c.cells ty (0, 0))) := by
  obtain ⟨h1, h2, h3⟩ := hv.cells_ok hl
  refine post_new hR x.cells.length [x.cells] c.cells ty (0, 0) (fun o _ => by simp) (by simp) hfree (fun i el o y hi ho => ?_) (fun forb' φ' w' hφ' _ => new_ptr hφ' (by simp))
  cases i with
  | zero =>
    simp at hi; subst hi
    obtain ⟨u, h4, h5⟩ := h3 o y ho
    exact ⟨h2 y (List.mem_of_getElem? ho), u, by simpa using h4, h5⟩
  | succ i => simp at hi

theorem op_alloc_ok (ht : Tm G forb φ w t a) (hR : Rel forb φ D base h w) {ty : TypeId} {z : V} (ho : o.op = .alloc ty) (hz : zeroT P ty = some z) (hc : z.cells.all V.isCell = true) {r : Res} (hr : op_alloc t z.cells h = some r) (hfree : ∀ v, φ h.length v = none) : Goes P o a w (Post forb φ D base h w r) := by
  unfold op_alloc at hr
  cases hr
  obtain ⟨zv, h1, h2⟩ := zeroT_ok hz
  refine goes_value (c := .pointer (some ⟨w.heap.size, 0, none⟩)) (w' := grow w (.cells zv.cells ty (0, 0))) ?_ (post_var hR (h2 _ _ _) (lies_of_cells hc) hfree ty)
  unfold execOp; rw [ho]
  simp [Instr.alloc, h1, newVar, Go.newRow, newObj, Sem.run]

theorem op_box_ok (ht : Tm G forb φ w t a) (hR : Rel forb φ D base h w) {ty : TypeId} {n : Nat} {x : Operand} {dx : Opd} (ho : o.op = .box ty x) (hx : opd x = some dx) {r : Res} (hr : op_box G t n dx h = some r) (hfree : ∀ v, φ h.length v = none) : Goes P o a w (Post forb φ D base h w r) := by
  unfold op_box at hr
  split at hr
  · rename_i v hv
    split at hr
    · rename_i hc
      obtain ⟨rfl, hl⟩ := hc
      cases hr
      have h1 := ev_ok ht hx hv
      refine goes_value (c := .pointer (some ⟨w.heap.size, 0, none⟩)) (w' := grow w (.cells (a.eval x).cells ty (0, 0))) ?_ (post_var hR h1 hl hfree ty)
      unfold execOp; rw [ho]
      simp [Instr.box, newVar, Go.newRow, newObj, Sem.run]
    · cases hr
  · cases hr

theorem chunks_get (sz : Nat) : ∀ (n : Nat) (l : List V) (i : Nat), (chunks sz n l)[i]? = if i < n then some ((l.drop (i * sz)).take sz) else none
  | 0, l, i => by simp [chunks]
  | n + 1, l, i => by
    cases i with
    | zero => simp [chunks]
    | succ i =>
      simp only [chunks, List.getElem?_cons_succ, chunks_get sz n, List.drop_drop]
      simp only [Nat.add_lt_add_iff_right]
      rw [show sz + i * sz = (i + 1) * sz by rw [Nat.add_mul]; omega]
theorem chunks_length (sz : Nat) : ∀ (n : Nat) (l : List V), (chunks sz n l).length = n
  | 0, l => rfl
  | n + 1, l => by simp [chunks, chunks_length sz n]

theorem fill_ok (place : Nat → Option (Nat × Nat)) : ∀ {ps : List (Nat × Nat × V)} {cells : List V} {out : List V} {vs : Array Value} {qs : List (Nat × Value)}, fillV cells ps = some out → CR forb w φ cells vs → qs.length = ps.length →
    (∀ (i : Nat) p q, ps[i]? = some p → qs[i]? = some q → place q.1 = some (p.1, p.2.1) ∧ VR forb w φ p.2.2 q.2) → ∃ us, Instr.fill place vs qs = some us ∧ CR forb w φ out us ∧ out.length = cells.length
  | [], cells, out, vs, qs, h, hc, hl, _ => by
    cases h
    cases qs
    · exact ⟨vs, rfl, hc, rfl⟩
    · simp at hl
  | (off, size, v) :: ps, cells, out, vs, qs, h, hc, hl, hp => by
    cases qs with
    | nil => simp at hl
    | cons q qs =>
      obtain ⟨i, x⟩ := q
      unfold fillV at h
      split at h
      · cases h
      · rename_i hn
        simp only [not_or, Bool.not_eq_false, Decidable.not_not] at hn
        obtain ⟨n1, n2, n3⟩ := hn
        obtain ⟨p1, p2⟩ := hp 0 _ _ rfl rfl
        simp only at p1 p2
        obtain ⟨c1, c2, c3⟩ := p2.cells_ok n3
        have key : ∀ (l : List Value) (s : Nat) (cs : Array Value), (∀ k, ((l.zipIdx s).foldl (fun cs (c, j) => cs.setIfInBounds (off + j) c) cs)[k]? = if off + s ≤ k ∧ k < off + s + l.length ∧ k < cs.size then l[k - (off + s)]? else cs[k]?) ∧ ((l.zipIdx s).foldl (fun cs (c, j) => cs.setIfInBounds (off + j) c) cs).size = cs.size := by
          intro l
          induction l with
          | nil => intro s cs; refine ⟨fun k => ?_, rfl⟩; rw [if_neg (by simp; omega)]; rfl
          | cons y l ih =>
            intro s cs
            simp only [List.zipIdx_cons, List.foldl_cons]
            obtain ⟨h1, h2⟩ := ih (s + 1) (cs.setIfInBounds (off + s) y)
            refine ⟨fun k => ?_, by rw [h2]; simp⟩
            rw [h1, Array.getElem?_setIfInBounds]
            simp only [Array.size_setIfInBounds]
            by_cases e : k = off + s
            · subst e
              rw [if_neg (by omega)]
              by_cases e2 : off + s < cs.size
              · rw [if_pos rfl, if_pos e2, if_pos (by simp; omega)]; simp
              · rw [if_pos rfl, if_neg e2, if_neg (by omega)]; simp; omega
            · by_cases e2 : off + (s + 1) ≤ k ∧ k < off + (s + 1) + l.length ∧ k < cs.size
              · rw [if_pos e2, if_pos (by simp; omega)]
                obtain ⟨j, rfl⟩ : ∃ j, k = off + (s + 1) + j := ⟨k - (off + (s + 1)), by omega⟩
                rw [show off + (s + 1) + j - (off + s) = j + 1 by omega]; simp
              · rw [if_neg e2, if_neg (by omega), if_neg (by simp; omega)]
        obtain ⟨k1, k2⟩ := key x.cells.toList 0 vs
        have hstep : CR forb w φ (setFrom cells off v.cells) ((x.cells.zipIdx).foldl (fun cs (c, j) => cs.setIfInBounds (off + j) c) vs) := by
          have e : (x.cells.zipIdx).foldl (fun cs (c, j) => cs.setIfInBounds (off + j) c) vs = (x.cells.toList.zipIdx 0).foldl (fun cs (c, j) => cs.setIfInBounds (off + j) c) vs := by
            rw [← Array.foldl_toList]; simp
          rw [e]
          refine ⟨by rw [k2, setFrom_length (by omega)]; exact hc.1, fun k y hy => ?_⟩
          rw [setFrom_get (by omega)] at hy
          split at hy
          · rename_i hin
            obtain ⟨u, h4, h5⟩ := c3 _ _ hy
            refine ⟨c2 _ (List.mem_of_getElem? hy), u, ?_, h5⟩
            rw [k1, if_pos (by have := hc.1; simp; omega)]
            simpa using h4
          · rename_i hin
            obtain ⟨h3, u, h4, h5⟩ := hc.2 k y hy
            refine ⟨h3, u, ?_, h5⟩
            rw [k1, if_neg (by simp; omega)]
            exact h4
        obtain ⟨us, u1, u2, u3⟩ := fill_ok place (qs := qs) h hstep (by simpa using hl) (fun i p q hi hq => hp (i + 1) p q (by simpa using hi) (by simpa using hq))
        refine ⟨us, ?_, u2, by rw [u3, setFrom_length (by omega)]⟩
        unfold Instr.fill
        simp only [p1]
        rw [if_neg (by have := hc.1; simp [c1, n1]; omega)]
        exact u1

theorem evP_ok (ht : Tm G forb φ w t a) {f : Nat × Operand → Option (Nat × Nat × Opd)} : ∀ {xs : List (Nat × Operand)} {ds : List (Nat × Nat × Opd)} {ps : List (Nat × Nat × V)}, mapM? f xs = some ds → (∀ x d, f x = some d → opd x.2 = some d.2.2) → evP G t ds = some ps →
    ps.length = xs.length ∧ ∀ (i : Nat) p x, ps[i]? = some p → xs[i]? = some x → (∃ d, f x = some d ∧ d.1 = p.1 ∧ d.2.1 = p.2.1) ∧ VR forb w φ p.2.2 (a.eval x.2)
  | [], ds, ps, h, _, hv => by cases h; cases hv; simp
  | x :: xs, ds, ps, h, hf, hv => by
    unfold mapM? at h
    split at h
    · rename_i d ds' h1 h2
      cases h
      obtain ⟨d1, d2, d3⟩ := d
      unfold evP at hv
      split at hv
      · rename_i v vs' h3 h4
        cases hv
        obtain ⟨h5, h6⟩ := evP_ok ht h2 hf h4
        refine ⟨by simp [h5], fun i p y hp hy => ?_⟩
        cases i with
        | zero =>
          simp at hp hy; subst hp hy
          exact ⟨⟨_, h1, rfl, rfl⟩, ev_ok ht (hf _ _ h1) h3⟩
        | succ i => exact h6 i p y (by simpa using hp) (by simpa using hy)
      · cases hv
    · cases h

theorem cr_zero {z : V} {zv : Value} (hc : z.cells.all V.isCell = true) (hz : VR forb w φ z zv) : CR forb w φ z.cells zv.cells := by
  obtain ⟨h1, h2, h3⟩ := hz.cells_ok (lies_of_cells hc)
  exact ⟨h1, fun i y hy => ⟨h2 y (List.mem_of_getElem? hy), h3 i y hy⟩⟩

theorem op_build_ok (ht : Tm G forb φ w t a) (hR : Rel forb φ D base h w) {ty : TypeId} {parts : Array (Nat × Operand)} {z : V} {fs : Array Field} {ps : List (Nat × Nat × Opd)} {ss : List Nat} (ho : o.op = .build ty parts) (hu : P.underlying ty = some (.struct fs)) (hz : zeroT P ty = some z) (hc : z.cells.all V.isCell = true)
    (hp : mapM? (fun (p : Nat × Operand) => match fs[p.1]?, opd p.2 with
          | some f, some x => (sizeT P f.type).map fun s => (f.offset, s, x)
          | _, _ => none) parts.toList = some ps) (hs : mapM? (fun (f : Field) => sizeT P f.type) fs.toList = some ss) {r : Res} (hr : op_build G t z.cells ps h = some r) : Goes P o a w (Post forb φ D base h w r) := by
  unfold op_build at hr
  split at hr
  · rename_i qs hq
    split at hr
    · rename_i cs hcs
      cases hr
      obtain ⟨it, zv, zi, z1, z2⟩ := zeroT_info hz
      obtain ⟨e1, e2⟩ := evP_ok (f := fun (p : Nat × Operand) => match fs[p.1]?, opd p.2 with
          | some f, some x => (sizeT P f.type).map fun s => (f.offset, s, x)
          | _, _ => none) ht hp (fun x d hd => by
        split at hd
        · rename_i f y _ hy
          rcases hsz : sizeT P f.type with _ | s
          · simp [hsz] at hd
          · simp [hsz] at hd; subst hd; exact hy
        · cases hd) hq
      -- the places
      have hpl : ∀ (l : List Field) (rs : List Nat), mapM? (fun (f : Field) => sizeT P f.type) l = some rs → (l.mapM fun f => (P.info? f.type).map fun i => (f.offset, i.size)) = some (l.zip rs |>.map fun x => (x.1.offset, x.2)) := by
        intro l
        induction l with
        | nil => intro rs h; simp
        | cons f l ih =>
          intro rs h
          unfold mapM? at h
          split at h
          · rename_i y ys h1 h2
            cases h
            unfold sizeT at h1
            rcases hi : P.info? f.type with _ | i
            · simp [hi] at h1
            · simp [hi] at h1
              simp [List.mapM_cons, hi, ih _ h2, h1]
          · cases h
      have hplaces := hpl _ _ hs
      have hpl2 : ∀ (i : Nat) f s, fs[i]? = some f → sizeT P f.type = some s → ((fs.toList.zip ss).map fun x => (x.1.offset, x.2)).toArray[i]? = some (f.offset, s) := by
        intro i f s hf hsz
        rw [List.getElem?_toArray, List.getElem?_map]
        have hi : i < fs.toList.length := by have := (Array.getElem?_eq_some_iff.1 hf).1; simpa using this
        have hl := mapM?_length hs
        have hi2 : i < ss.length := by omega
        obtain ⟨f', g1, g2⟩ := mapM?_get hs i ss[i] (by simp [hi2])
        rw [Array.getElem?_toList, hf] at g1
        cases g1
        rw [hsz] at g2
        have hz3 : (fs.toList.zip ss)[i]? = some (f, ss[i]) := List.getElem?_zip_eq_some.2 ⟨by rw [Array.getElem?_toList]; exact hf, by simp [hi2]⟩
        rw [hz3]
        simp at g2 ⊢
        exact g2.symm
      obtain ⟨us, u1, u2, u3⟩ := fill_ok (fun i => ((fs.toList.zip ss).map fun x => (x.1.offset, x.2)).toArray[i]?) (qs := parts.toList.map fun p => (p.1, a.eval p.2)) hcs (cr_zero hc (z2 _ _ _)) (by simp [e1]) (fun i p q hpi hqi => by
        rw [List.getElem?_map] at hqi
        rcases hx : parts.toList[i]? with _ | x
        · rw [hx] at hqi; cases hqi
        · rw [hx] at hqi
          simp at hqi
          subst hqi
          obtain ⟨⟨d, d1, d2, d3⟩, d4⟩ := e2 i p x hpi hx
          refine ⟨?_, d4⟩
          split at d1
          · rename_i f y hf hy
            rcases hsz : sizeT P f.type with _ | s
            · simp [hsz] at d1
            · simp [hsz] at d1; subst d1
              rw [hpl2 _ f s hf hsz]
              rw [← d2, ← d3]
          · cases d1)
      refine goes_same hR (c := .agg us) ?_ (cr_agg u2)
      have hb : P.built ty (parts.toList.map fun p => (p.1, a.eval p.2)) = some us := by
        simp only [Program.built, zi, hu, z1, hplaces]
        exact u1
      unfold execOp; rw [ho]
      have hrun := run_build (P := P) w ty (parts.map fun p => (p.1, a.eval p.2)) us (by simpa using hb)
      simp [hrun]
    · cases hr
  · cases hr
end Go.Mini
