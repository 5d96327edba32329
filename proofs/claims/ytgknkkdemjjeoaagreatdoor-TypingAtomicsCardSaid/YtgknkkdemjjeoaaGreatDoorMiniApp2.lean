/- A part of the proof: MiniApp2. No condition. -/
import Derived.Test.YtgknkkdemjjeoaaGreatDoorMiniApp
set_option linter.all false
set_option maxRecDepth 100000
namespace Go.Mini
set_option linter.unusedVariables false
set_option linter.unusedSimpArgs false
variable {P : Program} {G : Nat → Option V} {forb : Nat → Prop} {φ : Phi} {w : World} {t : List V} {a : Act} {D : Nat → Prop} {base : Nat} {h : H} {o : Oper}

theorem fr_append {sz : Nat} {xs ys : List (List V)} {us vs : List Value} (h : FR forb w φ sz xs us) (k : FR forb w φ sz ys vs) : FR forb w φ sz (xs ++ ys) (us ++ vs) := by
  refine ⟨by simp [h.1, k.1, Nat.add_mul], fun el hel => ?_, fun i el o y hi ho => ?_⟩
  · rcases List.mem_append.1 hel with h1 | h1
    · exact h.2.1 el h1
    · exact k.2.1 el h1
  · by_cases e : i < xs.length
    · rw [List.getElem?_append_left e] at hi
      obtain ⟨h1, u, h2, h3⟩ := h.2.2 i el o y hi ho
      refine ⟨h1, u, ?_, h3⟩
      rw [List.getElem?_append_left (List.getElem?_eq_some_iff.1 h2).1]; exact h2
    · rw [List.getElem?_append_right (by omega)] at hi
      obtain ⟨h1, u, h2, h3⟩ := k.2.2 _ el o y hi ho
      refine ⟨h1, u, ?_, h3⟩
      have hle : xs.length * sz ≤ i * sz := Nat.mul_le_mul_right _ (by omega)
      rw [List.getElem?_append_right (by rw [h.1]; omega), h.1]
      rw [← h2]
      congr 1
      rw [Nat.sub_mul]; omega

/-- A new row out of an append. -/
theorem post_fresh (hR : Rel forb φ D base h w) {sz : Nat} {els : List (List V)} {us : List Value} {cells : Array Value} {ty : TypeId} {n cap wd : Nat} {r : List Nat} (hf : FR forb w φ sz els us) (hn : els.length = n) (hc : n ≤ cap) (hm : cap ≤ 9223372036854775807) (hcs : cells.size = cap * sz) (hget : ∀ k, k < n * sz → cells[k]? = us[k]?) (hfree : ∀ v, φ h.length v = none) :
    Post forb φ D base h w ⟨.os h.length 0 sz 0 n false, newRow h sz els, r, []⟩ (.slice (some ⟨w.heap.size, 0, none⟩) n cap) (grow { w with drawn := wd } (.cells cells ty (0, 0))) := by
  have hp := post_new (hR.drew wd) (v := .os h.length 0 sz 0 n false) (r := r) (c := .slice (some ⟨w.heap.size, 0, none⟩) n cap) sz els cells ty (0, 0) (fun o _ => by simp) hf.2.1 hfree (fun i el oo y hi ho => by
      obtain ⟨h1, u, h2, h3⟩ := hf.2.2 i el oo y hi ho
      have hlt := (List.getElem?_eq_some_iff.1 h2).1
      rw [hf.1, hn] at hlt
      exact ⟨h1, u, by rw [hget _ hlt]; exact h2, h3.ext (Ext.drew forb w wd) φ (fun _ _ _ h => h)⟩) (fun forb' φ' w' hφ' hw => new_os hφ' (by omega) hc hm (fun hh => by cases hh) hw (by omega))
  obtain ⟨f', φ', p1, p2, p3, p4, p5, p6, p7, p8⟩ := hp
  exact ⟨f', φ', p1, p2, (Ext.drew forb w wd).trans p3, p4, p5, p6, p7, p8⟩

theorem take_get {els xs : List (List V)} {m : Nat} (hm : m ≤ els.length) {j : Nat} (hj : j < m) : (els.take m ++ xs)[j]? = els[j]? := by
  rw [List.getElem?_append_left (by simp; omega), List.getElem?_take, if_pos hj]

/-- An elder version of a row that grew. -/
theorem row_old {forb' : Nat → Prop} {φ' : Phi} {w' : World} {y : Row} {v m rd : Nat} {l : Loc} {xs : List (List V)} (hk : RowOk forb φ w y v l) (hE : Ext forb forb' w w') (hφ : ∀ b v l, φ b v = some l → φ' b v = some l) (hm : m = y.els.length) (hx : ∀ el ∈ xs, el.length = y.sz) (hv : v ≤ y.cur)
    (hcells : ∀ cells tt fr, w.heap[l.cb]? = some (.cells cells tt fr) → ∃ cells', w'.heap[l.cb]? = some (.cells cells' tt fr) ∧ cells'.size = cells.size ∧ ∀ j o, l.lo ≤ j → j < l.len → o < l.sz → cells'[l.coff + (j - l.lo) * l.sz + o]? = cells[l.coff + (j - l.lo) * l.sz + o]?) :
    RowOk forb' φ' w' ⟨y.sz, y.els.take m ++ xs, y.cur + 1, rd⟩ v l := by
  obtain ⟨k1, k2, k3, k4, cells, tt, fr, k5, k6, k7⟩ := hk
  obtain ⟨cells', c1, c2, c3⟩ := hcells cells tt fr k5
  refine ⟨k1, by simp; omega, fun e => by simp at e; omega, fun el hel => ?_, cells', tt, fr, c1, by rw [c2]; exact k6, fun j el o z p1 p2 p3 p4 => ?_⟩
  · rcases List.mem_append.1 hel with h1 | h1
    · exact k4 el (List.mem_of_mem_take h1)
    · exact hx el h1
  · simp only [] at p3
    rw [take_get (by omega) (by omega)] at p3
    obtain ⟨z1, u, z2, z3⟩ := k7 j el o z p1 p2 p3 p4
    refine ⟨z1, u, ?_, z3.ext hE φ' hφ⟩
    have ho : o < l.sz := by
      have := k4 el (List.mem_of_getElem? p3)
      have := (List.getElem?_eq_some_iff.1 p4).1
      omega
    rw [c3 j o p1 p2 ho]; exact z2

theorem isEmpty_len {xs : List (List V)} (h : xs.isEmpty = true) : xs.length = 0 := by cases xs <;> simp_all
theorem isEmpty_pos {xs : List (List V)} (h : ¬ xs.isEmpty = true) : 0 < xs.length := by cases xs <;> simp_all

set_option maxHeartbeats 1000000 in
theorem op_append_ok (ht : Tm G forb φ w t a) (hR : Rel forb φ D base h w) {ty ty' el : TypeId} {c : Call} {inf : TypeInfo} {z : Value} {d : TypeDesc} {s x : Operand} {ds dx : Opd} (ho : o.op = .call c) (hcl : c.callee = .builtin .append) (hts : c.argTypes.toList = [ty, ty']) (has : c.args.toList = [s, x])
    (hu : P.underlying ty = some (.slice el)) (hu' : P.underlying ty' = some d) (hni : ∀ k, d ≠ .int k) (hi : P.info? el = some inf) (hz : inf.zero = some z) (hs0 : inf.size ≠ 0) (hb0 : inf.bytes ≠ 0) (hzs : z.cells.size = inf.size) (hs : opd s = some ds) (hx : opd x = some dx) {r : Res} (hr : op_append G t inf.size inf.bytes ds dx h = some r) (hD : ∀ b, (b ∈ r.r ∨ b ∈ r.w) → D b) (hfree : h.length < r.h.length → ∀ v, φ h.length v = none) : Goes P o a w (Post forb φ D base h w r) := by
  have hrun := call_append (P := P) (w := w) (a := a) ho hcl hts has
  unfold op_append at hr
  split at hr
  · rename_i sv xv hsv hxv
    have v1 := ev_ok ht hs hsv
    have v2 := ev_ok ht hx hxv
    unfold appendV at hr
    split at hr
    · rename_i xs rr hsrc
      have hrr : ∀ b ∈ rr, D b := by
        intro b hb
        refine hD b (.inl ?_)
        repeat' split at hr
        all_goals first | (cases hr; first | exact hb | exact List.mem_cons_of_mem _ hb) | cases hr
      obtain ⟨hlen, us, hus, hfirst⟩ := sources_ok hR hs0 hsrc v2 hrr
      have hfw : ∀ w' : World, (∀ cb : Nat, w'.heap[cb]? = w.heap[cb]?) → (Builtin.firstCells inf.size xs.length (a.eval x)).run P w' = .ok us.toArray w' := by
        intro w' hw'
        exact hfirst w' hw'
      split at hr
      · -- nil
        have hse : a.eval s = .slice none 0 0 := by generalize a.eval s = e at v1; cases v1; rfl
        rw [hse] at hrun
        split at hr
        · rename_i he
          cases hr
          have h0 := isEmpty_len he
          have hus0 : us = [] := by apply List.eq_nil_of_length_eq_zero; rw [hus.1, h0]; simp
          refine goes_same hR (c := .slice none 0 0) ?_ .nils
          rw [hrun]
          have := run_inplace (P := P) (w := w) (T := o.type) hu hu' hni hi (A := none) (n := 0) (m := xs.length) (cap := 0) (x := a.eval x) (us := us) (by omega) (w' := w) hlen (hfw w (fun _ => rfl)) (by simp) (fun _ => rfl)
          rw [h0] at this
          simp [this]
        · rename_i he
          split at hr
          · rename_i hb
            cases hr
            have hpos := isEmpty_pos he
            obtain ⟨cap', cells, g1, g2, g3, g4, g5⟩ := run_grows (P := P) (w := w) (T := o.type) hu hu' hni hi hz hs0 hb0 hzs (A := none) (n := 0) (m := xs.length) (cap := 0) (x := a.eval x) (os := []) (us := us) (by simp) hus.1 (by omega) (by omega) (by omega) (by simpa using hb) hlen (fun w' _ => rfl) hfw
            simp only [Nat.zero_add, List.nil_append] at g1 g2 g5
            refine goes_value (by rw [hrun, g1]; rfl) (post_fresh hR hus rfl g2 g3 g4 g5 (hfree (by simp [newRow])))
          · cases hr
      · -- immutable
        split at hr
        · rename_i sz' els he
          cases hr
          have h0 := isEmpty_len he
          have hus0 : us = [] := by apply List.eq_nil_of_length_eq_zero; rw [hus.1, h0]; simp
          obtain ⟨A, cap, hse, _, q2, _⟩ := v1.rs_inv
          refine goes_same hR (c := a.eval s) ?_ v1
          rw [hrun, hse]
          have := run_inplace (P := P) (w := w) (T := o.type) hu hu' hni hi (A := some A) (n := els.length) (m := xs.length) (cap := cap) (x := a.eval x) (us := us) (by omega) (w' := w) hlen (hfw w (fun _ => rfl)) (fun A' _ => by rw [hus0]; rfl) (fun hh => by cases hh)
          rw [h0] at this
          simp [this]
        · cases hr
      · -- a row of the call's own
        rename_i b v sz' i n clip
        obtain ⟨L, A, cap, hse, hφ, q1, q2, q3, q4, q5, q6, q7⟩ := v1.os_inv
        rw [hse] at hrun
        split at hr
        · rename_i he
          cases hr
          have h0 := isEmpty_len he
          have hus0 : us = [] := by apply List.eq_nil_of_length_eq_zero; rw [hus.1, h0]; simp
          refine goes_same hR (c := a.eval s) ?_ v1
          rw [hrun, hse]
          have := run_inplace (P := P) (w := w) (T := o.type) hu hu' hni hi (A := some A) (n := n) (m := xs.length) (cap := cap) (x := a.eval x) (us := us) (by omega) (w' := w) hlen (hfw w (fun _ => rfl)) (fun A' _ => by rw [hus0]; rfl) (fun hh => by cases hh)
          rw [h0] at this
          simp [this]
        · rename_i he
          have hpos := isEmpty_pos he
          split at hr
          · rename_i y hy
            obtain ⟨hy1, hy2, hy3⟩ := rowAt_some hy
            split at hr
            · rename_i hc
              obtain ⟨c1, c2, c3, c4⟩ := hc
              subst c1
              -- what is there
              have hold : D b → ∃ os, FR forb w φ inf.size ((y.els.drop i).take n) os ∧ ∀ w' : World, (∀ cb : Nat, w'.heap[cb]? = w.heap[cb]?) → (Builtin.firstCells inf.size n (.slice (some A) n cap)).run P w' = .ok os.toArray w' := by
                intro hDb
                have hel : elems h (.os b v inf.size i n clip) = some (inf.size, (y.els.drop i).take n, [b]) := by simp [elems, hy, c2, c3]
                obtain ⟨A', cap', e1, e2, e3, e4⟩ := elems_ok hR hel v1 (fun b' hb' => by simp at hb'; rw [hb']; exact hDb)
                rw [hse] at e1
                have hln : ((y.els.drop i).take n).length = n := by simp; omega
                rw [hln] at e1
                cases e1
                obtain ⟨os, f1, f2⟩ := fr_of_elr hs0 e4
                refine ⟨os, f1, fun w' hh => ?_⟩
                have := run_first (P := P) (w := w') (sz := inf.size) (n := n) (cap := cap) (A := A) (us := os) (by rw [f1.1, hln]) (fun k u hk => by rw [cell_congr (hh _)]; exact f2 k u hk)
                exact this
              have hln : ((y.els.drop i).take n).length = n := by simp; omega
              split at hr
              · rename_i hclip
                cases hr
                have hDb : D b := hD b (.inl (by simp))
                obtain ⟨os, f1, f2⟩ := hold hDb
                have hcap := q6 hclip
                obtain ⟨cap', cells, g1, g2, g3, g4, g5⟩ := run_grows (P := P) (w := w) (T := o.type) hu hu' hni hi hz hs0 hb0 hzs (A := some A) (n := n) (m := xs.length) (cap := cap) (x := a.eval x) (os := os) (us := us) (by rw [f1.1, hln]) hus.1 q4 q5 (by omega) c4 hlen f2 hfw
                refine goes_value (by rw [hrun, g1]; rfl) (post_fresh hR (fr_append f1 hus) (by simp; omega) g2 g3 g4 g5 (hfree (by simp [newRow])))
              · split at hr
                · rename_i hv
                  subst hv
                  cases hr
                  have hDb : D b := hD b (.inr (by simp))
                  obtain ⟨os, f1, f2⟩ := hold hDb
                  obtain ⟨k1, k2, k3, k4, cells0, tt, fr, k5, k6, k7⟩ := hR.row b y y.cur L hDb hy1 hy2 hy3 hφ
                  have hnone : ∀ v', φ b (y.cur + 1) = some v' → False := fun v' hv' => by have := hR.new b y _ _ hDb hy1 hv'; omega
                  have hsz : L.sz = inf.size := q1
                  have hyx : ∀ el ∈ xs, el.length = y.sz := fun el hel => by rw [c2]; exact hus.2.1 el hel
                  have hLen : L.len = y.els.length := k3 rfl
                  by_cases hneed : n + xs.length ≤ cap
                  · -- in place
                    obtain ⟨hA, cells1, tt1, fr1, h5, h6⟩ := q7 (by omega)
                    rw [k5] at h5; cases h5
                    have hoff : A.add (n * inf.size) = ⟨L.cb, L.coff + (i - L.lo) * L.sz + n * inf.size, none⟩ := by rw [hA, at_off]; simp
                    generalize hk : L.coff + (i - L.lo) * L.sz + n * inf.size = k
                    have hkl : k + us.length ≤ cells0.size := by
                      refine Nat.le_trans ?_ h6
                      rw [← hk, hus.1, hsz]
                      have e1 : (i - L.lo) * inf.size + n * inf.size + xs.length * inf.size = (i - L.lo + (n + xs.length)) * inf.size := by simp [Nat.add_mul]; omega
                      have e2 : (i - L.lo + (n + xs.length)) * inf.size ≤ (i - L.lo + cap) * inf.size := Nat.mul_le_mul_right _ (by omega)
                      omega
                    have hcl : ∀ j, j < us.length → ∃ u, cells0[k + j]? = some u := fun j hj => ⟨cells0[k + j]'(by omega), by simp [show k + j < cells0.size by omega]⟩
                    have hst : (storeCells (A.add (n * inf.size)) us).run P w = .ok () (w.setCells L.cb k us) := by
                      rw [hoff, hk]
                      have := run_storeCells_cells (P := P) L.cb k us 0 w (fun j hj => by
                          obtain ⟨u, hu⟩ := hcl j hj
                          simp only [World.cell?, k5, Option.isSome_none, Bool.false_eq_true, if_false, Nat.add_zero, hu]; rfl) (fun j hj => by
                          obtain ⟨u, hu⟩ := hcl j hj
                          have hlt := (Array.getElem?_eq_some_iff.1 hu).1
                          have := k6 _ hlt
                          simp only [World.frozen?, k5, Nat.add_zero]
                          simpa using this) (hus.one hs0)
                      simpa using this
                    have hlow := hR.low b y.cur L hφ
                    have hE := ext_setCells (forb := forb) hlow.2.2 us k k5 hkl
                    obtain ⟨cells', w1, w2, w3⟩ := setCells_heap L.cb tt fr us k w cells0 k5 hkl
                    obtain ⟨s1, s2, s3, s4, s5⟩ := setCells_rest L.cb us k w
                    let L' : Loc := ⟨L.cb, L.coff, L.lo, i + (n + xs.length), inf.size⟩
                    have hm := upd_mono (φ := φ) (b := b) (v := y.cur + 1) (l := L') hnone
                    refine goes_value (c := .slice (some A) (n + xs.length) cap) (w' := w.setCells L.cb k us) ?_ ?_
                    · rw [hrun]
                      have := run_inplace (P := P) (w := w) (T := o.type) hu hu' hni hi (A := some A) (n := n) (m := xs.length) (cap := cap) (x := a.eval x) (us := us) hneed (w' := w.setCells L.cb k us) hlen (hfw w (fun _ => rfl)) (fun A' hA' => by cases hA'; exact hst) (fun hh => by cases hh)
                      rw [this]; rfl
                    · refine post_write hR (l := L) (l' := L') (φ' := upd φ b (y.cur + 1) L') hy1 hDb hφ k5 hkl hm (fun b' v' e => by unfold upd; rw [if_neg]; rintro ⟨h1, _⟩; exact e h1) (fun v' l' hl' => ?_) (by simp) (fun v' l' hv1 hv2 hl' => ?_) ?_
                      · unfold upd at hl'
                        split at hl'
                        · rename_i e; cases hl'; exact .inr ⟨rfl, rfl, hsz.symm, rfl, e.2⟩
                        · exact .inl hl'
                      · have hcase : (v' = y.cur + 1 ∧ l' = L') ∨ φ b v' = some l' := by
                          unfold upd at hl'
                          split at hl'
                          · rename_i e; cases hl'; exact .inl ⟨e.2, rfl⟩
                          · exact .inr hl'
                        rcases hcase with ⟨rfl, rfl⟩ | h1
                        · refine ⟨by simp [L', c2], by simp [L']; omega, fun _ => by simp [L']; omega, fun el hel => ?_, cells', tt, fr, w1, by rw [w2]; exact k6, fun j el oo z p1 p2 p3 p4 => ?_⟩
                          · rcases List.mem_append.1 hel with h1 | h1
                            · rw [← c2]; exact k4 el (List.mem_of_mem_take h1)
                            · exact hus.2.1 el h1
                          · simp only [L'] at p1 p2 p3 ⊢
                            by_cases e : j < i + n
                            · rw [take_get (by omega) e] at p3
                              obtain ⟨z1, u, z2, z3⟩ := k7 j el oo z p1 (by omega) p3 p4
                              refine ⟨z1, u, ?_, z3.ext hE _ hm⟩
                              have hol : oo < inf.size := by
                                have := k4 el (List.mem_of_getElem? p3)
                                have := (List.getElem?_eq_some_iff.1 p4).1
                                omega
                              rw [w3, if_neg, ← hsz]
                              · exact z2
                              · have := mul_sep (i := j - L.lo) (i' := i - L.lo + n) (s := inf.size) (o := oo) (o' := 0) (by omega) hol
                                rw [Nat.add_mul] at this
                                rw [← hk, hsz]; omega
                            · rw [List.getElem?_append_right (by simp; omega)] at p3
                              have hl3 : (y.els.take (i + n)).length = i + n := by simp; omega
                              rw [hl3] at p3
                              obtain ⟨z1, u, z2, z3⟩ := hus.2.2 _ el oo z p3 p4
                              refine ⟨z1, u, ?_, z3.ext hE _ hm⟩
                              have hul := (List.getElem?_eq_some_iff.1 z2).1
                              have e3 : L.coff + (j - L.lo) * inf.size + oo = k + ((j - (i + n)) * inf.size + oo) := by
                                rw [← hk, hsz]
                                have : j - L.lo = (i - L.lo) + n + (j - (i + n)) := by omega
                                rw [this]; simp [Nat.add_mul]; omega
                              rw [e3, w3, if_pos (by omega)]
                              rw [show k + ((j - (i + n)) * inf.size + oo) - k = (j - (i + n)) * inf.size + oo by omega]
                              exact z2
                        · have hvc := hR.new b y v' l' hDb hy1 h1
                          simp only [] at hv1
                          split at hv1
                          · rename_i hin
                            have hro := hR.row b y v' l' hDb hy1 hv1 hvc h1
                            have := row_old (m := i + n) (rd := if i + n = y.els.length then y.rd else y.cur + 1) (xs := xs) hro hE hm hin hyx hvc (fun cells2 tt2 fr2 hc2 => by
                              by_cases e : l'.cb = L.cb
                              · rw [e] at hc2 ⊢
                                rw [k5] at hc2; cases hc2
                                obtain ⟨_, g2, g3, g4⟩ := hR.apart _ _ _ _ _ _ h1 hφ e
                                refine ⟨cells', w1, w2, fun j oo p1 p2 p3 => ?_⟩
                                rw [w3, if_neg]
                                have := mul_sep (i := j - l'.lo) (i' := i - L.lo + n) (s := inf.size) (o := oo) (o' := 0) (by have := hro.len; omega) (by omega)
                                rw [Nat.add_mul] at this
                                rw [← hk, hsz, g2, g3, hsz]; omega
                              · exact ⟨cells2, by rw [s5 _ e]; exact hc2, rfl, fun _ _ _ _ _ => rfl⟩)
                            rw [c2] at this
                            exact this
                          · omega
                      · refine .os (upd_same ..) rfl q2 (by simp [L']) hneed q5 (fun hh => by cases hh) (fun _ => ⟨by rw [hA]; simp [Loc.at, L', hsz], cells', tt, fr, w1, by rw [w2]; exact h6⟩)
                  · -- a new row
                    obtain ⟨cap', cells, g1, g2, g3, g4, g5⟩ := run_grows (P := P) (w := w) (T := o.type) hu hu' hni hi hz hs0 hb0 hzs (A := some A) (n := n) (m := xs.length) (cap := cap) (x := a.eval x) (os := os) (us := us) (by rw [f1.1, hln]) hus.1 q4 q5 hneed c4 hlen f2 hfw
                    refine goes_value (by rw [hrun, g1]; rfl) ?_
                    let L' : Loc := ⟨w.heap.size, 0, i, i + (n + xs.length), inf.size⟩
                    have hm := upd_mono (φ := φ) (b := b) (v := y.cur + 1) (l := L') hnone
                    have hfa := fr_append f1 hus
                    refine post_grown hR (l' := L') hy1 hDb rfl rfl (fun forb' w' hE hw => ?_) (fun forb' w' hE hw v' l' hv1 hv2 hl' => ?_) (fun forb' w' hw => ?_)
                    · refine ⟨by simp [L'], by simp [L']; omega, fun _ => by simp [L']; omega, fun el hel => ?_, cells, el, (0, 0), hw, fun o _ => by simp, fun j el oo z p1 p2 p3 p4 => ?_⟩
                      · rcases List.mem_append.1 hel with h1 | h1
                        · rw [← c2]; exact k4 _ (List.mem_of_mem_take h1)
                        · exact hus.2.1 _ h1
                      · simp only [L'] at p1 p2 p3 ⊢
                        have e4 : ((y.els.drop i).take n ++ xs)[j - i]? = some el := by
                          rw [← p3]
                          by_cases e : j < i + n
                          · rw [take_get (by omega) e, List.getElem?_append_left (by omega), List.getElem?_take, if_pos (by omega), List.getElem?_drop]
                            congr 1; omega
                          · rw [List.getElem?_append_right (by omega), List.getElem?_append_right (by simp; omega), hln]
                            congr 1; simp; omega
                        obtain ⟨z1, u, z2, z3⟩ := hfa.2.2 _ el oo z e4 p4
                        refine ⟨z1, u, ?_, z3.ext hE _ hm⟩
                        have hul := (List.getElem?_eq_some_iff.1 z2).1
                        rw [hfa.1] at hul
                        have hl5 : ((y.els.drop i).take n ++ xs).length = n + xs.length := by rw [List.length_append, hln]
                        rw [hl5] at hul
                        rw [Nat.zero_add, g5 _ hul]; exact z2
                    · simp only [] at hv1
                      split at hv1
                      · rename_i hin
                        have hro := hR.row b y v' l' hDb hy1 hv1 hv2 hl'
                        have := row_old (m := i + n) (rd := if i + n = y.els.length then y.rd else y.cur + 1) (xs := xs) hro hE hm hin hyx hv2 (fun cells2 tt2 fr2 hc2 => ⟨cells2, by rw [hw _ (hR.low _ _ _ hl').2.1]; exact hc2, rfl, fun _ _ _ _ _ => rfl⟩)
                        rw [c2] at this
                        exact this
                      · omega
                    · refine .os (upd_same ..) rfl (Nat.le_refl _) (by simp [L']) g2 g3 (fun hh => by cases hh) (fun _ => ⟨by simp [Loc.at, L'], cells, el, (0, 0), hw, by simp [L', g4]⟩)
                · cases hr
            · cases hr
          · cases hr
      · cases hr
    · cases hr
  · cases hr
end Go.Mini
