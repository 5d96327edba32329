/- A part of the proof: MiniB. No condition. -/
import Derived.Test.YtdidbboahhpaoaaDoorMiniA
import Derived.Laws.Append
import Derived.LoopN
import Derived.Control
set_option linter.all false
set_option maxRecDepth 100000
namespace Go.Mini
set_option linter.unusedVariables false
set_option linter.unusedSimpArgs false
variable {P : Program} {G : Nat → Option V} {forb : Nat → Prop} {φ : Phi} {w : World} {t : List V} {a : Act} {D : Nat → Prop} {base : Nat} {h : H} {o : Oper}

/-- a row's cells, one behind the other -/
def FR (forb : Nat → Prop) (w : World) (φ : Phi) (sz : Nat) (els : List (List V)) (us : List Value) : Prop :=
  us.length = els.length * sz ∧ (∀ el ∈ els, el.length = sz) ∧ ∀ (i : Nat) el (o : Nat) y, els[i]? = some el → el[o]? = some y → y.isCell = true ∧ ∃ u, us[i * sz + o]? = some u ∧ VR forb w φ y u

theorem FR.one {sz : Nat} {els : List (List V)} {us : List Value} (h : FR forb w φ sz els us) (hs : sz ≠ 0) : ∀ u ∈ us, u.oneCell' = true := by
  intro u hu
  obtain ⟨k, hk⟩ := List.getElem?_of_mem hu
  have hkl := (List.getElem?_eq_some_iff.1 hk).1
  rw [h.1] at hkl
  have hi : k / sz < els.length := by rw [Nat.div_lt_iff_lt_mul (by omega)]; exact hkl
  have hel := h.2.1 els[k / sz] (List.getElem_mem _)
  have ho : k % sz < els[k / sz].length := by rw [hel]; exact Nat.mod_lt _ (by omega)
  obtain ⟨h1, u', h2, h3⟩ := h.2.2 (k / sz) els[k / sz] (k % sz) els[k / sz][k % sz] (by simp [hi]) (by simp [ho])
  have e : k / sz * sz + k % sz = k := by rw [Nat.mul_comm]; exact Nat.div_add_mod k sz
  rw [e, hk] at h2
  cases h2
  exact h3.oneCell h1

theorem FR.ext {f f' : Nat → Prop} {w w' : World} (hE : Ext f f' w w') {φ ψ : Phi} {sz : Nat} {els : List (List V)} {us : List Value} (h : FR f w φ sz els us) (hψ : ∀ b v l, φ b v = some l → ψ b v = some l) : FR f' w' ψ sz els us :=
  ⟨h.1, h.2.1, fun i el o y hi ho => by obtain ⟨h1, u, h2, h3⟩ := h.2.2 i el o y hi ho; exact ⟨h1, u, h2, h3.ext hE ψ hψ⟩⟩

theorem fr_of_elr {sz : Nat} {els : List (List V)} {A : Addr} (hs : sz ≠ 0) (h : ElR forb w φ sz els A) : ∃ us, FR forb w φ sz els us ∧ ∀ (k : Nat) u, us[k]? = some u → w.cell? (A.add k) = some u := by
  have key : ∀ k, k < els.length * sz → ∃ u, w.cell? (A.add k) = some u := by
    intro k hk
    have hi : k / sz < els.length := by rw [Nat.div_lt_iff_lt_mul (by omega)]; exact hk
    have hel := h.1 els[k / sz] (List.getElem_mem _)
    have ho : k % sz < els[k / sz].length := by rw [hel]; exact Nat.mod_lt _ (by omega)
    obtain ⟨_, u, h2, _⟩ := h.2 (k / sz) els[k / sz] (k % sz) els[k / sz][k % sz] (by simp [hi]) (by simp [ho])
    have e : k / sz * sz + k % sz = k := by rw [Nat.mul_comm]; exact Nat.div_add_mod k sz
    rw [e] at h2
    exact ⟨u, h2⟩
  have hget : ∀ (k : Nat) u, ((List.range (els.length * sz)).map fun k => (w.cell? (A.add k)).getD undef)[k]? = some u → w.cell? (A.add k) = some u := by
    intro k u hu
    rw [List.getElem?_map] at hu
    rcases hk : (List.range (els.length * sz))[k]? with _ | j
    · rw [hk] at hu; cases hu
    · obtain ⟨hlt, rfl⟩ := List.getElem?_eq_some_iff.1 hk
      simp at hlt
      obtain ⟨u', h3⟩ := key k hlt
      rw [hk] at hu
      simp at hu
      rw [h3] at hu ⊢
      simpa using hu
  refine ⟨_, ⟨by simp, h.1, fun i el o y hi ho => ?_⟩, hget⟩
  obtain ⟨h1, u, h2, h3⟩ := h.2 i el o y hi ho
  refine ⟨h1, u, ?_, h3⟩
  have hil := (List.getElem?_eq_some_iff.1 hi).1
  have hol := (List.getElem?_eq_some_iff.1 ho).1
  have := h.1 el (List.mem_of_getElem? hi)
  have hlt : i * sz + o < els.length * sz := by
    have : (i + 1) * sz ≤ els.length * sz := Nat.mul_le_mul_right _ hil
    rw [Nat.add_mul] at this; omega
  rw [List.getElem?_map, List.getElem?_range hlt]
  simp [h2]

theorem run_first {sz n cap : Nat} {A : Addr} {us : List Value} (hl : us.length = n * sz) (hu : ∀ (k : Nat) u, us[k]? = some u → w.cell? (A.add k) = some u) : (Builtin.firstCells sz n (.slice (some A) n cap)).run P w = .ok us.toArray w := by
  have := run_loadCells_list (P := P) w A us hu
  rw [hl] at this
  exact this

/-- what is appended -/
theorem sources_ok (hR : Rel forb φ D base h w) {sz : Nat} (hs : sz ≠ 0) {v : V} {xs : List (List V)} {r : List Nat} {c : Value} (he : sources sz h v = some (xs, r)) (hv : VR forb w φ v c) (hr : ∀ b ∈ r, D b) :
    (Builtin.lenOf c).run P w = .ok xs.length w ∧ ∃ us, FR forb w φ sz xs us ∧ ∀ w' : World, (∀ cb : Nat, w'.heap[cb]? = w.heap[cb]?) → (Builtin.firstCells sz xs.length c).run P w' = .ok us.toArray w' := by
  unfold sources at he
  split at he
  · cases he; cases hv
    exact ⟨rfl, [], ⟨by simp, by simp, by simp⟩, fun _ _ => rfl⟩
  · rename_i b
    split at he
    · rename_i h1; subst h1
      cases he; cases hv
      have hsz : (⟨b.toArray⟩ : ByteArray).size = b.length := by show b.toArray.size = _; simp
      refine ⟨by simp [Builtin.lenOf, hsz], b.map fun c => .int .u8 c.toNat, ⟨by simp, by simp, fun i el o y hi ho => ?_⟩, fun w' _ => ?_⟩
      · rw [List.getElem?_map] at hi
        rcases hq : b[i]? with _ | q
        · rw [hq] at hi; cases hi
        · rw [hq] at hi; cases hi
          cases o with
          | zero => simp at ho; subst ho; exact ⟨rfl, .int .u8 q.toNat, by simp [List.getElem?_map, hq], .int⟩
          | succ o => simp at ho
      · have hex : (⟨b.toArray⟩ : ByteArray).extract 0 b.length = ⟨b.toArray⟩ := by rw [ByteArray.extract_mk]; simp
        simp [Builtin.firstCells, hex]
    · cases he
  · rename_i x _ _
    split at he
    · rename_i sz' els rr hq
      split at he
      · rename_i h1; subst h1
        cases he
        obtain ⟨A, cap, rfl, _, _, hel⟩ := elems_ok hR hq hv hr
        obtain ⟨us, h2, h3⟩ := fr_of_elr hs hel
        refine ⟨rfl, us, h2, fun w' hh => ?_⟩
        have h3' : ∀ (k : Nat) u, us[k]? = some u → w'.cell? (A.add k) = some u := fun k u hu => by
          rw [cell_congr (hh _)]; exact h3 k u hu
        exact run_first h2.1 h3'
      · cases he
    · cases he

/-- An append that must make a new row: n elements are there, m come. -/
theorem run_grows {ty ty' el T : TypeId} {inf : TypeInfo} {z : Value} {d : TypeDesc} (hu : P.underlying ty = some (.slice el)) (hu' : P.underlying ty' = some d) (hni : ∀ k, d ≠ .int k) (hi : P.info? el = some inf) (hz : inf.zero = some z) (hs0 : inf.size ≠ 0) (hb0 : inf.bytes ≠ 0) (hzs : z.cells.size = inf.size)
    {A : Option Addr} {n m cap : Nat} {x : Value} {os us : List Value} (hol : os.length = n * inf.size) (hul : us.length = m * inf.size) (hn : n ≤ cap) (hcap : cap ≤ 9223372036854775807) (hneed : ¬ n + m ≤ cap) (hbytes : (n + m) * inf.bytes ≤ 140737488355328)
    (hlen : (Builtin.lenOf x).run P w = .ok m w)
    (hold : ∀ w' : World, (∀ cb : Nat, w'.heap[cb]? = w.heap[cb]?) → (Builtin.firstCells inf.size n (.slice A n cap)).run P w' = .ok os.toArray w')
    (hnew : ∀ w' : World, (∀ cb : Nat, w'.heap[cb]? = w.heap[cb]?) → (Builtin.firstCells inf.size m x).run P w' = .ok us.toArray w') :
    ∃ cap' cells, (Builtin.append_ #[ty, ty'] T #[.slice A n cap, x]).run P w = .ok (.slice (some ⟨w.heap.size, 0, none⟩) (n + m) cap') (grow { w with drawn := w.drawn + 1 } (.cells cells el (0, 0))) ∧ n + m ≤ cap' ∧ cap' ≤ 9223372036854775807 ∧ cells.size = cap' * inf.size ∧ ∀ k, k < (n + m) * inf.size → cells[k]? = (os ++ us)[k]? := by
  have hb1 : n + m ≤ 140737488355328 := Nat.le_trans (Nat.le_mul_of_pos_right _ (by omega)) hbytes
  generalize hc' : n + m + w.tape w.drawn (.appendCap (n + m) cap el) % (2 ^ 63 - (n + m)) = cap'
  have hc1 : n + m ≤ cap' := by omega
  have hc2 : cap' ≤ 9223372036854775807 := by
    have := Nat.mod_lt (w.tape w.drawn (.appendCap (n + m) cap el)) (show 0 < 2 ^ 63 - (n + m) by omega)
    omega
  have hfit := growslice_fits (need := n + m) (old := cap) (bytes := inf.bytes) (by omega) hbytes
  have hch : (choose (.appendCap (n + m) cap el)).run P w = .ok cap' { w with drawn := w.drawn + 1 } := by rw [← hc']; rfl
  have hask : ∀ b, ∀ w' : World, (askRoom b).run P w' = .ok () w' := by
    intro b w'; unfold askRoom; split <;> rfl
  have hzero : ∀ w' : World, (zeroValue el).run P w' = .ok z w' := fun w' => by simp [zeroValue, typeInfo, hi, hz]
  have hti : ∀ w' : World, (typeInfo el).run P w' = .ok inf w' := fun w' => by simp [typeInfo, hi]
  have hsz : ∀ w' : World, (sizeOf el).run P w' = .ok inf.size w' := fun w' => by simp [sizeOf, hti]
  have hund : ∀ w' : World, (underlying ty').run P w' = .ok d w' := fun w' => run_underlying hu' w'
  refine ⟨cap', os.toArray ++ us.toArray ++ Builtin.zeroCells z.cells (cap' - (n + m)), ?_, hc1, hc2, ?_, fun k hk => ?_⟩
  · have hd : (match d with | .int _ => true | _ => false) = false := by cases d <;> first | rfl | exact (hni _ rfl).elim
    unfold Builtin.append_
    simp only [List.getElem?_toArray, List.getElem?_cons_zero, List.getElem?_cons_succ, Sem.run_bind, run_underlying hu, Result.andThen_ok, hsz, hund, hd, Bool.false_eq_true, if_false, hlen, Sem.run_ite, hneed, hti, hask, hzero, hch, Sem.run_pure]
    have c1 : ¬ (((n + m : Nat) : Int) > IntKind.i64.max ∧ (False ∨ inf.bytes = 0)) := by simp [hb0]
    have c2 : ¬ (Builtin.nextslicecap (n + m) cap * inf.bytes > 2 ^ 48) := by omega
    rw [if_neg c1, if_neg c2, hold { w with drawn := w.drawn + 1 } (fun _ => rfl)]
    simp only [Result.andThen_ok, Bool.not_false, if_true]
    rw [hnew { w with drawn := w.drawn + 1 } (fun _ => rfl)]
    simp only [Go.newRow, newObj, Sem.run_bind, Sem.run, Result.andThen_ok, Sem.run_pure]
  · simp [Builtin.zeroCells, hol, hul, hzs, ← Nat.add_mul, show n + m + (cap' - (n + m)) = cap' by omega]
  · have : k < (os ++ us).length := by simp [hol, hul, ← Nat.add_mul]; exact hk
    rw [Array.getElem?_append_left (by simpa using this)]
    simp

/-- An append in place. -/
theorem run_inplace {ty ty' el T : TypeId} {inf : TypeInfo} {d : TypeDesc} (hu : P.underlying ty = some (.slice el)) (hu' : P.underlying ty' = some d) (hni : ∀ k, d ≠ .int k) (hi : P.info? el = some inf)
    {A : Option Addr} {n m cap : Nat} {x : Value} {us : List Value} (hneed : n + m ≤ cap) {w' : World}
    (hlen : (Builtin.lenOf x).run P w = .ok m w) (hnew : (Builtin.firstCells inf.size m x).run P w = .ok us.toArray w)
    (hst : ∀ a, A = some a → (storeCells (a.add (n * inf.size)) us).run P w = .ok () w') (hno : A = none → w' = w) :
    (Builtin.append_ #[ty, ty'] T #[.slice A n cap, x]).run P w = .ok (.slice A (n + m) cap) w' := by
  have hsz : ∀ w' : World, (sizeOf el).run P w' = .ok inf.size w' := fun w' => by simp [sizeOf, typeInfo, hi]
  have hd : (match d with | .int _ => true | _ => false) = false := by cases d <;> first | rfl | exact (hni _ rfl).elim
  unfold Builtin.append_
  simp only [List.getElem?_toArray, List.getElem?_cons_zero, List.getElem?_cons_succ, Sem.run_bind, run_underlying hu, run_underlying hu', Result.andThen_ok, hsz, hd, Bool.false_eq_true, if_false, hlen, Sem.run_ite, hneed, if_true, Sem.run_pure, Bool.not_false, hnew]
  cases A with
  | none => obtain rfl := hno rfl; simp [Sem.run_pure]
  | some a => simp [Sem.run_bind, hst a rfl, Sem.run_pure]

theorem call_append {c : Call} {ty ty' : TypeId} {s x : Operand} (ho : o.op = .call c) (hc : c.callee = .builtin .append) (hts : c.argTypes.toList = [ty, ty']) (has : c.args.toList = [s, x]) :
    (execOp a.eval o).run P w = ((Builtin.append_ #[ty, ty'] o.type #[a.eval s, a.eval x]).run P w).andThen fun v w' => .ok (.value v) w' := by
  have hts' : c.argTypes = #[ty, ty'] := by rw [← Array.toArray_toList (xs := c.argTypes), hts]
  have has' : c.args = #[s, x] := by rw [← Array.toArray_toList (xs := c.args), has]
  unfold execOp; rw [ho]
  simp [resolve, hc, has', hts', invoke, builtin]

/-- A row that grew: a new version of block b lies in a new block. -/
theorem post_grown (hR : Rel forb φ D base h w) {b : Nat} {x x' : Row} {l' : Loc} {v : V} {c : Value} {r : List Nat} {cells : Array Value} {ty : TypeId} {wd : Nat}
    (hx : h[b]? = some (.row x)) (hb : D b) (hcur : x'.cur = x.cur + 1) (hl' : l'.cb = w.heap.size)
    (hrow : ∀ forb' w', Ext forb forb' w w' → w'.heap[w.heap.size]? = some (.cells cells ty (0, 0)) → RowOk forb' (upd φ b (x.cur + 1) l') w' x' (x.cur + 1) l')
    (hold : ∀ forb' w', Ext forb forb' w w' → (∀ cb, cb < w.heap.size → w'.heap[cb]? = w.heap[cb]?) → ∀ v l, x'.rd ≤ v → v ≤ x.cur → φ b v = some l → RowOk forb' (upd φ b (x.cur + 1) l') w' x' v l)
    (hv : ∀ forb' w', w'.heap[w.heap.size]? = some (.cells cells ty (0, 0)) → VR forb' w' (upd φ b (x.cur + 1) l') v c) :
    Post forb φ D base h w ⟨v, h.set b (.row x'), r, [b]⟩ c (grow { w with drawn := wd } (.cells cells ty (0, 0))) := by
  have hE : Ext forb (fun cb => forb cb ∨ cb = w.heap.size) w (grow { w with drawn := wd } (.cells cells ty (0, 0))) := (Ext.drew forb w wd).trans (ext_grow forb { w with drawn := wd } _)
  have hnone : ∀ v', φ b (x.cur + 1) = some v' → False := fun v' hv' => by have := hR.new b x _ _ hb hx hv'; omega
  have hm := upd_mono (φ := φ) (b := b) (v := x.cur + 1) (l := l') hnone
  have hg : ∀ cb, cb < w.heap.size → (grow { w with drawn := wd } (.cells cells ty (0, 0))).heap[cb]? = w.heap[cb]? := fun cb hcb => heap_grow (w := { w with drawn := wd }) hcb
  have hgn : (grow { w with drawn := wd } (.cells cells ty (0, 0))).heap[w.heap.size]? = some (.cells cells ty (0, 0)) := heap_grow_new { w with drawn := wd } _
  have hbl : b < h.length := (List.getElem?_eq_some_iff.1 hx).1
  have hother : ∀ b' v', b' ≠ b → upd φ b (x.cur + 1) l' b' v' = φ b' v' := fun b' v' e => by unfold upd; rw [if_neg]; rintro ⟨h1, _⟩; exact e h1
  have hin : ∀ v' l'', upd φ b (x.cur + 1) l' b v' = some l'' → (v' = x.cur + 1 ∧ l'' = l') ∨ φ b v' = some l'' := by
    intro v' l'' h1
    unfold upd at h1
    split at h1
    · rename_i e; cases h1; exact .inl ⟨e.2, rfl⟩
    · exact .inr h1
  refine ⟨fun cb => forb cb ∨ cb = w.heap.size, upd φ b (x.cur + 1) l', hv _ _ hgn, ⟨fun b' y v' l'' hb' hy h1 h2 hl'' => ?_, fun b' v' l'' hl'' => ?_, fun b1 v1 l1 b2 v2 l2 hl1 hl2 e => ?_, Nat.le_trans hR.top hE.size, fun b' y v' l'' hb' hy hl'' => ?_, fun b' es l'' hb' hy hl'' => ?_⟩, hE, hm, fun b' v' hb' => ?_, fun b' v' l'' hl'' _ => hg _ (hR.low _ _ _ hl'').2.1, fun b' v' hlt hne => ?_, by simp⟩
  · by_cases e : b' = b
    · subst e
      rw [List.getElem?_set_self hbl] at hy
      cases hy
      rcases hin v' l'' hl'' with ⟨rfl, rfl⟩ | h3
      · exact hrow _ _ hE hgn
      · exact hold _ _ hE hg v' l'' h1 (hR.new _ _ _ _ hb hx h3) h3
    · rw [List.getElem?_set_ne (Ne.symm e)] at hy
      rw [hother b' v' e] at hl''
      have hD : D b' := by
        rcases hb' with hb' | ⟨h3, h4⟩
        · exact hb'
        · simp at h4; omega
      exact (hR.row b' y v' l'' hD hy h1 h2 hl'').ext hE hm (hg _ (hR.low _ _ _ hl'').2.1)
  · have hbig : (grow { w with drawn := wd } (.cells cells ty (0, 0))).heap.size = w.heap.size + 1 := by simp [grow]
    by_cases e : b' = b
    · subst e
      rcases hin v' l'' hl'' with ⟨rfl, rfl⟩ | h3
      · exact ⟨by rw [hl']; exact hR.top, by rw [hbig]; omega, .inr hl'⟩
      · have := hR.low _ _ _ h3; exact ⟨this.1, by rw [hbig]; omega, .inl this.2.2⟩
    · rw [hother b' v' e] at hl''
      have := hR.low _ _ _ hl''; exact ⟨this.1, by rw [hbig]; omega, .inl this.2.2⟩
  · have norm : ∀ b' v' l'', upd φ b (x.cur + 1) l' b' v' = some l'' → (b' = b ∧ l'' = l') ∨ (φ b' v' = some l'') := by
      intro b' v' l'' h1
      by_cases e : b' = b
      · subst e
        rcases hin v' l'' h1 with ⟨_, h2⟩ | h2
        · exact .inl ⟨rfl, h2⟩
        · exact .inr h2
      · rw [hother b' v' e] at h1; exact .inr h1
    rcases norm _ _ _ hl1 with ⟨rfl, rfl⟩ | h1 <;> rcases norm _ _ _ hl2 with ⟨rfl, rfl⟩ | h2
    · exact ⟨rfl, rfl, rfl, rfl⟩
    · have := (hR.low _ _ _ h2).2.1; omega
    · have := (hR.low _ _ _ h1).2.1; omega
    · exact hR.apart _ _ _ _ _ _ h1 h2 e
  · by_cases e : b' = b
    · subst e
      rw [List.getElem?_set_self hbl] at hy
      cases hy
      rcases hin v' l'' hl'' with ⟨rfl, _⟩ | h3
      · omega
      · have := hR.new _ _ _ _ hb hx h3; omega
    · rw [List.getElem?_set_ne (Ne.symm e)] at hy
      rw [hother b' v' e] at hl''
      have hD : D b' := by
        rcases hb' with hb' | ⟨h3, h4⟩
        · exact hb'
        · simp at h4; omega
      exact hR.new _ _ _ _ hD hy hl''
  · by_cases e : b' = b
    · subst e
      rw [List.getElem?_set_self hbl] at hy
      cases hy
    · rw [List.getElem?_set_ne (Ne.symm e)] at hy
      rw [hother b' 0 e] at hl''
      have hD : D b' := by
        rcases hb' with hb' | ⟨h3, h4⟩
        · exact hb'
        · simp at h4; omega
      exact (hR.mp b' es l'' hD hy hl'').congr (hg _ (hR.low _ _ _ hl'').2.1)
  · simp at hb'; exact hother b' v' (by omega)
  · simp at hne; exact hother b' v' hne
end Go.Mini

namespace Go.Mini
set_option linter.unusedVariables false
set_option linter.unusedSimpArgs false
variable {P : Program} {G : Nat → Option V} {forb : Nat → Prop} {φ : Phi} {w : World} {t : List V} {a : Act} {D : Nat → Prop} {base : Nat} {h : H} {o : Oper}

theorem fr_append {sz : Nat} {xs ys : List (List V)} {us vs : List Value} (h : FR forb w φ sz xs us) (k : FR forb w φ sz ys vs) : FR forb w φ sz (xs ++ ys) (us ++ vs) := by
  refine ⟨by simp [h.1, k.1, Nat.add_mul], fun el hel => ?_, fun i el o y hi ho => ?_⟩
  · rcases List.mem_append.1 hel with h1 | h1
    · exact h.2.1 el h1
    · exact k.2.1 el h1
  · by_cases e : i < xs.length
    · rw [List.getElem?_append_left e] at hi
      obtain ⟨h1, u, h2, h3⟩ := h.2.2 i el o y hi ho
      refine ⟨h1, u, ?_, h3⟩
      rw [List.getElem?_append_left (List.getElem?_eq_some_iff.1 h2).1]; exact h2
    · rw [List.getElem?_append_right (by omega)] at hi
      obtain ⟨h1, u, h2, h3⟩ := k.2.2 _ el o y hi ho
      refine ⟨h1, u, ?_, h3⟩
      have hle : xs.length * sz ≤ i * sz := Nat.mul_le_mul_right _ (by omega)
      rw [List.getElem?_append_right (by rw [h.1]; omega), h.1]
      rw [← h2]
      congr 1
      rw [Nat.sub_mul]; omega

/-- A new row out of an append. -/
theorem post_fresh (hR : Rel forb φ D base h w) {sz : Nat} {els : List (List V)} {us : List Value} {cells : Array Value} {ty : TypeId} {n cap wd : Nat} {r : List Nat} (hf : FR forb w φ sz els us) (hn : els.length = n) (hc : n ≤ cap) (hm : cap ≤ 9223372036854775807) (hcs : cells.size = cap * sz) (hget : ∀ k, k < n * sz → cells[k]? = us[k]?) (hfree : ∀ v, φ h.length v = none) :
    Post forb φ D base h w ⟨.os h.length 0 sz 0 n false, newRow h sz els, r, []⟩ (.slice (some ⟨w.heap.size, 0, none⟩) n cap) (grow { w with drawn := wd } (.cells cells ty (0, 0))) := by
  have hp := post_new (hR.drew wd) (v := .os h.length 0 sz 0 n false) (r := r) (c := .slice (some ⟨w.heap.size, 0, none⟩) n cap) sz els cells ty (0, 0) (fun o _ => by simp) hf.2.1 hfree (fun i el oo y hi ho => by
      obtain ⟨h1, u, h2, h3⟩ := hf.2.2 i el oo y hi ho
      have hlt := (List.getElem?_eq_some_iff.1 h2).1
      rw [hf.1, hn] at hlt
      exact ⟨h1, u, by rw [hget _ hlt]; exact h2, h3.ext (Ext.drew forb w wd) φ (fun _ _ _ h => h)⟩) (fun forb' φ' w' hφ' hw => new_os hφ' (by omega) hc hm (fun hh => by cases hh) hw (by omega))
  obtain ⟨f', φ', p1, p2, p3, p4, p5, p6, p7, p8⟩ := hp
  exact ⟨f', φ', p1, p2, (Ext.drew forb w wd).trans p3, p4, p5, p6, p7, p8⟩

theorem take_get {els xs : List (List V)} {m : Nat} (hm : m ≤ els.length) {j : Nat} (hj : j < m) : (els.take m ++ xs)[j]? = els[j]? := by
  rw [List.getElem?_append_left (by simp; omega), List.getElem?_take, if_pos hj]

/-- An elder version of a row that grew. -/
theorem row_old {forb' : Nat → Prop} {φ' : Phi} {w' : World} {y : Row} {v m rd : Nat} {l : Loc} {xs : List (List V)} (hk : RowOk forb φ w y v l) (hE : Ext forb forb' w w') (hφ : ∀ b v l, φ b v = some l → φ' b v = some l) (hm : m = y.els.length) (hx : ∀ el ∈ xs, el.length = y.sz) (hv : v ≤ y.cur)
    (hcells : ∀ cells tt fr, w.heap[l.cb]? = some (.cells cells tt fr) → ∃ cells', w'.heap[l.cb]? = some (.cells cells' tt fr) ∧ cells'.size = cells.size ∧ ∀ j o, l.lo ≤ j → j < l.len → o < l.sz → cells'[l.coff + (j - l.lo) * l.sz + o]? = cells[l.coff + (j - l.lo) * l.sz + o]?) :
    RowOk forb' φ' w' ⟨y.sz, y.els.take m ++ xs, y.cur + 1, rd⟩ v l := by
  obtain ⟨k1, k2, k3, k4, cells, tt, fr, k5, k6, k7⟩ := hk
  obtain ⟨cells', c1, c2, c3⟩ := hcells cells tt fr k5
  refine ⟨k1, by simp; omega, fun e => by simp at e; omega, fun el hel => ?_, cells', tt, fr, c1, by rw [c2]; exact k6, fun j el o z p1 p2 p3 p4 => ?_⟩
  · rcases List.mem_append.1 hel with h1 | h1
    · exact k4 el (List.mem_of_mem_take h1)
    · exact hx el h1
  · simp only [] at p3
    rw [take_get (by omega) (by omega)] at p3
    obtain ⟨z1, u, z2, z3⟩ := k7 j el o z p1 p2 p3 p4
    refine ⟨z1, u, ?_, z3.ext hE φ' hφ⟩
    have ho : o < l.sz := by
      have := k4 el (List.mem_of_getElem? p3)
      have := (List.getElem?_eq_some_iff.1 p4).1
      omega
    rw [c3 j o p1 p2 ho]; exact z2

theorem isEmpty_len {xs : List (List V)} (h : xs.isEmpty = true) : xs.length = 0 := by cases xs <;> simp_all
theorem isEmpty_pos {xs : List (List V)} (h : ¬ xs.isEmpty = true) : 0 < xs.length := by cases xs <;> simp_all

set_option maxHeartbeats 1000000 in
theorem op_append_ok (ht : Tm G forb φ w t a) (hR : Rel forb φ D base h w) {ty ty' el : TypeId} {c : Call} {inf : TypeInfo} {z : Value} {d : TypeDesc} {s x : Operand} {ds dx : Opd} (ho : o.op = .call c) (hcl : c.callee = .builtin .append) (hts : c.argTypes.toList = [ty, ty']) (has : c.args.toList = [s, x])
    (hu : P.underlying ty = some (.slice el)) (hu' : P.underlying ty' = some d) (hni : ∀ k, d ≠ .int k) (hi : P.info? el = some inf) (hz : inf.zero = some z) (hs0 : inf.size ≠ 0) (hb0 : inf.bytes ≠ 0) (hzs : z.cells.size = inf.size) (hs : opd s = some ds) (hx : opd x = some dx) {r : Res} (hr : op_append G t inf.size inf.bytes ds dx h = some r) (hD : ∀ b, (b ∈ r.r ∨ b ∈ r.w) → D b) (hfree : h.length < r.h.length → ∀ v, φ h.length v = none) : Goes P o a w (Post forb φ D base h w r) := by
  have hrun := call_append (P := P) (w := w) (a := a) ho hcl hts has
  unfold op_append at hr
  split at hr
  · rename_i sv xv hsv hxv
    have v1 := ev_ok ht hs hsv
    have v2 := ev_ok ht hx hxv
    unfold appendV at hr
    split at hr
    · rename_i xs rr hsrc
      have hrr : ∀ b ∈ rr, D b := by
        intro b hb
        refine hD b (.inl ?_)
        repeat' split at hr
        all_goals first | (cases hr; first | exact hb | exact List.mem_cons_of_mem _ hb) | cases hr
      obtain ⟨hlen, us, hus, hfirst⟩ := sources_ok hR hs0 hsrc v2 hrr
      have hfw : ∀ w' : World, (∀ cb : Nat, w'.heap[cb]? = w.heap[cb]?) → (Builtin.firstCells inf.size xs.length (a.eval x)).run P w' = .ok us.toArray w' := by
        intro w' hw'
        exact hfirst w' hw'
      split at hr
      · -- nil
        have hse : a.eval s = .slice none 0 0 := by generalize a.eval s = e at v1; cases v1; rfl
        rw [hse] at hrun
        split at hr
        · rename_i he
          cases hr
          have h0 := isEmpty_len he
          have hus0 : us = [] := by apply List.eq_nil_of_length_eq_zero; rw [hus.1, h0]; simp
          refine goes_same hR (c := .slice none 0 0) ?_ .nils
          rw [hrun]
          have := run_inplace (P := P) (w := w) (T := o.type) hu hu' hni hi (A := none) (n := 0) (m := xs.length) (cap := 0) (x := a.eval x) (us := us) (by omega) (w' := w) hlen (hfw w (fun _ => rfl)) (by simp) (fun _ => rfl)
          rw [h0] at this
          simp [this]
        · rename_i he
          split at hr
          · rename_i hb
            cases hr
            have hpos := isEmpty_pos he
            obtain ⟨cap', cells, g1, g2, g3, g4, g5⟩ := run_grows (P := P) (w := w) (T := o.type) hu hu' hni hi hz hs0 hb0 hzs (A := none) (n := 0) (m := xs.length) (cap := 0) (x := a.eval x) (os := []) (us := us) (by simp) hus.1 (by omega) (by omega) (by omega) (by simpa using hb) hlen (fun w' _ => rfl) hfw
            simp only [Nat.zero_add, List.nil_append] at g1 g2 g5
            refine goes_value (by rw [hrun, g1]; rfl) (post_fresh hR hus rfl g2 g3 g4 g5 (hfree (by simp [newRow])))
          · cases hr
      · -- immutable
        split at hr
        · rename_i sz' els he
          cases hr
          have h0 := isEmpty_len he
          have hus0 : us = [] := by apply List.eq_nil_of_length_eq_zero; rw [hus.1, h0]; simp
          obtain ⟨A, cap, hse, _, q2, _⟩ := v1.rs_inv
          refine goes_same hR (c := a.eval s) ?_ v1
          rw [hrun, hse]
          have := run_inplace (P := P) (w := w) (T := o.type) hu hu' hni hi (A := some A) (n := els.length) (m := xs.length) (cap := cap) (x := a.eval x) (us := us) (by omega) (w' := w) hlen (hfw w (fun _ => rfl)) (fun A' _ => by rw [hus0]; rfl) (fun hh => by cases hh)
          rw [h0] at this
          simp [this]
        · cases hr
      · -- a row of the call's own
        rename_i b v sz' i n clip
        obtain ⟨L, A, cap, hse, hφ, q1, q2, q3, q4, q5, q6, q7⟩ := v1.os_inv
        rw [hse] at hrun
        split at hr
        · rename_i he
          cases hr
          have h0 := isEmpty_len he
          have hus0 : us = [] := by apply List.eq_nil_of_length_eq_zero; rw [hus.1, h0]; simp
          refine goes_same hR (c := a.eval s) ?_ v1
          rw [hrun, hse]
          have := run_inplace (P := P) (w := w) (T := o.type) hu hu' hni hi (A := some A) (n := n) (m := xs.length) (cap := cap) (x := a.eval x) (us := us) (by omega) (w' := w) hlen (hfw w (fun _ => rfl)) (fun A' _ => by rw [hus0]; rfl) (fun hh => by cases hh)
          rw [h0] at this
          simp [this]
        · rename_i he
          have hpos := isEmpty_pos he
          split at hr
          · rename_i y hy
            obtain ⟨hy1, hy2, hy3⟩ := rowAt_some hy
            split at hr
            · rename_i hc
              obtain ⟨c1, c2, c3, c4⟩ := hc
              subst c1
              -- what is there
              have hold : D b → ∃ os, FR forb w φ inf.size ((y.els.drop i).take n) os ∧ ∀ w' : World, (∀ cb : Nat, w'.heap[cb]? = w.heap[cb]?) → (Builtin.firstCells inf.size n (.slice (some A) n cap)).run P w' = .ok os.toArray w' := by
                intro hDb
                have hel : elems h (.os b v inf.size i n clip) = some (inf.size, (y.els.drop i).take n, [b]) := by simp [elems, hy, c2, c3]
                obtain ⟨A', cap', e1, e2, e3, e4⟩ := elems_ok hR hel v1 (fun b' hb' => by simp at hb'; rw [hb']; exact hDb)
                rw [hse] at e1
                have hln : ((y.els.drop i).take n).length = n := by simp; omega
                rw [hln] at e1
                cases e1
                obtain ⟨os, f1, f2⟩ := fr_of_elr hs0 e4
                refine ⟨os, f1, fun w' hh => ?_⟩
                have := run_first (P := P) (w := w') (sz := inf.size) (n := n) (cap := cap) (A := A) (us := os) (by rw [f1.1, hln]) (fun k u hk => by rw [cell_congr (hh _)]; exact f2 k u hk)
                exact this
              have hln : ((y.els.drop i).take n).length = n := by simp; omega
              split at hr
              · rename_i hclip
                cases hr
                have hDb : D b := hD b (.inl (by simp))
                obtain ⟨os, f1, f2⟩ := hold hDb
                have hcap := q6 hclip
                obtain ⟨cap', cells, g1, g2, g3, g4, g5⟩ := run_grows (P := P) (w := w) (T := o.type) hu hu' hni hi hz hs0 hb0 hzs (A := some A) (n := n) (m := xs.length) (cap := cap) (x := a.eval x) (os := os) (us := us) (by rw [f1.1, hln]) hus.1 q4 q5 (by omega) c4 hlen f2 hfw
                refine goes_value (by rw [hrun, g1]; rfl) (post_fresh hR (fr_append f1 hus) (by simp; omega) g2 g3 g4 g5 (hfree (by simp [newRow])))
              · split at hr
                · rename_i hv
                  subst hv
                  cases hr
                  have hDb : D b := hD b (.inr (by simp))
                  obtain ⟨os, f1, f2⟩ := hold hDb
                  obtain ⟨k1, k2, k3, k4, cells0, tt, fr, k5, k6, k7⟩ := hR.row b y y.cur L hDb hy1 hy2 hy3 hφ
                  have hnone : ∀ v', φ b (y.cur + 1) = some v' → False := fun v' hv' => by have := hR.new b y _ _ hDb hy1 hv'; omega
                  have hsz : L.sz = inf.size := q1
                  have hyx : ∀ el ∈ xs, el.length = y.sz := fun el hel => by rw [c2]; exact hus.2.1 el hel
                  have hLen : L.len = y.els.length := k3 rfl
                  by_cases hneed : n + xs.length ≤ cap
                  · -- in place
                    obtain ⟨hA, cells1, tt1, fr1, h5, h6⟩ := q7 (by omega)
                    rw [k5] at h5; cases h5
                    have hoff : A.add (n * inf.size) = ⟨L.cb, L.coff + (i - L.lo) * L.sz + n * inf.size, none⟩ := by rw [hA, at_off]; simp
                    generalize hk : L.coff + (i - L.lo) * L.sz + n * inf.size = k
                    have hkl : k + us.length ≤ cells0.size := by
                      refine Nat.le_trans ?_ h6
                      rw [← hk, hus.1, hsz]
                      have e1 : (i - L.lo) * inf.size + n * inf.size + xs.length * inf.size = (i - L.lo + (n + xs.length)) * inf.size := by simp [Nat.add_mul]; omega
                      have e2 : (i - L.lo + (n + xs.length)) * inf.size ≤ (i - L.lo + cap) * inf.size := Nat.mul_le_mul_right _ (by omega)
                      omega
                    have hcl : ∀ j, j < us.length → ∃ u, cells0[k + j]? = some u := fun j hj => ⟨cells0[k + j]'(by omega), by simp [show k + j < cells0.size by omega]⟩
                    have hst : (storeCells (A.add (n * inf.size)) us).run P w = .ok () (w.setCells L.cb k us) := by
                      rw [hoff, hk]
                      have := run_storeCells_cells (P := P) L.cb k us 0 w (fun j hj => by
                          obtain ⟨u, hu⟩ := hcl j hj
                          simp only [World.cell?, k5, Option.isSome_none, Bool.false_eq_true, if_false, Nat.add_zero, hu]; rfl) (fun j hj => by
                          obtain ⟨u, hu⟩ := hcl j hj
                          have hlt := (Array.getElem?_eq_some_iff.1 hu).1
                          have := k6 _ hlt
                          simp only [World.frozen?, k5, Nat.add_zero]
                          simpa using this) (hus.one hs0)
                      simpa using this
                    have hlow := hR.low b y.cur L hφ
                    have hE := ext_setCells (forb := forb) hlow.2.2 us k k5 hkl
                    obtain ⟨cells', w1, w2, w3⟩ := setCells_heap L.cb tt fr us k w cells0 k5 hkl
                    obtain ⟨s1, s2, s3, s4, s5⟩ := setCells_rest L.cb us k w
                    let L' : Loc := ⟨L.cb, L.coff, L.lo, i + (n + xs.length), inf.size⟩
                    have hm := upd_mono (φ := φ) (b := b) (v := y.cur + 1) (l := L') hnone
                    refine goes_value (c := .slice (some A) (n + xs.length) cap) (w' := w.setCells L.cb k us) ?_ ?_
                    · rw [hrun]
                      have := run_inplace (P := P) (w := w) (T := o.type) hu hu' hni hi (A := some A) (n := n) (m := xs.length) (cap := cap) (x := a.eval x) (us := us) hneed (w' := w.setCells L.cb k us) hlen (hfw w (fun _ => rfl)) (fun A' hA' => by cases hA'; exact hst) (fun hh => by cases hh)
                      rw [this]; rfl
                    · refine post_write hR (l := L) (l' := L') (φ' := upd φ b (y.cur + 1) L') hy1 hDb hφ k5 hkl hm (fun b' v' e => by unfold upd; rw [if_neg]; rintro ⟨h1, _⟩; exact e h1) (fun v' l' hl' => ?_) (by simp) (fun v' l' hv1 hv2 hl' => ?_) ?_
                      · unfold upd at hl'
                        split at hl'
                        · rename_i e; cases hl'; exact .inr ⟨rfl, rfl, hsz.symm, rfl, e.2⟩
                        · exact .inl hl'
                      · have hcase : (v' = y.cur + 1 ∧ l' = L') ∨ φ b v' = some l' := by
                          unfold upd at hl'
                          split at hl'
                          · rename_i e; cases hl'; exact .inl ⟨e.2, rfl⟩
                          · exact .inr hl'
                        rcases hcase with ⟨rfl, rfl⟩ | h1
                        · refine ⟨by simp [L', c2], by simp [L']; omega, fun _ => by simp [L']; omega, fun el hel => ?_, cells', tt, fr, w1, by rw [w2]; exact k6, fun j el oo z p1 p2 p3 p4 => ?_⟩
                          · rcases List.mem_append.1 hel with h1 | h1
                            · rw [← c2]; exact k4 el (List.mem_of_mem_take h1)
                            · exact hus.2.1 el h1
                          · simp only [L'] at p1 p2 p3 ⊢
                            by_cases e : j < i + n
                            · rw [take_get (by omega) e] at p3
                              obtain ⟨z1, u, z2, z3⟩ := k7 j el oo z p1 (by omega) p3 p4
                              refine ⟨z1, u, ?_, z3.ext hE _ hm⟩
                              have hol : oo < inf.size := by
                                have := k4 el (List.mem_of_getElem? p3)
                                have := (List.getElem?_eq_some_iff.1 p4).1
                                omega
                              rw [w3, if_neg, ← hsz]
                              · exact z2
                              · have := mul_sep (i := j - L.lo) (i' := i - L.lo + n) (s := inf.size) (o := oo) (o' := 0) (by omega) hol
                                rw [Nat.add_mul] at this
                                rw [← hk, hsz]; omega
                            · rw [List.getElem?_append_right (by simp; omega)] at p3
                              have hl3 : (y.els.take (i + n)).length = i + n := by simp; omega
                              rw [hl3] at p3
                              obtain ⟨z1, u, z2, z3⟩ := hus.2.2 _ el oo z p3 p4
                              refine ⟨z1, u, ?_, z3.ext hE _ hm⟩
                              have hul := (List.getElem?_eq_some_iff.1 z2).1
                              have e3 : L.coff + (j - L.lo) * inf.size + oo = k + ((j - (i + n)) * inf.size + oo) := by
                                rw [← hk, hsz]
                                have : j - L.lo = (i - L.lo) + n + (j - (i + n)) := by omega
                                rw [this]; simp [Nat.add_mul]; omega
                              rw [e3, w3, if_pos (by omega)]
                              rw [show k + ((j - (i + n)) * inf.size + oo) - k = (j - (i + n)) * inf.size + oo by omega]
                              exact z2
                        · have hvc := hR.new b y v' l' hDb hy1 h1
                          simp only [] at hv1
                          split at hv1
                          · rename_i hin
                            have hro := hR.row b y v' l' hDb hy1 hv1 hvc h1
                            have := row_old (m := i + n) (rd := if i + n = y.els.length then y.rd else y.cur + 1) (xs := xs) hro hE hm hin hyx hvc (fun cells2 tt2 fr2 hc2 => by
                              by_cases e : l'.cb = L.cb
                              · rw [e] at hc2 ⊢
                                rw [k5] at hc2; cases hc2
                                obtain ⟨_, g2, g3, g4⟩ := hR.apart _ _ _ _ _ _ h1 hφ e
                                refine ⟨cells', w1, w2, fun j oo p1 p2 p3 => ?_⟩
                                rw [w3, if_neg]
                                have := mul_sep (i := j - l'.lo) (i' := i - L.lo + n) (s := inf.size) (o := oo) (o' := 0) (by have := hro.len; omega) (by omega)
                                rw [Nat.add_mul] at this
                                rw [← hk, hsz, g2, g3, hsz]; omega
                              · exact ⟨cells2, by rw [s5 _ e]; exact hc2, rfl, fun _ _ _ _ _ => rfl⟩)
                            rw [c2] at this
                            exact this
                          · omega
                      · refine .os (upd_same ..) rfl q2 (by simp [L']) hneed q5 (fun hh => by cases hh) (fun _ => ⟨by rw [hA]; simp [Loc.at, L', hsz], cells', tt, fr, w1, by rw [w2]; exact h6⟩)
                  · -- a new row
                    obtain ⟨cap', cells, g1, g2, g3, g4, g5⟩ := run_grows (P := P) (w := w) (T := o.type) hu hu' hni hi hz hs0 hb0 hzs (A := some A) (n := n) (m := xs.length) (cap := cap) (x := a.eval x) (os := os) (us := us) (by rw [f1.1, hln]) hus.1 q4 q5 hneed c4 hlen f2 hfw
                    refine goes_value (by rw [hrun, g1]; rfl) ?_
                    let L' : Loc := ⟨w.heap.size, 0, i, i + (n + xs.length), inf.size⟩
                    have hm := upd_mono (φ := φ) (b := b) (v := y.cur + 1) (l := L') hnone
                    have hfa := fr_append f1 hus
                    refine post_grown hR (l' := L') hy1 hDb rfl rfl (fun forb' w' hE hw => ?_) (fun forb' w' hE hw v' l' hv1 hv2 hl' => ?_) (fun forb' w' hw => ?_)
                    · refine ⟨by simp [L'], by simp [L']; omega, fun _ => by simp [L']; omega, fun el hel => ?_, cells, el, (0, 0), hw, fun o _ => by simp, fun j el oo z p1 p2 p3 p4 => ?_⟩
                      · rcases List.mem_append.1 hel with h1 | h1
                        · rw [← c2]; exact k4 _ (List.mem_of_mem_take h1)
                        · exact hus.2.1 _ h1
                      · simp only [L'] at p1 p2 p3 ⊢
                        have e4 : ((y.els.drop i).take n ++ xs)[j - i]? = some el := by
                          rw [← p3]
                          by_cases e : j < i + n
                          · rw [take_get (by omega) e, List.getElem?_append_left (by omega), List.getElem?_take, if_pos (by omega), List.getElem?_drop]
                            congr 1; omega
                          · rw [List.getElem?_append_right (by omega), List.getElem?_append_right (by simp; omega), hln]
                            congr 1; simp; omega
                        obtain ⟨z1, u, z2, z3⟩ := hfa.2.2 _ el oo z e4 p4
                        refine ⟨z1, u, ?_, z3.ext hE _ hm⟩
                        have hul := (List.getElem?_eq_some_iff.1 z2).1
                        rw [hfa.1] at hul
                        have hl5 : ((y.els.drop i).take n ++ xs).length = n + xs.length := by rw [List.length_append, hln]
                        rw [hl5] at hul
                        rw [Nat.zero_add, g5 _ hul]; exact z2
                    · simp only [] at hv1
                      split at hv1
                      · rename_i hin
                        have hro := hR.row b y v' l' hDb hy1 hv1 hv2 hl'
                        have := row_old (m := i + n) (rd := if i + n = y.els.length then y.rd else y.cur + 1) (xs := xs) hro hE hm hin hyx hv2 (fun cells2 tt2 fr2 hc2 => ⟨cells2, by rw [hw _ (hR.low _ _ _ hl').2.1]; exact hc2, rfl, fun _ _ _ _ _ => rfl⟩)
                        rw [c2] at this
                        exact this
                      · omega
                    · refine .os (upd_same ..) rfl (Nat.le_refl _) (by simp [L']) g2 g3 (fun hh => by cases hh) (fun _ => ⟨by simp [Loc.at, L'], cells, el, (0, 0), hw, by simp [L', g4]⟩)
                · cases hr
            · cases hr
          · cases hr
      · cases hr
    · cases hr
  · cases hr
end Go.Mini

namespace Go.Mini
set_option linter.unusedVariables false
set_option linter.unusedSimpArgs false
variable {P : Program} {G : Nat → Option V} {n : Nat} {h : H} {t : List V}

/-- a value leads into blocks below n alone; immutable rows lead into none -/
inductive VB : Nat → V → Prop
  | bool {N b} : VB N (.bool b)
  | int {N k i} : VB N (.int k i)
  | str {N s} : VB N (.str s)
  | undef {N} : VB N .undef
  | nilp {N} : VB N .nilp
  | nils {N} : VB N .nils
  | nilm {N} : VB N .nilm
  | nilf {N} : VB N .nilf
  | nilmap {N} : VB N .nilmap
  | mp {N b} (h : b < N) : VB N (.mp b)
  | ptr {N b v i o} (h : b < N) : VB N (.ptr b v i o)
  | os {N b v sz i q c} (h : b < N) : VB N (.os b v sz i q c)
  | rp {N} {cells : List V} (h : ∀ x ∈ cells, VB 0 x) : VB N (.rp cells)
  | rs {N sz} {els : List (List V)} (h : ∀ el ∈ els, ∀ x ∈ el, VB 0 x) : VB N (.rs sz els)
  | fn {N f} {cap : List V} (h : ∀ x ∈ cap, VB N x) : VB N (.fn f cap)
  | agg {N} {cs : List V} (h : ∀ x ∈ cs, VB N x) : VB N (.agg cs)
  | tup {N} {cs : List V} (h : ∀ x ∈ cs, VB N x) : VB N (.tup cs)

theorem VB.mono' {n : Nat} {v : V} (h : VB n v) : ∀ {m : Nat}, n ≤ m → VB m v := by
  induction h with
  | ptr h => intro m hm; exact .ptr (by omega)
  | mp h => intro m hm; exact .mp (by omega)
  | os h => intro m hm; exact .os (by omega)
  | rp h _ => intro m hm; exact .rp h
  | rs h _ => intro m hm; exact .rs h
  | fn _ ih => intro m hm; exact .fn fun x hx => ih x hx hm
  | agg _ ih => intro m hm; exact .agg fun x hx => ih x hx hm
  | tup _ ih => intro m hm; exact .tup fun x hx => ih x hx hm
  | _ => intro m hm; constructor
theorem VB.mono {m : Nat} (hnm : n ≤ m) {v : V} (h : VB n v) : VB m v := h.mono' hnm
theorem VB.up {v : V} (h : VB 0 v) : VB n v := h.mono' (Nat.zero_le _)

theorem VR.vb {forb : Nat → Prop} {φ : Phi} {w : World} {v : V} {c : Value} (h : VR forb w φ v c) : ∀ {n : Nat}, (∀ b v l, φ b v = some l → b < n) → VB n v := by
  induction h with
  | ptr hφ => intro n hn; exact .ptr (hn _ _ _ hφ)
  | mp hφ => intro n hn; exact .mp (hn _ _ _ hφ)
  | os hφ => intro n hn; exact .os (hn _ _ _ hφ)
  | rs hl hc hm hs hv ih =>
    intro n _
    refine .rs fun el hel x hx => ?_
    obtain ⟨i, hi⟩ := List.getElem?_of_mem hel
    obtain ⟨o, ho⟩ := List.getElem?_of_mem hx
    obtain ⟨_, _, c, h3⟩ := hs i el o x hi ho
    exact ih i el o x c hi ho h3 (fun _ _ _ h => by cases h)
  | rp hs hv ih =>
    intro n _
    refine .rp fun x hx => ?_
    obtain ⟨o, ho⟩ := List.getElem?_of_mem hx
    obtain ⟨_, _, c, h3⟩ := hs o x ho
    exact ih o x c ho h3 (fun _ _ _ h => by cases h)
  | fn hl hv ih =>
    intro n hn
    refine .fn fun x hx => ?_
    obtain ⟨i, hi⟩ := List.getElem?_of_mem hx
    have := (List.getElem?_eq_some_iff.1 hi).1
    exact ih i x _ hi (List.getElem?_eq_getElem (by omega)) hn
  | agg hl hc hv ih =>
    intro n hn
    refine .agg fun x hx => ?_
    obtain ⟨i, hi⟩ := List.getElem?_of_mem hx
    have := (List.getElem?_eq_some_iff.1 hi).1
    exact ih i x _ hi (List.getElem?_eq_getElem (by omega)) hn
  | tup hl hv ih =>
    intro n hn
    refine .tup fun x hx => ?_
    obtain ⟨i, hi⟩ := List.getElem?_of_mem hx
    have := (List.getElem?_eq_some_iff.1 hi).1
    exact ih i x _ hi (List.getElem?_eq_getElem (by omega)) hn
  | _ => intro n _; constructor

def HB (n : Nat) (h : H) : Prop := ∀ (b : Nat) (x : Row), h[b]? = some (.row x) → ∀ el ∈ x.els, ∀ y ∈ el, VB n y
def GB (G : Nat → Option V) : Prop := ∀ k v, G k = some v → VB 0 v

theorem HB.mono {m : Nat} (hnm : n ≤ m) (hh : HB n h) : HB m h := fun b x hb el hel y hy => (hh b x hb el hel y hy).mono hnm
theorem HB.set (hh : HB n h) {b : Nat} {x : Row} (hx : ∀ el ∈ x.els, ∀ y ∈ el, VB n y) : HB n (h.set b (.row x)) := by
  intro b' x' hb'
  rw [List.getElem?_set] at hb'
  split at hb'
  · split at hb'
    · cases hb'; exact hx
    · cases hb'
  · exact hh b' x' hb'
theorem HB.setMp (hh : HB n h) {b : Nat} {es : Ents} : HB n (h.set b (.mp es)) := by
  intro b' x hb
  by_cases e : b = b'
  · subst e
    have hlt := (List.getElem?_eq_some_iff.1 hb).1
    rw [List.getElem?_set_self (by simpa using hlt)] at hb
    cases hb
  · rw [List.getElem?_set_ne e] at hb
    exact hh b' x hb
theorem HB.newRow (hh : HB n h) {sz : Nat} {els : List (List V)} (hx : ∀ el ∈ els, ∀ y ∈ el, VB n y) : HB n (newRow h sz els) := by
  intro b x hb
  unfold Mini.newRow at hb
  rw [List.getElem?_append] at hb
  split at hb
  · exact hh b x hb
  · rcases hq : b - h.length with _ | k
    · rw [hq] at hb; simp at hb; subst hb; exact hx
    · rw [hq] at hb; simp at hb

theorem VB.cells {v : V} (h : VB n v) : ∀ y ∈ v.cells, VB n y := by
  cases h with
  | agg h => exact h
  | _ => simp only [V.cells, List.mem_singleton, forall_eq]; constructor <;> assumption

def Opd.okC : Opd → Prop
  | .c v => VB 0 v
  | _ => True
def AllC (l : List Opd) : Prop := ∀ x ∈ l, x.okC
def AllP (l : List (Nat × Nat × Opd)) : Prop := ∀ x ∈ l, x.2.2.okC
def All0 (l : List V) : Prop := ∀ x ∈ l, VB 0 x
def MOp.okC : MOp → Prop
  | .mv x | .box _ x | .nilc x | .faddr _ x | .field _ _ x | .extract x _ | .load _ x => x.okC
  | .iaddr _ a _ | .iaddrA _ _ a _ | .idxA _ _ _ a _ => a.okC
  | .cut _ x _ _ _ => x.okC
  | .pick c a b => a.okC ∧ b.okC
  | .alloc cells => All0 cells
  | .build z ps | .bslice _ _ z ps => All0 z ∧ AllP ps
  | .store _ a x | .append _ _ a x => a.okC ∧ x.okC
  | .mkslice _ _ z _ _ => All0 z
  | .mkfn _ cs => AllC cs
  | .call f as => f.okC ∧ AllC as
  | _ => True

theorem ofVal1_vb {x : Value} {v : V} (h : ofVal1 x = some v) : VB n v := by
  unfold ofVal1 at h
  split at h
  case h_4 => split at h <;> cases h; exact .undef
  all_goals cases h
  all_goals constructor
theorem ofVals_vb : ∀ {xs : List Value} {vs : List V}, ofVals xs = some vs → ∀ v ∈ vs, VB n v
  | [], vs, h => by cases h; simp
  | x :: xs, vs, h => by
    unfold ofVals at h
    split at h
    · rename_i y ys h1 h2
      split at h
      · cases h
        intro v hv
        rcases List.mem_cons.1 hv with rfl | hv
        · exact ofVal1_vb h1
        · exact ofVals_vb h2 v hv
      · cases h
    · cases h
theorem ofVal_vb {x : Value} {v : V} (h : ofVal x = some v) : VB n v := by
  unfold ofVal at h
  split at h
  · rename_i cs
    rcases hc : ofVals cs.toList with _ | vs
    · simp [hc] at h
    · simp [hc] at h; subst h; exact .agg (ofVals_vb hc)
  · exact ofVal1_vb h
theorem zeroT_vb {ty : TypeId} {z : V} (h : zeroT P ty = some z) : All0 z.cells := by
  unfold zeroT at h
  split at h
  · split at h
    · exact (ofVal_vb h).cells
    · cases h
  · cases h
theorem opd_okC {x : Operand} {d : Opd} (h : opd x = some d) : d.okC := by
  unfold opd at h
  split at h
  · cases h; trivial
  · rename_i v
    rcases hq : ofVal v with _ | u
    · simp [hq] at h
    · simp [hq] at h; subst h; exact ofVal_vb (n := 0) hq
  · cases h; trivial
  · cases h; exact VB.fn (N := 0) (by simp)
theorem opds_okC {xs : List Operand} {ds : List Opd} (h : mapM? opd xs = some ds) : AllC ds := by
  intro d hd
  obtain ⟨i, hi⟩ := List.getElem?_of_mem hd
  obtain ⟨x, _, h2⟩ := mapM?_get h i d hi
  exact opd_okC h2
theorem opd_mem_okC {xs : List Operand} {ds : List Opd} (h : mapM? opd xs = some ds) {d : Opd} (hd : d ∈ ds) : d.okC := opds_okC h d hd

theorem mapParts {α : Type} {f : α → Option (Nat × Nat × Opd)} {xs : List α} {ps : List (Nat × Nat × Opd)} (h : mapM? f xs = some ps) (hf : ∀ x y, f x = some y → y.2.2.okC) : AllP ps := by
  intro p hp
  obtain ⟨i, hi⟩ := List.getElem?_of_mem hp
  obtain ⟨x, _, h2⟩ := mapM?_get h i p hi
  exact hf _ _ h2

theorem map_inv {α β : Type} {f : α → β} {x : Option α} {y : β} (h : x.map f = some y) : ∃ z, x = some z ∧ f z = y := by
  cases x <;> simp at h; exact ⟨_, rfl, h⟩

theorem compOp_okC {o : Oper} {m : MOp} (hm : compOp P o = some m) : m.okC := by
  cases ho : o.op <;> simp only [compOp, ho] at hm <;> try (cases hm; done)
  all_goals try (rcases hq : opd ‹_› with _ | d <;> simp only [hq, Option.map_none, Option.map_some] at hm <;> (first | (cases hm; done) | skip) <;> cases hm <;> first | exact opd_okC hq | trivial)
  case build ty parts =>
    split at hm
    · rename_i z fs hz hu
      split at hm
      · rename_i ps ss hp hs
        split at hm
        · cases hm
          refine ⟨zeroT_vb hz, mapParts hp fun x y hxy => ?_⟩
          split at hxy
          · rename_i h1 h2
            obtain ⟨s, _, rfl⟩ := map_inv hxy
            skip; exact opd_okC h2
          · cases hxy
        · cases hm
      · cases hm
    · cases hm
  case buildSlice ty len parts =>
    split at hm
    · split at hm
      · rename_i s z hs hz
        split at hm
        · cases hm
        · split at hm
          · rename_i ps hp; cases hm
            refine ⟨zeroT_vb hz, mapParts hp fun x y hxy => ?_⟩
            rcases hq : opd x.2 with _ | d <;> simp [hq] at hxy
            subst hxy; exact opd_okC hq
          · cases hm
      · cases hm
    · cases hm
  case field ty x f =>
    repeat' split at hm
    all_goals first
      | (cases hm; done)
      | skip
    obtain ⟨s, _, rfl⟩ := map_inv hm
    exact opd_okC ‹_›
  case indexAddr ty x ix =>
    split at hm
    · rename_i h2 h3
      obtain ⟨s, _, rfl⟩ := map_inv hm
      skip; exact opd_okC h2
    · rename_i h2 h3
      obtain ⟨s, _, rfl⟩ := map_inv hm
      skip; exact opd_okC h2
    · cases hm
  case call c =>
    split at hm
    · repeat' split at hm
      all_goals first
        | (cases hm; done)
        | (cases hm; trivial)
    · split at hm
      · rename_i h2
        repeat' split at hm
        all_goals first
          | (cases hm; done)
          | (cases hm; exact ⟨opd_mem_okC h2 (by simp), opd_mem_okC h2 (by simp)⟩)
      · cases hm
    · obtain ⟨s, _, rfl⟩ := map_inv hm
      skip; trivial
    · obtain ⟨s, _, rfl⟩ := map_inv hm
      skip; trivial
    · split at hm
      · split at hm
        · cases hm; trivial
        · cases hm
      · split at hm
        · rename_i h1 h2; cases hm; exact ⟨opd_okC h1, opds_okC h2⟩
        · cases hm
    · cases hm
  case alloc ty =>
    split at hm
    · rename_i hz
      split at hm
      · cases hm; exact zeroT_vb hz
      · cases hm
    · cases hm
  case makeSlice ty l c =>
    split at hm
    · split at hm
      · rename_i h2 _ _
        split at hm
        · cases hm
        · cases hm; exact zeroT_vb h2
      · cases hm
    · cases hm
  case makeFunc fn first cap =>
    cases fn <;> simp only [] at hm <;> try (cases hm; done)
    split at hm
    · rename_i h1 h2; cases hm; exact opds_okC h2
    · cases hm
  case pick c x y =>
    split at hm
    · rename_i h1 h2 h3; cases hm; exact ⟨opd_okC h2, opd_okC h3⟩
    · cases hm
  case store ty x y =>
    split at hm
    · rename_i h1 h2 h3
      split at hm
      · cases hm
      · cases hm; exact ⟨opd_okC h2, opd_okC h3⟩
    · cases hm
  case box ty x =>
    split at hm
    · rename_i h1 h2; cases hm; exact opd_okC h1
    · cases hm
  case load ty x =>
    split at hm
    · rename_i h1 h2; cases hm; exact opd_okC h2
    · cases hm
  case fieldAddr ty x f =>
    split at hm
    · rename_i h1 h2
      repeat' split at hm
      all_goals first
        | (cases hm; done)
        | (cases hm; exact opd_okC h2)
    · cases hm
  case slice ty x lo hi mx =>
    split at hm
    · cases hm; trivial
    · rename_i h1 h2 h3 h4 h5
      repeat' split at hm
      all_goals first
        | (cases hm; done)
        | (cases hm; exact opd_okC h2)
    · cases hm
  case index ty x ix =>
    split at hm
    · cases hm; trivial
    · cases hm
  case binOp op ty x y ty' =>
    split at hm
    · cases hm; trivial
    · cases hm
  case convert src dst x =>
    repeat' split at hm
    all_goals first
      | (cases hm; done)
      | (cases hm; trivial)

theorem compX_okC {o : Oper} {m : MOp} (hm : compX P o = m) : m.okC := by
  rcases compX_cases P o with h1 | h1 | h1
  · rw [hm] at h1
    unfold compNil at h1
    split at h1
    · split at h1
      · rename_i hx
        cases h1
        trivial
      · cases h1
    · split at h1
      · rename_i hz hu
        split at h1
        · split at h1
          · rename_i ps hp
            split at h1
            · cases h1
              refine ⟨zeroT_vb hz, mapParts hp fun x y hxy => ?_⟩
              rcases hq : opd x.2 with _ | d <;> simp [hq] at hxy
              subst hxy; exact opd_okC hq
            · cases h1
          · cases h1
        · cases h1
      · cases h1
    · split at h1
      · rename_i h2 h3
        split at h1
        · cases h1; exact opd_okC h2
        · cases h1
      · cases h1
    · split at h1
      · split at h1
        · split at h1
          · cases h1; trivial
          · cases h1
        · cases h1
      · cases h1
    · cases h1; trivial
    · split at h1
      · split at h1
        · cases h1; trivial
        · cases h1
      · cases h1
    · split at h1
      · split at h1
        · cases h1; trivial
        · cases h1
      · cases h1
    · cases h1
  · rw [hm] at h1; exact compOp_okC h1
  · rw [hm] at h1; subst h1
    exact ⟨VB.undef, fun d hd => by cases hd⟩
theorem ev_vb (hG : GB G) (ht : ∀ v ∈ t, VB n v) {x : Opd} (hx : x.okC) {v : V} (h : ev G t x = some v) : VB n v := by
  cases x with
  | t i => exact ht v (List.mem_of_getElem? h)
  | c u => cases h; exact hx.mono (Nat.zero_le _)
  | g k => exact (hG k v h).mono (Nat.zero_le _)
theorem evs_vb (hG : GB G) (ht : ∀ v ∈ t, VB n v) : ∀ {xs : List Opd} {vs : List V}, AllC xs → evs G t xs = some vs → ∀ v ∈ vs, VB n v
  | [], vs, _, h => by cases h; simp
  | x :: xs, vs, hx, h => by
    unfold evs at h
    split at h
    · rename_i h1 h2; cases h
      intro v hv
      rcases List.mem_cons.1 hv with rfl | hv
      · exact ev_vb hG ht (hx x (by simp)) h1
      · exact evs_vb hG ht (fun y hy => hx y (by simp [hy])) h2 v hv
    · cases h
theorem evP_vb (hG : GB G) (ht : ∀ v ∈ t, VB n v) : ∀ {xs : List (Nat × Nat × Opd)} {vs : List (Nat × Nat × V)}, AllP xs → evP G t xs = some vs → ∀ v ∈ vs, VB n v.2.2
  | [], vs, _, h => by cases h; simp
  | (a, b, x) :: xs, vs, hx, h => by
    unfold evP at h
    split at h
    · rename_i h1 h2; cases h
      intro v hv
      rcases List.mem_cons.1 hv with rfl | hv
      · exact ev_vb hG ht (hx (a, b, x) (by simp)) h1
      · exact evP_vb hG ht (fun y hy => hx y (by simp [hy])) h2 v hv
    · cases h

theorem setFrom_vb {l cs : List V} {o : Nat} (hl : ∀ v ∈ l, VB n v) (hc : ∀ v ∈ cs, VB n v) : ∀ v ∈ setFrom l o cs, VB n v := by
  intro v hv
  simp only [setFrom, List.mem_append] at hv
  rcases hv with (h1 | h1) | h1
  · exact hl v (List.mem_of_mem_take h1)
  · exact hc v h1
  · exact hl v (List.mem_of_mem_drop h1)
theorem fillV_vb : ∀ {ps : List (Nat × Nat × V)} {cells cs : List V}, (∀ v ∈ cells, VB n v) → (∀ p ∈ ps, VB n p.2.2) → fillV cells ps = some cs → ∀ v ∈ cs, VB n v
  | [], cells, cs, hc, _, h => by cases h; exact hc
  | (off, size, v) :: rest, cells, cs, hc, hp, h => by
    unfold fillV at h
    split at h
    · cases h
    · exact fillV_vb (setFrom_vb hc (hp (off, size, v) (by simp)).cells) (fun p h1 => hp p (by simp [h1])) h
theorem chunks_vb {sz : Nat} : ∀ {k : Nat} {l : List V}, (∀ v ∈ l, VB n v) → ∀ el ∈ chunks sz k l, ∀ v ∈ el, VB n v
  | 0, l, _ => by simp [chunks]
  | k + 1, l, hl => by
    intro el hel v hv
    simp only [chunks, List.mem_cons] at hel
    rcases hel with rfl | hel
    · exact hl v (List.mem_of_mem_take hv)
    · exact chunks_vb (fun v hv => hl v (List.mem_of_mem_drop hv)) el hel v hv
theorem rowAt_vb (hh : HB n h) {b v : Nat} {x : Row} (hx : rowAt h b v = some x) : ∀ el ∈ x.els, ∀ y ∈ el, VB n y := by
  unfold rowAt at hx
  split at hx
  · rename_i y hy
    split at hx
    · cases hx; exact hh b _ hy
    · cases hx
  · cases hx
theorem deref_vb (hh : HB n h) {a : V} (ha : VB n a) {cells : List V} {r : List Nat} (hd : deref h a = some (cells, r)) : ∀ y ∈ cells, VB n y := by
  unfold deref at hd
  split at hd
  · cases hd; cases ha; rename_i h1; exact fun y hy => (h1 y hy).up
  · split at hd
    · rename_i x hx
      split at hd
      · rename_i el he; cases hd
        exact fun y hy => rowAt_vb hh hx el (List.mem_of_getElem? he) y (List.mem_of_mem_drop hy)
      · cases hd
    · cases hd
  · cases hd
theorem loadC_vb {cells : List V} (hc : ∀ y ∈ cells, VB n y) {agg : Option Nat} {v : V} (hl : loadC agg cells = some v) : VB n v := by
  unfold loadC at hl
  split at hl
  · split at hl
    · cases hl; exact .agg fun x hx => hc x (List.mem_of_mem_take hx)
    · cases hl
  · exact hc v (List.mem_of_mem_head? hl)
theorem elems_vb (hh : HB n h) {a : V} (ha : VB n a) {sz : Nat} {els : List (List V)} {r : List Nat} (hd : elems h a = some (sz, els, r)) : ∀ el ∈ els, ∀ y ∈ el, VB n y := by
  unfold elems at hd
  split at hd
  · cases hd; cases ha; rename_i h1; exact fun el hel y hy => (h1 el hel y hy).up
  · split at hd
    · rename_i x hx
      split at hd
      · cases hd
        exact fun el hel => rowAt_vb hh hx el (List.mem_of_mem_drop (List.mem_of_mem_take hel))
      · cases hd
    · cases hd
  · cases hd
theorem sources_vb (hh : HB n h) {a : V} (ha : VB n a) {sz : Nat} {els : List (List V)} {r : List Nat} (hd : sources sz h a = some (els, r)) : ∀ el ∈ els, ∀ y ∈ el, VB n y := by
  unfold sources at hd
  split at hd
  · cases hd; simp
  · split at hd
    · cases hd
      intro el hel y hy
      simp only [List.mem_map] at hel
      obtain ⟨c, _, rfl⟩ := hel
      simp at hy; subst hy; exact .int
    · cases hd
  · split at hd
    · rename_i h1
      split at hd
      · cases hd; exact elems_vb hh ha h1
      · cases hd
    · cases hd

theorem storeV_vb (hh : HB n h) {a x : V} (hx : VB n x) {k : Nat} {r : Res} (hr : storeV k h a x = some r) : VB n r.v ∧ HB n r.h := by
  unfold storeV at hr
  split at hr
  · split at hr
    · rename_i y hy
      split at hr
      · split at hr
        · rename_i el he
          split at hr
          · cases hr
            refine ⟨.undef, hh.set fun el' hel' z hz => ?_⟩
            rcases List.mem_or_eq_of_mem_set hel' with h1 | rfl
            · exact rowAt_vb hh hy el' h1 z hz
            · exact setFrom_vb (rowAt_vb hh hy el (List.mem_of_getElem? he)) hx.cells z hz
          · cases hr
        · cases hr
      · cases hr
    · cases hr
  · cases hr

theorem binV_vb {op : BinOp} {cmp : Cmp} {x y v : V} (h : binV op cmp x y = some v) : VB n v := by
  have he : ∀ {op b v}, eqOp op b = some v → VB n v := by
    intro op b v h; unfold eqOp at h; split at h <;> cases h <;> exact .bool
  unfold binV at h
  split at h
  · unfold intV at h
    simp only [forceI_eq, cond_eq_ite] at h
    repeat' split at h
    all_goals first
      | (cases h; done)
      | (cases h; exact .int)
      | (cases h; exact .bool)
  · unfold strV at h
    repeat' split at h
    all_goals first
      | (cases h; done)
      | (cases h; exact .str)
      | (cases h; exact .bool)
  · unfold boolV at h
    split at h
    · exact he h
    · cases h
  · unfold aggV at h
    repeat' split at h
    all_goals first
      | (cases h; done)
      | exact he h
  · unfold nilV at h
    repeat' split at h
    all_goals first
      | (cases h; done)
      | exact he h
theorem unV_vb {op : UnOp} {x v : V} (h : unV op x = some v) : VB n v := by
  unfold unV at h
  simp only [forceI_eq] at h
  repeat' split at h
  all_goals first
    | (cases h; done)
    | (cases h; exact .int)
    | (cases h; exact .bool)
theorem cutV_vb {sz : Nat} {x : V} (hx : VB n x) {lo hi mx : Option Opd} {v : V} (h : cutV G t sz x lo hi mx = some v) : VB n v := by
  unfold cutV at h
  split at h
  · repeat' split at h
    all_goals first
      | (cases h; done)
      | (cases h; exact .nils)
  · cases hx
    rename_i hx
    repeat' split at h
    all_goals first
      | (cases h; done)
      | (cases h; exact .rs fun el hel => hx el (List.mem_of_mem_take (List.mem_of_mem_drop hel)))
  · cases hx
    rename_i hx
    repeat' split at h
    all_goals first
      | (cases h; done)
      | (cases h; exact .os hx)
  · cases h
theorem one_vb {v : Option V} (hv : ∀ u, v = some u → VB n u) (hh : HB n h) {x : Res} (hx : one v h = some x) : VB n x.v ∧ HB n x.h := by
  unfold one at hx
  split at hx
  · cases hx; exact ⟨hv _ rfl, hh⟩
  · cases hx
theorem newRow_len {h : H} {sz : Nat} {els : List (List V)} : (newRow h sz els).length = h.length + 1 := by simp [newRow]
theorem fresh_vb (hh : HB h.length h) {sz : Nat} {els : List (List V)} (hx : ∀ el ∈ els, ∀ y ∈ el, VB h.length y) : HB (newRow h sz els).length (newRow h sz els) :=
  (hh.newRow hx).mono (by simp [newRow])
theorem low_vb {l : List V} (h : All0 l) : ∀ v ∈ l, VB n v := fun v hv => (h v hv).mono (Nat.zero_le _)

/-- calls lead below the heap's length -/
def VbOk (C : FuncId → List V → H → Option Res) : Prop := ∀ f args h x, C f args h = some x → (∀ v ∈ args, VB h.length v) → HB h.length h → VB x.h.length x.v ∧ HB x.h.length x.h

theorem appendV_vb (hh : HB h.length h) {s x : V} (hs : VB h.length s) (hx : VB h.length x) {sz bytes : Nat} {r : Res} (hr : appendV sz bytes h s x = some r) : VB r.h.length r.v ∧ HB r.h.length r.h := by
  unfold appendV at hr
  split at hr
  · rename_i xs rd hsrc
    have hxs := sources_vb hh hx hsrc
    split at hr
    · split at hr
      · cases hr; exact ⟨.nils, hh⟩
      · split at hr
        · cases hr; exact ⟨.os (by simp [newRow]), fresh_vb hh hxs⟩
        · cases hr
    · split at hr
      · cases hr; exact ⟨hs, hh⟩
      · cases hr
    · split at hr
      · cases hr; exact ⟨hs, hh⟩
      · cases hs
        rename_i hb
        split at hr
        · rename_i y hy
          have hy' := rowAt_vb hh hy
          repeat' split at hr
          all_goals first
            | (cases hr; done)
            | (cases hr; refine ⟨.os (by simp [newRow]), fresh_vb hh fun el hel => ?_⟩
               rcases List.mem_append.1 hel with h1 | h1
               · exact hy' el (List.mem_of_mem_drop (List.mem_of_mem_take h1))
               · exact hxs el h1)
            | (cases hr; refine ⟨.os (by simpa using hb), ?_⟩
               simp only [List.length_set]
               refine hh.set fun el hel => ?_
               rcases List.mem_append.1 hel with h1 | h1
               · exact hy' el (List.mem_of_mem_take h1)
               · exact hxs el h1)
        · cases hr
    · cases hr
  · cases hr

theorem opV_vb {C : FuncId → List V → H → Option Res} (hC : VbOk C) (hG : GB G) {m : MOp} (hm : m.okC) (ht : ∀ v ∈ t, VB h.length v) (hh : HB h.length h) {x : Res} (hx : opV G C t m h = some x) : VB x.h.length x.v ∧ HB x.h.length x.h := by
  have ev1 : ∀ {x : Opd} {v}, x.okC → ev G t x = some v → VB h.length v := fun hx h1 => ev_vb hG ht hx h1
  have same : ∀ {v : Option V}, (∀ u, v = some u → VB h.length u) → ∀ {x : Res}, one v h = some x → VB x.h.length x.v ∧ HB x.h.length x.h := by
    intro v hv x hx
    have := one_vb hv hh hx
    unfold one at hx; split at hx
    · cases hx; exact this
    · cases hx
  cases m <;> simp only [opV] at hx
  case mv x0 => exact same (fun u hu => ev1 hm hu) hx
  case pick c a b =>
    unfold op_pick at hx
    split at hx
    · exact same (fun u hu => ev1 hm.1 hu) hx
    · exact same (fun u hu => ev1 hm.2 hu) hx
    · cases hx
  case alloc cells => unfold op_alloc at hx; cases hx; exact ⟨.ptr (by simp [newRow]), fresh_vb hh (by simpa using low_vb hm)⟩
  case box k x0 =>
    unfold op_box at hx
    split at hx
    · rename_i u hu
      split at hx
      · cases hx; exact ⟨.ptr (by simp [newRow]), fresh_vb hh (by simpa using (ev1 hm hu).cells)⟩
      · cases hx
    · cases hx
  case build z ps =>
    unfold op_build at hx
    split at hx
    · rename_i qs hq
      split at hx
      · rename_i cs hc; cases hx; exact ⟨.agg (fillV_vb (low_vb hm.1) (evP_vb hG ht hm.2 hq) hc), hh⟩
      · cases hx
    · cases hx
  case bslice sz len z ps =>
    unfold op_bslice at hx
    split at hx
    · rename_i qs hq
      split at hx
      · rename_i cs hc; cases hx
        refine ⟨.os (by simp [newRow]), fresh_vb hh (chunks_vb (fillV_vb (fun v hv => ?_) (evP_vb hG ht hm.2 hq) hc))⟩
        simp only [List.mem_flatten, List.mem_replicate] at hv
        obtain ⟨l, ⟨_, rfl⟩, hv⟩ := hv
        exact low_vb hm.1 v hv
      · cases hx
    · cases hx
  case load agg a =>
    unfold op_load at hx
    split at hx
    · rename_i u hu
      split at hx
      · rename_i cells r hd
        split at hx
        · rename_i v hv; cases hx; exact ⟨loadC_vb (deref_vb hh (ev1 hm hu) hd) hv, hh⟩
        · cases hx
      · cases hx
    · cases hx
  case store k a x0 =>
    unfold op_store at hx
    split at hx
    · rename_i u v hu hv
      have hl : x.h.length = h.length := by
        unfold storeV at hx
        repeat' split at hx
        all_goals first
          | (cases hx; done)
          | (cases hx; simp)
      rw [hl]; exact storeV_vb hh (ev1 hm.2 hv) hx
    · cases hx
  case nilc x0 =>
    unfold op_nilc at hx
    split at hx
    · rename_i hu; cases hx; exact ⟨ev1 hm hu, hh⟩
    · rename_i hu; cases hx; exact ⟨ev1 hm hu, hh⟩
    · rename_i hu; cases hx; exact ⟨ev1 hm hu, hh⟩
    · cases hx
  case bin op cmp x0 y0 =>
    unfold op_bin at hx
    split at hx
    · exact same (fun u hu => binV_vb hu) hx
    · cases hx
  case un op x0 =>
    unfold op_un at hx
    split at hx
    · exact same (fun u hu => unV_vb hu) hx
    · cases hx
  case convI k x0 =>
    unfold op_convI at hx
    split at hx
    · simp only [forceI_eq] at hx; cases hx; exact ⟨.int, hh⟩
    · cases hx
  case s2b x0 =>
    unfold op_s2b at hx
    split at hx
    · split at hx
      · cases hx
        refine ⟨.os (by simp [newRow]), fresh_vb hh fun el hel y hy => ?_⟩
        simp only [List.mem_map] at hel
        obtain ⟨c, _, rfl⟩ := hel
        simp at hy; subst hy; exact .int
      · cases hx
    · cases hx
  case b2s x0 =>
    unfold op_b2s at hx
    repeat' split at hx
    all_goals first
      | (cases hx; done)
      | (cases hx; exact ⟨.str, hh⟩)
  case mkfn f cs =>
    unfold op_mkfn at hx
    split at hx
    · rename_i hc; cases hx; exact ⟨.fn (evs_vb hG ht hm hc), hh⟩
    · cases hx
  case mkslice sz bytes z l c =>
    unfold op_mkslice at hx
    split at hx
    · split at hx
      · cases hx
      · cases hx
        refine ⟨.os (by simp [newRow]), fresh_vb hh fun el hel y hy => ?_⟩
        obtain ⟨_, rfl⟩ := List.mem_replicate.1 hel
        exact low_vb hm y hy
    · cases hx
  case cut sz x0 lo hi mx =>
    unfold op_cut at hx
    split at hx
    · rename_i hu; exact same (fun u h1 => cutV_vb (ev1 hm hu) h1) hx
    · cases hx
  case cutS x0 lo hi =>
    unfold op_cutS at hx
    repeat' split at hx
    all_goals first
      | (cases hx; done)
      | (cases hx; exact ⟨.str, hh⟩)
  case faddr off x0 =>
    unfold op_faddr at hx
    split at hx
    · rename_i hu; cases hx
      have := ev1 hm hu
      cases this; exact ⟨.ptr ‹_›, hh⟩
    · rename_i hu; cases hx
      have := ev1 hm hu
      cases this; rename_i h1; exact ⟨.rp fun x hx => h1 x (List.mem_of_mem_drop hx), hh⟩
    · cases hx
  case field agg off x0 =>
    unfold op_field at hx
    split at hx
    · rename_i hu
      have := ev1 hm hu
      cases this; rename_i h1
      exact same (fun u h2 => loadC_vb (fun y hy => h1 y (List.mem_of_mem_drop hy)) h2) hx
    · cases hx
  case iaddr s x0 ix =>
    unfold op_iaddr at hx
    split at hx
    · rename_i hu _
      have := ev1 hm hu
      cases this; rename_i h1
      repeat' split at hx
      all_goals first
        | (cases hx; done)
        | (rename_i el he; cases hx; exact ⟨.rp (h1 el (List.mem_of_getElem? he)), hh⟩)
    · rename_i hu _
      have := ev1 hm hu
      cases this
      split at hx
      · cases hx; exact ⟨.ptr ‹_›, hh⟩
      · cases hx
    · cases hx
  case iaddrA len s x0 ix =>
    unfold op_iaddrA at hx
    split at hx
    · rename_i hu _
      have := ev1 hm hu
      cases this; rename_i h1
      split at hx
      · cases hx; exact ⟨.rp fun x hx => h1 x (List.mem_of_mem_drop hx), hh⟩
      · cases hx
    · rename_i hu _
      have := ev1 hm hu
      cases this
      split at hx
      · cases hx; exact ⟨.ptr ‹_›, hh⟩
      · cases hx
    · cases hx
  case idxA l agg s x0 ix =>
    unfold op_idxA at hx
    split at hx
    · rename_i hu _
      have := ev1 hm hu
      cases this; rename_i h1
      split at hx
      · exact same (fun u h2 => loadC_vb (fun y hy => h1 y (List.mem_of_mem_drop hy)) h2) hx
      · cases hx
    · cases hx
  case mkmap =>
    unfold op_mkmap at hx
    cases hx
    refine ⟨.mp (by simp), fun b x hb => ?_⟩
    have h4 := (List.getElem?_eq_some_iff.1 hb).1
    by_cases hlt : b < h.length
    · rw [List.getElem?_append_left hlt] at hb
      exact fun el hel y hy => (hh b x hb el hel y hy).mono (by simp)
    · have : b = h.length := by simp at h4; omega
      subst this
      simp at hb
  case look ks zk z ok m k =>
    unfold op_look at hx
    repeat' split at hx
    all_goals first
      | (cases hx; done)
      | (cases hx
         refine ⟨?_, hh⟩
         unfold lookR
         split
         · cases ok
           · exact .int
           · exact .tup fun u hu => by
               simp only [List.mem_cons, List.not_mem_nil, or_false] at hu
               rcases hu with rfl | rfl <;> constructor
         · cases ok
           · exact .int
           · exact .tup fun u hu => by
               simp only [List.mem_cons, List.not_mem_nil, or_false] at hu
               rcases hu with rfl | rfl <;> constructor)
  case mput ks m k x0 =>
    unfold op_mput at hx
    repeat' split at hx
    all_goals first
      | (cases hx; done)
      | (cases hx
         exact ⟨.undef, by simp only [List.length_set]; exact hh.setMp⟩)
  case cntB x0 ix =>
    unfold op_cntB at hx
    repeat' split at hx
    all_goals first
      | (cases hx; done)
      | (cases hx; exact ⟨.int, hh⟩)
  case idxB x0 ix =>
    unfold op_idxB at hx
    repeat' split at hx
    all_goals first
      | (cases hx; done)
      | (cases hx; exact ⟨.int, hh⟩)
  case index x0 ix =>
    unfold op_index at hx
    repeat' split at hx
    all_goals first
      | (cases hx; done)
      | (cases hx; exact ⟨.int, hh⟩)
  case extract x0 i =>
    unfold op_extract at hx
    split at hx
    · rename_i hu
      have := ev1 hm hu
      cases this; rename_i h1
      exact same (fun u h2 => h1 u (List.mem_of_getElem? h2)) hx
    · cases hx
  case len x0 =>
    unfold op_len at hx
    repeat' split at hx
    all_goals first
      | (cases hx; done)
      | (cases hx; exact ⟨.int, hh⟩)
  case lenS x0 =>
    unfold op_lenS at hx
    repeat' split at hx
    all_goals first
      | (cases hx; done)
      | (cases hx; exact ⟨.int, hh⟩)
  case append sz bytes s x0 =>
    unfold op_append at hx
    split at hx
    · rename_i hu hv; exact appendV_vb hh (ev1 hm.1 hu) (ev1 hm.2 hv) hx
    · cases hx
  case minmax mx xs =>
    unfold op_minmax at hx
    repeat' split at hx
    all_goals first
      | (cases hx; done)
      | (cases hx; exact ⟨.int, hh⟩)
  case call f as =>
    unfold op_call at hx
    split at hx
    · rename_i hf has
      have h1 := ev1 hm.1 hf
      cases h1; rename_i h1
      refine hC _ _ _ _ hx (fun v hv => ?_) hh
      rcases List.mem_append.1 hv with h2 | h2
      · exact evs_vb hG ht hm.2 has v h2
      · exact h1 v h2
    · cases hx
end Go.Mini

namespace Go.Mini
set_option linter.unusedVariables false
set_option linter.unusedSimpArgs false
variable {P : Program} {G : Nat → Option V} {forb : Nat → Prop} {φ : Phi} {w : World} {t : List V} {a : Act} {D : Nat → Prop} {base : Nat} {h : H} {o : Oper}

/-- a function that is entered where it is called -/
def Enters (P : Program) (f : FuncId) : Prop := ∃ fn, P.funcs[f]? = some fn ∧ fn.body.isSome = true ∧ (fn.name == "runtime.NumGoroutine") = false

/-- values, one by one -/
def VRs (forb : Nat → Prop) (w : World) (φ : Phi) (vs : List V) (cs : List Value) : Prop := cs.length = vs.length ∧ ∀ (i : Nat) v c, vs[i]? = some v → cs[i]? = some c → VR forb w φ v c

/-- What the small machine says of calls is so. -/
def CallOk (P : Program) (G : Nat → Option V) (C : FuncId → List V → H → Option Res) : Prop :=
  ∀ f args h x, C f args h = some x → Enters P f ∧ ∀ forb φ D base w cargs, (∀ v ∈ args, VB h.length v) → HB h.length h → VRs forb w φ args cargs → Rel forb φ D base h w → (∀ n v, G n = some v → VR forb w noPhi v (.pointer (some ⟨n, 0, none⟩))) → (∀ b, (b ∈ x.r ∨ b ∈ x.w) → D b) → (∀ b v, h.length ≤ b → b < x.h.length → φ b v = none) →
    Calls P f ⟨cargs⟩ w (fun e w' => ∃ c, e = .returned c ∧ Post forb φ D base h w x c w')

theorem VRs.append {vs us : List V} {cs ds : List Value} (h : VRs forb w φ vs cs) (k : VRs forb w φ us ds) : VRs forb w φ (vs ++ us) (cs ++ ds) := by
  refine ⟨by simp [h.1, k.1], fun i v c hv hc => ?_⟩
  by_cases e : i < vs.length
  · rw [List.getElem?_append_left e] at hv
    rw [List.getElem?_append_left (by rw [h.1]; exact e)] at hc
    exact h.2 i v c hv hc
  · rw [List.getElem?_append_right (by omega)] at hv
    rw [List.getElem?_append_right (by rw [h.1]; omega), h.1] at hc
    exact k.2 _ v c hv hc

theorem evs_vrs (ht : Tm G forb φ w t a) {xs : List Operand} {ds : List Opd} {vs : List V} (h : mapM? opd xs = some ds) (hv : evs G t ds = some vs) : VRs forb w φ vs (xs.map a.eval) := by
  obtain ⟨h1, h2⟩ := evs_ok ht h hv
  refine ⟨by simp [h1], fun i v c hvi hc => ?_⟩
  rw [List.getElem?_map] at hc
  rcases hq : xs[i]? with _ | x
  · rw [hq] at hc; cases hc
  · rw [hq] at hc; cases hc; exact h2 i v x hvi hq

/-- what a call is handed leads below the heap's length -/
def ArgsVB (G : Nat → Option V) (n : Nat) (t : List V) (m : MOp) : Prop := ∀ df das, m = .call df das → ∀ f cap as, ev G t df = some (.fn f cap) → evs G t das = some as → ∀ v ∈ as ++ cap, VB n v
theorem args_vb (hG : GB G) {n : Nat} {m : MOp} (hm : m.okC) (hB : ∀ v ∈ t, VB n v) : ArgsVB G n t m := by
  intro df das e f cap as h1 h2 v hv
  subst e
  rcases List.mem_append.1 hv with hv | hv
  · exact evs_vb hG hB hm.2 h2 v hv
  · have := ev_vb hG hB hm.1 h1
    cases this; rename_i h3; exact h3 v hv
theorem Tm.gb (ht : Tm G forb φ w t a) : GB G := fun k v hk => (ht.glob k v hk).vb (fun _ _ _ h => by cases h)

theorem op_call_ok {C : FuncId → List V → H → Option Res} (hC : CallOk P G C) (ht : Tm G forb φ w t a) (hR : Rel forb φ D base h w) {c : Call} {fo : Operand} {df : Opd} {das : List Opd} (ho : o.op = .call c) (hc : c.callee = .value fo) (hf : opd fo = some df) (has : mapM? opd c.args.toList = some das) {r : Res} (hB : ∀ f cap as, ev G t df = some (.fn f cap) → evs G t das = some as → ∀ v ∈ as ++ cap, VB h.length v) (hH : HB h.length h) (hr : op_call G C t df das h = some r) (hD : ∀ b, (b ∈ r.r ∨ b ∈ r.w) → D b) (hfree : ∀ b v, h.length ≤ b → b < r.h.length → φ b v = none) : Goes P o a w (Post forb φ D base h w r) := by
  unfold op_call at hr
  split at hr
  · rename_i f cap as h1 h2
    have v1 := ev_ok ht hf h1
    obtain ⟨caps, he, hl, hcaps⟩ := v1.fn_inv
    have v2 := (evs_vrs ht has h2).append (us := cap) (ds := caps) ⟨hl, hcaps⟩
    obtain ⟨⟨fn, e1, e2, e3⟩, hcall⟩ := hC f (as ++ cap) h r hr
    have hargs := hB f cap as h1 h2
    refine .inr (.inr ⟨f, ⟨c.args.toList.map a.eval ++ caps⟩, ?_, hcall forb φ D base w _ hargs hH v2 hR ht.glob hD hfree⟩)
    have has' : c.args.map a.eval = ⟨c.args.toList.map a.eval⟩ := by apply Array.ext'; simp
    have hb : fn.body.isNone = false := by cases hq : fn.body <;> simp_all
    unfold execOp; rw [ho]
    simp only [resolve, hc, he, has', Deferred.ofValue, pure_bind, invoke, callFunc, Sem.run_bind, run_program, Result.andThen_ok, e1, e3, hb, Bool.false_eq_true, if_false]
    simp [Sem.run_pure]
  · cases hr
end Go.Mini

namespace Go.Mini
set_option linter.unusedVariables false
set_option linter.unusedSimpArgs false
variable {P : Program} {G : Nat → Option V} {forb : Nat → Prop} {φ : Phi} {w : World} {t : List V} {a : Act} {D : Nat → Prop} {base : Nat} {h : H} {o : Oper}

theorem Option.map_some_inv {α β : Type} {f : α → β} {x : Option α} {y : β} (h : x.map f = some y) : ∃ z, x = some z ∧ f z = y := by
  cases x <;> simp at h; exact ⟨_, rfl, h⟩

set_option maxHeartbeats 4000000 in
/-- Each operation of the small machine is the model's. -/
theorem opV_ok {C : FuncId → List V → H → Option Res} (hC : CallOk P G C) (ht : Tm G forb φ w t a) (hR : Rel forb φ D base h w) {m : MOp} (hm : compOp P o = some m) {r : Res} (hB : ArgsVB G h.length t m) (hH : HB h.length h) (hr : opV G C t m h = some r) (hD : ∀ b, (b ∈ r.r ∨ b ∈ r.w) → D b) (hfree : ∀ b v, h.length ≤ b → b < r.h.length → φ b v = none) : Goes P o a w (Post forb φ D base h w r) := by
  cases ho : o.op <;> simp only [compOp, ho] at hm <;> try (cases hm; done)
  case move x => obtain ⟨d, hd, rfl⟩ := Option.map_some_inv hm; exact op_mv_ok ht hR (.inl ho) hd hr
  case assign x => obtain ⟨d, hd, rfl⟩ := Option.map_some_inv hm; exact op_mv_ok ht hR (.inr ho) hd hr
  case pick c x y =>
    split at hm
    · rename_i h1 h2 h3; cases hm; exact op_pick_ok ht hR ho h1 h2 h3 hr
    · cases hm
  case alloc ty =>
    split at hm
    · rename_i z hz
      split at hm
      · rename_i hc; cases hm
        have hl : r.h.length = h.length + 1 := by unfold opV op_alloc at hr; cases hr; simp [newRow]
        exact op_alloc_ok ht hR ho hz hc hr fun v => hfree _ _ (Nat.le_refl _) (by omega)
      · cases hm
    · cases hm
  case box ty x =>
    split at hm
    · rename_i h1 h2; cases hm
      refine op_box_ok ht hR ho h1 hr fun v => hfree _ _ (Nat.le_refl _) ?_
      simp only [opV, op_box] at hr
      split at hr
      · split at hr
        · cases hr; simp [newRow]
        · cases hr
      · cases hr
    · cases hm
  case build ty parts =>
    split at hm
    · rename_i z fs hz hu
      split at hm
      · rename_i ps ss hp hs
        split at hm
        · rename_i hc; cases hm
          exact op_build_ok ht hR ho hu hz hc hp hs hr
        · cases hm
      · cases hm
    · cases hm
  case buildSlice ty len parts =>
    split at hm
    · rename_i el hu
      split at hm
      · rename_i s z hs hz
        split at hm
        · cases hm
        · rename_i hn
          simp only [not_or, Decidable.not_not, Bool.not_eq_false, gt_iff_lt, Nat.not_lt] at hn
          obtain ⟨n1, n2, n3, n4⟩ := hn
          split at hm
          · rename_i ps hp; cases hm
            refine op_bslice_ok ht hR ho hu hs hz n1 n2 n3 n4 hp hr fun v => hfree _ _ (Nat.le_refl _) ?_
            simp only [opV, op_bslice] at hr
            split at hr
            · split at hr
              · cases hr; simp [newRow]
              · cases hr
            · cases hr
          · cases hm
      · cases hm
    · cases hm
  case load ty x =>
    split at hm
    · rename_i h1 h2; cases hm; exact op_load_ok ht hR ho h1 h2 hr fun b hb => hD b (.inl hb)
    · cases hm
  case store ty x y =>
    split at hm
    · rename_i h1 h2 h3
      split at hm
      · cases hm
      · rename_i hn; cases hm; exact op_store_ok ht hR ho h1 hn h2 h3 hr fun b hb => hD b (.inr hb)
    · cases hm
  case nilCheck x => obtain ⟨d, hd, rfl⟩ := Option.map_some_inv hm; exact op_nilc_ok ht hR ho hd hr
  case binOp op ty x y ty' =>
    split at hm
    · rename_i h1 h2; cases hm; exact op_bin_ok ht hR ho h1 h2 hr
    · cases hm
  case unOp op ty x => obtain ⟨d, hd, rfl⟩ := Option.map_some_inv hm; exact op_un_ok ht hR ho hd hr
  case convert src dst x =>
    split at hm
    · rename_i h1 h2 h3; cases hm; exact op_convI_ok ht hR ho h1 h2 h3 hr
    · rename_i h1 h2 h3
      split at hm
      · rename_i h4 _
        split at hm
        · cases hm
          refine op_s2b_ok ht hR ho h1 h2 h4 h3 hr fun v => hfree _ _ (Nat.le_refl _) ?_
          simp only [opV, op_s2b] at hr
          split at hr
          · split at hr
            · cases hr; simp [newRow]
            · cases hr
          · cases hr
        · cases hm
      · cases hm
    · rename_i h1 h2 h3
      split at hm
      · rename_i h4; cases hm; exact op_b2s_ok ht hR ho h1 h2 h4 h3 hr fun b hb => hD b (.inl hb)
      · cases hm
    · cases hm
  case makeFunc fn first cap =>
    cases fn <;> simp only [] at hm <;> try (cases hm; done)
    split at hm
    · rename_i h1 h2; cases hm; exact op_mkfn_ok ht hR ho h1 h2 hr
    · cases hm
  case makeSlice ty l c =>
    split at hm
    · rename_i el hu
      split at hm
      · rename_i inf z dl dc h1 h2 h3 h4
        split at hm
        · cases hm
        · rename_i hn
          simp only [not_or, Decidable.not_not, Bool.not_eq_false] at hn
          obtain ⟨n1, n2, n3, n4⟩ := hn
          cases hm
          refine op_mkslice_ok ht hR ho hu h1 h2 h3 h4 n1 n2 n3 n4 hr fun v => hfree _ _ (Nat.le_refl _) ?_
          simp only [opV, op_mkslice] at hr
          split at hr
          · split at hr
            · cases hr
            · cases hr; simp [newRow]
          · cases hr
      · cases hm
    · cases hm
  case slice ty x lo hi mx =>
    split at hm
    · rename_i h1 h2 h3 h4 h5; cases hm
      cases mx with
      | none => exact op_cutS_ok ht hR ho h1 h2 h3 h4 hr
      | some q => simp only [opdO] at h5; rcases hq : opd q with _ | e <;> simp [hq] at h5
    · rename_i h1 h2 h3 h4 h5
      split at hm
      · rename_i s hs
        split at hm
        · cases hm
        · rename_i hn; cases hm
          exact op_cut_ok ht hR ho h1 hs h2 h3 h4 h5 (Bool.eq_false_iff.2 hn) hr
      · cases hm
    · cases hm
  case fieldAddr ty x f =>
    split at hm
    · rename_i h1 h2
      split at hm
      · rename_i fd h3
        split at hm
        · rename_i s h4
          split at hm
          · cases hm
          · rename_i hs; cases hm; exact op_faddr_ok ht hR ho h1 h3 h4 hs h2 hr
        · cases hm
      · cases hm
    · cases hm
  case field ty x f =>
    split at hm
    · rename_i h1 h2
      split at hm
      · rename_i fd h3
        obtain ⟨n, h4, rfl⟩ := Option.map_some_inv hm
        exact op_field_ok ht hR ho h1 h3 h4 h2 hr
      · cases hm
    · cases hm
  case indexAddr ty x ix =>
    split at hm
    · rename_i h1 h2 h3
      obtain ⟨n, h4, rfl⟩ := Option.map_some_inv hm
      exact op_iaddr_ok ht hR ho h1 h4 h2 h3 hr
    · rename_i h1 h2 h3
      obtain ⟨n, h4, rfl⟩ := Option.map_some_inv hm
      exact op_iaddrA_ok ht hR ho h1 h4 h2 h3 hr
    · cases hm
  case index ty x ix =>
    split at hm
    · rename_i h1 h2 h3; cases hm; exact op_index_ok ht hR ho h1 h2 h3 hr
    · cases hm
  case extract x i => obtain ⟨d, hd, rfl⟩ := Option.map_some_inv hm; exact op_extract_ok ht hR ho hd hr
  case call c =>
    split at hm
    · rename_i hc
      split at hm
      · rename_i ty x h1 h2
        have hx : ∃ x0, c.args.toList = [x0] ∧ opd x0 = some x := by
          rcases hq : c.args.toList with _ | ⟨x0, _ | ⟨x1, xs⟩⟩
          · rw [hq] at h2; simp [mapM?] at h2
          · rw [hq] at h2; simp only [mapM?] at h2; split at h2
            · rename_i h3 h4; cases h2; exact ⟨x0, rfl, h3⟩
            · cases h2
          · rw [hq] at h2; have := mapM?_length h2; simp at this
        obtain ⟨x0, hx1, hx2⟩ := hx
        split at hm
        · rename_i hu; cases hm; exact op_lenS_ok ht hR ho hc h1 hx1 hu hx2 hr
        · rename_i hu; cases hm; exact op_len_ok ht hR ho hc h1 hx1 hu hx2 hr
        · cases hm
      · cases hm
    · rename_i hc
      split at hm
      · rename_i ty ty' s x h1 h2
        have hx : ∃ s0 x0, c.args.toList = [s0, x0] ∧ opd s0 = some s ∧ opd x0 = some x := by
          rcases hq : c.args.toList with _ | ⟨x0, _ | ⟨x1, _ | ⟨x2, xs⟩⟩⟩
          · rw [hq] at h2; simp [mapM?] at h2
          · rw [hq] at h2; have := mapM?_length h2; simp at this
          · rw [hq] at h2
            have g0 := mapM?_get h2 0 s rfl
            have g1 := mapM?_get h2 1 x rfl
            obtain ⟨y0, p0, p1⟩ := g0
            obtain ⟨y1, q0, q1⟩ := g1
            simp at p0 q0; subst p0 q0
            exact ⟨x0, x1, rfl, p1, q1⟩
          · rw [hq] at h2; have := mapM?_length h2; simp at this
        obtain ⟨s0, x0, hx1, hx2, hx3⟩ := hx
        split at hm
        · cases hm
        · rename_i el d hni hu hu'
          split at hm
          · rename_i inf hi
            split at hm
            · rename_i z hz
              split at hm
              · cases hm
              · rename_i hn
                simp only [not_or, Decidable.not_not] at hn
                obtain ⟨n1, n2, n3⟩ := hn
                cases hm
                exact op_append_ok ht hR ho hc h1 hx1 hu hu' (fun k hk => hni k hk) hi hz n1 n2 n3 hx2 hx3 hr hD (fun hlt v => hfree _ _ (Nat.le_refl _) hlt)
            · cases hm
          · cases hm
        · cases hm
      · cases hm
    · rename_i hc
      obtain ⟨ds, h1, rfl⟩ := Option.map_some_inv hm
      exact op_minmax_ok (mx := false) ht hR ho hc h1 hr
    · rename_i hc
      obtain ⟨ds, h1, rfl⟩ := Option.map_some_inv hm
      exact op_minmax_ok (mx := true) ht hR ho hc h1 hr
    · rename_i f hc
      split at hm
      · rename_i hi
        split at hm
        · rename_i h2; cases hm; exact op_idxB_ok ht hR ho hc hi h2 hr
        · cases hm
      · split at hm
        · rename_i h1 h2; cases hm; exact op_call_ok hC ht hR ho hc h1 h2 (hB _ _ rfl) hH hr hD hfree
        · cases hm
    · cases hm
theorem opV_okX {C : FuncId → List V → H → Option Res} (hC : CallOk P G C) (ht : Tm G forb φ w t a) (hR : Rel forb φ D base h w) {m : MOp} (hm : compX P o = m) {r : Res} (hB : ArgsVB G h.length t m) (hH : HB h.length h) (hr : opV G C t m h = some r) (hD : ∀ b, (b ∈ r.r ∨ b ∈ r.w) → D b) (hfree : ∀ b v, h.length ≤ b → b < r.h.length → φ b v = none) : Goes P o a w (Post forb φ D base h w r) := by
  rcases compX_cases P o with h1 | h1 | h1
  · rw [hm] at h1
    unfold compNil at h1
    split at h1
    · rename_i op ty x _ ho
      split at h1
      · rename_i ms dx hu hx
        cases h1
        exact op_binI_ok ht hR ho hu hx hr
      · cases h1
    · rename_i ty parts ho
      split at h1
      · rename_i z len el hz hu
        split at h1
        · rename_i s hs
          split at h1
          · rename_i ps hp
            split at h1
            · rename_i hc
              cases h1
              exact op_buildA_ok ht hR ho hu hs hz hc hp hr
            · cases h1
          · cases h1
        · cases h1
      · cases h1
    · rename_i ty x ix ho
      split at h1
      · rename_i len el dx di hu hx hi
        split at h1
        · rename_i g s ha hs
          cases h1
          exact op_idxA_ok ht hR ho hu ha hs hx hi hr
        · cases h1
      · cases h1
    · rename_i c ho
      split at h1
      · rename_i fo hc
        split at h1
        · rename_i hi
          split at h1
          · rename_i has
            cases h1
            exact op_cntB_ok ht hR ho hc hi has hr
          · cases h1
        · cases h1
      · cases h1
    · rename_i ty ho
      cases h1
      refine op_mkmap_ok ht hR ho hr fun v => hfree _ _ (Nat.le_refl _) ?_
      have hr' : op_mkmap t h = some r := hr
      unfold op_mkmap at hr'; cases hr'; simp
    · rename_i ty x ix ok ho
      split at h1
      · rename_i kt et dx di hu hx hi
        split at h1
        · rename_i ks zk z hf hz
          cases h1
          exact op_look_ok ht hR ho hu hf hz hx hi hr hD
        · cases h1
      · cases h1
    · rename_i ty m k x ho
      split at h1
      · rename_i kt et dm dk dx hu hm2 hk hx
        split at h1
        · rename_i ks hf
          cases h1
          exact op_mput_ok ht hR ho hu hf hm2 hk hx hr hD
        · cases h1
      · cases h1
    · cases h1
  · rw [hm] at h1; exact opV_ok hC ht hR h1 hB hH hr hD hfree
  · rw [hm] at h1; subst h1
    simp [stuckOp, opV, op_call, ev, evs] at hr
end Go.Mini

namespace Go.Mini
set_option linter.unusedVariables false
set_option linter.unusedSimpArgs false
variable {P : Program} {G : Nat → Option V} {forb : Nat → Prop} {φ : Phi} {w : World} {t : List V} {a : Act} {D : Nat → Prop} {base : Nat} {h : H} {o : Oper}

/-- heaps only grow at their end -/
def LenOk (C : FuncId → List V → H → Option Res) : Prop := ∀ f args h x, C f args h = some x → h.length ≤ x.h.length ∧ (∀ b ∈ x.w, b < h.length) ∧ ∀ b, b < h.length → b ∉ x.w → x.h[b]? = h[b]?

theorem one_len {v : Option V} {h : H} {x : Res} (hx : one v h = some x) : x.h = h := by
  obtain ⟨u, _, rfl⟩ := one_some hx; rfl

theorem rowAt_lt {h : H} {b v : Nat} {x : Row} (hx : rowAt h b v = some x) : b < h.length := (List.getElem?_eq_some_iff.1 (rowAt_some hx).1).1

theorem newRow_frame {h : H} {sz : Nat} {els : List (List V)} : ∀ b, b < h.length → (newRow h sz els)[b]? = h[b]? := fun b hb => by simp only [newRow]; exact List.getElem?_append_left hb

theorem mput_frame {h : H} {b : Nat} {es es2 : Ents} (hm : mapAt h b = some es) : h.length ≤ (h.set b (Ob.mp es2)).length ∧ (∀ c ∈ [b], c < h.length) ∧ ∀ c, c < h.length → c ∉ [b] → (h.set b (Ob.mp es2))[c]? = h[c]? := by
  refine ⟨by simp, fun c hc => ?_, fun c _ hn => ?_⟩
  · simp at hc; subst hc; exact (List.getElem?_eq_some_iff.1 (mapAt_some hm)).1
  · simp at hn; rw [List.getElem?_set_ne (Ne.symm hn)]

theorem opV_len {C : FuncId → List V → H → Option Res} (hC : LenOk C) {t : List V} {m : MOp} {h : H} {x : Res} (hx : opV G C t m h = some x) : h.length ≤ x.h.length ∧ (∀ b ∈ x.w, b < h.length) ∧ ∀ b, b < h.length → b ∉ x.w → x.h[b]? = h[b]? := by
  cases m <;> simp only [opV] at hx
  case call => unfold op_call at hx; split at hx; exact hC _ _ _ _ hx; cases hx
  case alloc => unfold op_alloc at hx; cases hx; exact ⟨by simp [newRow], by simp, fun b hb _ => newRow_frame b hb⟩
  case store =>
    unfold op_store at hx
    split at hx
    · unfold storeV at hx
      split at hx
      · split at hx
        · rename_i hr
          repeat' split at hx
          all_goals first | (cases hx; exact ⟨by simp, by simpa using rowAt_lt hr, fun b hb hn => by simp at hn; rw [List.getElem?_set_ne (Ne.symm hn)]⟩) | cases hx
        · cases hx
      · cases hx
    · cases hx
  case append =>
    unfold op_append at hx
    split at hx
    · unfold appendV at hx
      split at hx
      · split at hx
        · repeat' split at hx
          all_goals first | (cases hx; exact ⟨Nat.le_refl _, by simp, fun _ _ _ => rfl⟩) | (cases hx; exact ⟨by simp [newRow], by simp, fun b hb _ => newRow_frame b hb⟩) | cases hx
        · repeat' split at hx
          all_goals first | (cases hx; exact ⟨Nat.le_refl _, by simp, fun _ _ _ => rfl⟩) | cases hx
        · split at hx
          · cases hx; exact ⟨Nat.le_refl _, by simp, fun _ _ _ => rfl⟩
          · split at hx
            · rename_i hr
              repeat' split at hx
              all_goals first
                | (cases hx; exact ⟨by simp [newRow], by simp, fun b hb _ => newRow_frame b hb⟩)
                | (cases hx; refine ⟨by simp, ?_, fun b hb hn => ?_⟩ <;> first | (simpa using rowAt_lt hr) | (simp at hn; rw [List.getElem?_set_ne (Ne.symm hn)]))
                | cases hx
            · cases hx
        · cases hx
      · cases hx
    · cases hx
  all_goals
    first | unfold op_mv at hx | unfold op_pick at hx | unfold op_box at hx | unfold op_build at hx | unfold op_bslice at hx | unfold op_load at hx | unfold op_nilc at hx | unfold op_bin at hx | unfold op_un at hx | unfold op_convI at hx | unfold op_s2b at hx | unfold op_b2s at hx | unfold op_mkfn at hx | unfold op_mkslice at hx | unfold op_cut at hx | unfold op_cutS at hx | unfold op_faddr at hx | unfold op_field at hx | unfold op_iaddr at hx | unfold op_iaddrA at hx | unfold op_index at hx | unfold op_idxB at hx | unfold op_mkmap at hx | unfold op_look at hx | unfold op_mput at hx | unfold op_cntB at hx | unfold op_idxA at hx | unfold op_extract at hx | unfold op_len at hx | unfold op_lenS at hx | unfold op_minmax at hx
    (try rw [forceI_eq] at hx)
    repeat' split at hx
    all_goals first
      | (obtain ⟨u, _, rfl⟩ := one_some hx; exact ⟨Nat.le_refl _, by simp, fun _ _ _ => rfl⟩)
      | (cases hx; exact ⟨Nat.le_refl _, by simp, fun _ _ _ => rfl⟩)
      | (cases hx; exact ⟨by simp [newRow], by simp, fun b hb _ => newRow_frame b hb⟩)
      | (cases hx; exact ⟨by simp, by simp, fun b hb _ => by rw [List.getElem?_append_left hb]⟩)
      | (cases hx; exact mput_frame (by assumption))
      | (simp only [forceI_eq] at hx; cases hx; exact ⟨Nat.le_refl _, by simp, fun _ _ _ => rfl⟩)
      | cases hx

theorem ins_mem {b c : Nat} {l : List Nat} : c ∈ ins b l ↔ c = b ∨ c ∈ l := by
  unfold ins
  split
  · rename_i h
    have : b ∈ l := by simpa using h
    constructor
    · exact .inr
    · rintro (rfl | h)
      · exact this
      · exact h
  · simp
theorem uni_mem {n0 c : Nat} : ∀ {l s : List Nat}, c ∈ uni n0 l s ↔ (c ∈ l ∧ c < n0) ∨ c ∈ s
  | [], s => by simp [uni]
  | x :: l, s => by
    unfold uni
    split
    · rename_i hx
      rw [ins_mem, uni_mem]
      simp only [List.mem_cons]
      constructor
      · rintro (rfl | ⟨h1, h2⟩ | h)
        · exact .inl ⟨.inl rfl, hx⟩
        · exact .inl ⟨.inr h1, h2⟩
        · exact .inr h
      · rintro (⟨rfl | h1, h2⟩ | h)
        · exact .inl rfl
        · exact .inr (.inl ⟨h1, h2⟩)
        · exact .inr (.inr h)
    · rename_i hx
      rw [uni_mem]
      simp only [List.mem_cons]
      constructor
      · rintro (⟨h1, h2⟩ | h)
        · exact .inl ⟨.inr h1, h2⟩
        · exact .inr h
      · rintro (⟨rfl | h1, h2⟩ | h)
        · exact (hx h2).elim
        · exact .inl ⟨h1, h2⟩
        · exact .inr h

theorem Tm.put (ht : Tm G forb φ w t a) {v : V} {c : Value} (hv : VR forb w φ v c) (d : Option Nat) : Tm G forb φ w (putV t d v) (a.put d c) := by
  cases d with
  | none => exact ht
  | some d =>
    refine ⟨by simp [Act.put, putV, ht.len], fun i u hu => ?_, ht.glob⟩
    simp only [putV] at hu
    rw [List.getElem?_set] at hu
    simp only [Act.put, Array.getElem?_setIfInBounds]
    split at hu
    · rename_i e; subst e
      split at hu
      · rename_i hl
        cases hu
        rw [if_pos rfl, if_pos (by rw [ht.len]; exact hl)]
        exact ⟨c, rfl, hv⟩
      · cases hu
    · rename_i e
      rw [if_neg e]
      exact ht.val i u hu

theorem Tm.ext {forb' : Nat → Prop} {φ' : Phi} {w' : World} (ht : Tm G forb φ w t a) (hE : Ext forb forb' w w') (hm : ∀ b v l, φ b v = some l → φ' b v = some l) : Tm G forb' φ' w' t a :=
  ⟨ht.len, fun i v hv => by obtain ⟨c, h1, h2⟩ := ht.val i v hv; exact ⟨c, h1, h2.ext hE φ' hm⟩, fun n v hv => (ht.glob n v hv).ext hE noPhi (fun _ _ _ h => h)⟩

theorem VR.bool_iff {v : V} {c : Value} (h : VR forb w φ v c) (b : Bool) : v = .bool b ↔ c = .bool b := by
  cases h <;> simp

theorem wanted_ok (ht : Tm G forb φ w t a) {all : Array Oper} {m : MOper} (hc : compOper P all.toList o = some m) : wantedV t m.guard = Region.wanted o (yielded all a.tmps) ∧ m.dst = o.dst ∧ compX P o = m.op := by
  unfold compOper at hc
  split at hc
  · rename_i h2; cases hc
    exact ⟨by simp [wantedV, Region.wanted, h2], rfl, rfl⟩
  · rename_i j want h2
    split at hc
    · rename_i d hd; cases hc
      refine ⟨?_, rfl, rfl⟩
      simp only [wantedV, Region.wanted, h2, yielded]
      have hd' : (all[j]?).bind (·.dst) = some d := by rw [← Array.getElem?_toList]; exact hd
      rw [hd']
      simp only [Option.bind_some]
      rcases hq : t[d]? with _ | v
      · have : a.tmps[d]? = none := by
          rw [Array.getElem?_eq_none]; rw [ht.len]; exact List.getElem?_eq_none_iff.1 hq
        simp [this]
      · obtain ⟨c, h3, h4⟩ := ht.val d v hq
        rw [h3]
        cases h4 <;> simp
    · cases hc

/-- What a piece of code of the small machine leaves. -/
structure Out (G : Nat → Option V) (forb : Nat → Prop) (φ : Phi) (D : Nat → Prop) (base n0 : Nat) (w : World) (s s' : St) (a : Act) (forb' : Nat → Prop) (φ' : Phi) (a' : Act) (w' : World) : Prop where
  tm : Tm G forb' φ' w' s'.t a'
  rel : Rel forb' φ' D base s'.h w'
  ext : Ext forb forb' w w'
  mono : ∀ b v l, φ b v = some l → φ' b v = some l
  far : ∀ b v, s'.h.length ≤ b → φ' b v = φ b v
  loc : ∀ b v l, b < n0 ∨ s'.h.length ≤ b → φ b v = some l → b ∉ s'.w → w'.heap[l.cb]? = w.heap[l.cb]?
  old : ∀ b v, b < n0 → b ∉ s'.w → φ' b v = φ b v
  defers : a'.defers = a.defers

theorem Out.refl {n0 : Nat} {s : St} (ht : Tm G forb φ w s.t a) (hR : Rel forb φ D base s.h w) : Out G forb φ D base n0 w s s a forb φ a w :=
  ⟨ht, hR, Ext.refl _ _, fun _ _ _ h => h, fun _ _ _ => rfl, fun _ _ _ _ _ _ => rfl, fun _ _ _ _ => rfl, rfl⟩

theorem Out.trans {n0 : Nat} {s s1 s2 : St} {forb1 forb2 : Nat → Prop} {φ1 φ2 : Phi} {a1 a2 : Act} {w1 w2 : World} (h : Out G forb φ D base n0 w s s1 a forb1 φ1 a1 w1) (k : Out G forb1 φ1 D base n0 w1 s1 s2 a1 forb2 φ2 a2 w2) (hw : ∀ b ∈ s1.w, b ∈ s2.w) (hl : s1.h.length ≤ s2.h.length) : Out G forb φ D base n0 w s s2 a forb2 φ2 a2 w2 := by
  refine ⟨k.tm, k.rel, h.ext.trans k.ext, fun b v l hb => k.mono _ _ _ (h.mono _ _ _ hb), fun b v hb => ?_, fun b v l hb hφ hn => ?_, fun b v hb hn => ?_, k.defers.trans h.defers⟩
  · rw [k.far b v hb, h.far b v (by omega)]
  · have h1 : b ∉ s1.w := fun h => hn (hw b h)
    rw [k.loc b v l hb (h.mono _ _ _ hφ) hn, h.loc b v l (by omega) hφ h1]
  · rw [k.old b v hb hn, h.old b v hb (fun h => hn (hw b h))]

/-- One operation behind another. -/
theorem out_put {n0 : Nat} {s : St} {x : Res} {c : Value} {w' : World} (ht : Tm G forb φ w s.t a) (hP : Post forb φ D base s.h w x c w') (hD0 : ∀ b, n0 ≤ b → D b) (hn : n0 ≤ s.h.length) (d : Option Nat) (hw0 : ∀ b ∈ x.w, b < s.h.length) :
    ∃ forb' φ', Out G forb φ D base n0 w s (regPut n0 s d x) a forb' φ' (a.put d c) w' := by
  obtain ⟨forb', φ', p1, p2, p3, p4, p5, p6, p7, p8⟩ := hP
  refine ⟨forb', φ', (ht.ext p3 p4).put p1 d, p2.part fun b hb => ?_, p3, p4, p5, fun b v l hb hφ hnw => p6 b v l hφ fun hx => ?_, fun b v hb hnw => p7 b v (by omega) fun hx => ?_, by cases d <;> rfl⟩
  · exact .inl hb
  · simp only [regPut] at hb hnw
    rcases hb with hb | hb
    · exact hnw (uni_mem.2 (.inl ⟨hx, hb⟩))
    · have := hw0 b hx; omega
  · exact hnw (uni_mem.2 (.inl ⟨hx, hb⟩))

theorem regV_mono {C : FuncId → List V → H → Option Res} (hC : LenOk C) {n0 : Nat} : ∀ {ms : List MOper} {s s' : St}, regV G C n0 ms s = some s' → s.h.length ≤ s'.h.length ∧ (∀ b ∈ s.r, b ∈ s'.r) ∧ (∀ b ∈ s.w, b ∈ s'.w)
  | [], s, s', h => by cases h; exact ⟨Nat.le_refl _, fun _ h => h, fun _ h => h⟩
  | m :: ms, s, s', h => by
    simp only [regV, cond_eq_ite] at h
    split at h
    · unfold regStep at h
      split at h
      · rename_i x hx
        obtain ⟨h1, h2, h3⟩ := regV_mono hC h
        have := (opV_len hC hx).1
        exact ⟨Nat.le_trans this h1, fun b hb => h2 b (uni_mem.2 (.inr hb)), fun b hb => h3 b (uni_mem.2 (.inr hb))⟩
      · cases h
    · have := regV_mono hC h; exact this

theorem putV_vb {n : Nat} {t : List V} {d : Option Nat} {v : V} (ht : ∀ x ∈ t, VB n x) (hv : VB n v) : ∀ x ∈ putV t d v, VB n x := by
  cases d with
  | none => exact ht
  | some d =>
    intro x hx
    rcases List.mem_or_eq_of_mem_set hx with h | rfl
    · exact ht x h
    · exact hv
theorem regPut_vb {C : FuncId → List V → H → Option Res} (hV : VbOk C) (hL : LenOk C) (hG : GB G) {m : MOp} (hm : m.okC) {n0 : Nat} {s : St} {d : Option Nat} {x : Res} (hB : ∀ v ∈ s.t, VB s.h.length v) (hH : HB s.h.length s.h) (hx : opV G C s.t m s.h = some x) : (∀ v ∈ (regPut n0 s d x).t, VB (regPut n0 s d x).h.length v) ∧ HB (regPut n0 s d x).h.length (regPut n0 s d x).h := by
  obtain ⟨h1, h2⟩ := opV_vb hV hG hm hB hH hx
  exact ⟨putV_vb (fun v hv => (hB v hv).mono (opV_len hL hx).1) h1, h2⟩

theorem regV_ok {C : FuncId → List V → H → Option Res} (hC : CallOk P G C) (hL : LenOk C) (hV : VbOk C) {n0 : Nat} (all : Array Oper) (Q : Exit → Act → World → Prop) : ∀ (rest : List Nat) (ms : List MOper) (s s' : St) (forb : Nat → Prop) (φ : Phi) (w : World) (a : Act),
    mapM? (fun i => match all[i]? with | some o => compOper P all.toList o | none => none) rest = some ms → regV G C n0 ms s = some s' → (∀ v ∈ s.t, VB s.h.length v) → HB s.h.length s.h → Tm G forb φ w s.t a → Rel forb φ D base s.h w → (∀ b, n0 ≤ b → D b) → (∀ b, (b ∈ s'.r ∨ b ∈ s'.w) → D b) → n0 ≤ s.h.length → (∀ b v, s.h.length ≤ b → b < s'.h.length → φ b v = none) →
    (∀ forb' φ' a' w', Out G forb φ D base n0 w s s' a forb' φ' a' w' → Q .normal a' w') → wpOps P all Q rest a w
  | [], ms, s, s', forb, φ, w, a, hm, hr, hB, hH, ht, hR, hD0, hDf, hn, hfree, hQ => by
    cases hm; cases hr
    exact hQ _ _ _ _ (Out.refl ht hR)
  | i :: rest, ms, s, s', forb, φ, w, a, hm, hr, hB, hH, ht, hR, hD0, hDf, hn, hfree, hQ => by
    unfold mapM? at hm
    split at hm
    · rename_i m ms' h1 h2
      cases hm
      split at h1
      · rename_i o ho
        obtain ⟨e1, e2, e3⟩ := wanted_ok ht h1
        simp only [wpOps, ho]
        simp only [regV, cond_eq_ite, e1] at hr
        split
        · rename_i hw
          rw [if_pos hw] at hr
          unfold regStep at hr
          split at hr
          · rename_i x hx
            have hmono := regV_mono hL hr
            have hop := opV_len hL hx
            have hxD : ∀ b, (b ∈ x.r ∨ b ∈ x.w) → D b := by
              intro b hb
              by_cases hb0 : n0 ≤ b
              · exact hD0 b hb0
              · refine hDf b ?_
                rcases hb with hb | hb
                · exact .inl (hmono.2.1 b (uni_mem.2 (.inl ⟨hb, by omega⟩)))
                · exact .inr (hmono.2.2 b (uni_mem.2 (.inl ⟨hb, by omega⟩)))
            have hg := opV_okX hC ht hR e3 (args_vb ht.gb (compX_okC e3) hB) hH hx hxD (fun b v hb1 hb2 => hfree b v hb1 (Nat.lt_of_lt_of_le hb2 hmono.1))
            refine .inl (hg.wp fun c w' hP => ?_)
            have hput := regPut_vb (n0 := n0) (d := m.dst) hV hL ht.gb (compX_okC e3) hB hH hx
            obtain ⟨forb', φ', hO⟩ := out_put ht hP hD0 hn m.dst hop.2.1
            rw [e2] at hO
            refine regV_ok hC hL hV all Q rest ms' _ s' forb' φ' w' _ h2 (by rw [e2] at hr; exact hr) (by rw [← e2]; exact hput.1) (by rw [← e2]; exact hput.2) hO.tm hO.rel hD0 hDf (Nat.le_trans hn hop.1) (fun b v hb1 hb2 => ?_) (fun f2 φ2 a2 w2 hO2 => ?_)
            · rw [hO.far b v hb1]; exact hfree b v (Nat.le_trans hop.1 hb1) hb2
            · rw [e2] at hmono; exact hQ f2 φ2 a2 w2 (hO.trans hO2 hmono.2.2 hmono.1)
          · cases hr
        · rename_i hw
          rw [if_neg hw] at hr
          have hmono := regV_mono hL hr
          have ht' : Tm G forb φ w (putV s.t m.dst .undef) (a.put o.dst Go.undef) := by rw [e2]; exact ht.put .undef o.dst
          refine regV_ok hC hL hV all Q rest ms' _ s' forb φ w _ h2 hr (putV_vb hB .undef) hH ht' hR hD0 hDf hn hfree (fun f2 φ2 a2 w2 hO2 => hQ f2 φ2 a2 w2 ?_)
          exact ⟨hO2.tm, hO2.rel, hO2.ext, hO2.mono, hO2.far, hO2.loc, hO2.old, by rw [hO2.defers]; cases o.dst <;> rfl⟩
      · cases h1
    · cases hm
end Go.Mini

namespace Go.Mini
set_option linter.unusedVariables false
set_option linter.unusedSimpArgs false
variable {P : Program} {G : Nat → Option V} {forb : Nat → Prop} {φ : Phi} {w : World} {t : List V} {a : Act} {D : Nat → Prop} {base : Nat} {h : H} {o : Oper}

/-! ### What an operation looks at -/
theorem ev_congr {t t' : List V} {x : Opd} (h : ∀ d ∈ x.slot, t'[d]? = t[d]?) : ev G t' x = ev G t x := by
  cases x <;> simp only [ev]
  rename_i i; exact h i (by simp [Opd.slot])
theorem evs_congr {t t' : List V} : ∀ {xs : List Opd}, (∀ d ∈ slots xs, t'[d]? = t[d]?) → evs G t' xs = evs G t xs
  | [], _ => rfl
  | x :: xs, h => by
    simp only [evs]
    rw [ev_congr (fun d hd => h d (by simp [slots, hd])), evs_congr (fun d hd => h d (by simp [slots, hd]))]
theorem evP_congr {t t' : List V} : ∀ {xs : List (Nat × Nat × Opd)}, (∀ d ∈ slotP xs, t'[d]? = t[d]?) → evP G t' xs = evP G t xs
  | [], _ => rfl
  | (a, b, x) :: xs, h => by
    simp only [evP]
    rw [ev_congr (fun d hd => h d (by simp [slotP, hd])), evP_congr (fun d hd => h d (by simp [slotP, hd]))]
theorem bound_congr {t t' : List V} {df : Nat} {x : Option Opd} (h : ∀ d ∈ slotO x, t'[d]? = t[d]?) : boundOf G t' df x = boundOf G t df x := by
  cases x with
  | none => rfl
  | some x => simp only [boundOf]; rw [ev_congr (fun d hd => h d hd)]

theorem opV_congr {C : FuncId → List V → H → Option Res} {t t' : List V} {m : MOp} {h : H} (hs : ∀ d ∈ m.slots, t'[d]? = t[d]?) : opV G C t' m h = opV G C t m h := by
  cases m <;> simp only [opV] <;> simp only [MOp.slots, List.mem_append] at hs
  case alloc => rfl
  case mv x => unfold op_mv; rw [ev_congr hs]
  case box => unfold op_box; rw [ev_congr hs]
  case nilc => unfold op_nilc; rw [ev_congr hs]
  case un => unfold op_un; rw [ev_congr hs]
  case convI => unfold op_convI; rw [ev_congr hs]
  case s2b => unfold op_s2b; rw [ev_congr hs]
  case b2s => unfold op_b2s; rw [ev_congr hs]
  case faddr => unfold op_faddr; rw [ev_congr hs]
  case field => unfold op_field; rw [ev_congr hs]
  case extract => unfold op_extract; rw [ev_congr hs]
  case len => unfold op_len; rw [ev_congr hs]
  case lenS => unfold op_lenS; rw [ev_congr hs]
  case load => unfold op_load; rw [ev_congr hs]
  case pick => unfold op_pick; rw [ev_congr (fun d hd => hs d (.inl (.inl hd))), ev_congr (fun d hd => hs d (.inl (.inr hd))), ev_congr (fun d hd => hs d (.inr hd))]
  case build => unfold op_build; rw [evP_congr hs]
  case bslice => unfold op_bslice; rw [evP_congr hs]
  case store => unfold op_store; rw [ev_congr (fun d hd => hs d (.inl hd)), ev_congr (fun d hd => hs d (.inr hd))]
  case bin => unfold op_bin; rw [ev_congr (fun d hd => hs d (.inl hd)), ev_congr (fun d hd => hs d (.inr hd))]
  case iaddr => unfold op_iaddr; rw [ev_congr (fun d hd => hs d (.inl hd)), ev_congr (fun d hd => hs d (.inr hd))]
  case iaddrA => unfold op_iaddrA; rw [ev_congr (fun d hd => hs d (.inl hd)), ev_congr (fun d hd => hs d (.inr hd))]
  case idxA => unfold op_idxA; rw [ev_congr (fun d hd => hs d (.inl hd)), ev_congr (fun d hd => hs d (.inr hd))]
  case cntB => unfold op_cntB; rw [ev_congr (fun d hd => hs d (.inl hd)), ev_congr (fun d hd => hs d (.inr hd))]
  case mkmap => rfl
  case look => unfold op_look; rw [ev_congr (fun d hd => hs d (.inl hd)), ev_congr (fun d hd => hs d (.inr hd))]
  case mput => unfold op_mput; rw [ev_congr (fun d hd => hs d (.inl (.inl hd))), ev_congr (fun d hd => hs d (.inl (.inr hd))), ev_congr (fun d hd => hs d (.inr hd))]
  case idxB => unfold op_idxB; rw [ev_congr (fun d hd => hs d (.inl hd)), ev_congr (fun d hd => hs d (.inr hd))]
  case index => unfold op_index; rw [ev_congr (fun d hd => hs d (.inl hd)), ev_congr (fun d hd => hs d (.inr hd))]
  case append => unfold op_append; rw [ev_congr (fun d hd => hs d (.inl hd)), ev_congr (fun d hd => hs d (.inr hd))]
  case mkslice => unfold op_mkslice; rw [ev_congr (fun d hd => hs d (.inl hd)), ev_congr (fun d hd => hs d (.inr hd))]
  case mkfn => unfold op_mkfn; rw [evs_congr hs]
  case minmax => unfold op_minmax; rw [evs_congr hs]
  case call => unfold op_call; rw [ev_congr (fun d hd => hs d (.inl hd)), evs_congr (fun d hd => hs d (.inr hd))]
  case cut =>
    unfold op_cut
    rw [ev_congr (fun d hd => hs d (.inl (.inl (.inl hd))))]
    have h1 := fun df => bound_congr (G := G) (df := df) (t := t) (t' := t') (fun d hd => hs d (.inl (.inl (.inr hd))))
    have h2 := fun df => bound_congr (G := G) (df := df) (t := t) (t' := t') (fun d hd => hs d (.inl (.inr hd)))
    have h3 := fun df => bound_congr (G := G) (df := df) (t := t) (t' := t') (fun d hd => hs d (.inr hd))
    rename_i s x a b c
    have h4 : ∀ v, cutV G t' s v a b c = cutV G t s v a b c := by
      intro v
      unfold cutV
      cases c <;> cases v <;> simp only [h1, h2, h3]
    simp only [h4]
  case cutS =>
    unfold op_cutS
    rw [ev_congr (fun d hd => hs d (.inl (.inl hd)))]
    have h1 := fun df => bound_congr (G := G) (df := df) (t := t) (t' := t') (fun d hd => hs d (.inl (.inr hd)))
    have h2 := fun df => bound_congr (G := G) (df := df) (t := t) (t' := t') (fun d hd => hs d (.inr hd))
    simp only [h1, h2]

theorem wantedV_congr {t t' : List V} {g : Option (Nat × Bool)} (h : ∀ d b, g = some (d, b) → t'[d]? = t[d]?) : wantedV t' g = wantedV t g := by
  cases g with
  | none => rfl
  | some g => obtain ⟨d, b⟩ := g; simp only [wantedV]; rw [h d b rfl]

/-! ### The trace of a region -/
/-- step i of a region in the text's order -/
def Step (G : Nat → Option V) (C : FuncId → List V → H → Option Res) (n0 : Nat) (m : MOper) (s s' : St) (x : Option Res) : Prop :=
  (wantedV s.t m.guard = true ∧ ∃ y, x = some y ∧ opV G C s.t m.op s.h = some y ∧ s' = regPut n0 s m.dst y) ∨
  (wantedV s.t m.guard = false ∧ x = none ∧ s' = ⟨putV s.t m.dst .undef, s.h, s.r, s.w⟩)

theorem freeAt_ok {mask : Nat} {r ws : List Nat} : ∀ {fs : List (Nat × List Nat × List Nat)}, freeAt mask r ws fs = true → ∀ i r' w', (i, r', w') ∈ fs → clash r ws r' w' = true → mask.testBit i = true
  | [], _, i, r', w', hm, _ => by simp at hm
  | (j, r1, w1) :: fs, h, i, r', w', hm, hc => by
    simp only [freeAt, Bool.and_eq_true, Bool.or_eq_true, Bool.not_eq_true'] at h
    rcases List.mem_cons.1 hm with h1 | h1
    · cases h1
      rcases h.1 with h2 | h2
      · rw [h2] at hc; cases hc
      · exact h2
    · exact freeAt_ok h.2 i r' w' h1 hc

theorem note_old {j : Nat} {r ws : List Nat} {fs : List (Nat × List Nat × List Nat)} {e : Nat × List Nat × List Nat} (h : e ∈ fs) : e ∈ note j r ws fs := by
  unfold note
  split
  · exact h
  · exact List.mem_cons_of_mem _ h
theorem note_new {j : Nat} {r ws : List Nat} {fs : List (Nat × List Nat × List Nat)} (h : r ≠ [] ∨ ws ≠ []) : (j, r, ws) ∈ note j r ws fs := by
  unfold note
  split
  · rename_i h1; simp at h1; rcases h with h | h
    · exact (h h1.1).elim
    · exact (h h1.2).elim
  · simp

theorem drawV_trace {C : FuncId → List V → H → Option Res} {n0 : Nat} : ∀ {ms : List MOper} {j : Nat} {masks : List Nat} {fs : List (Nat × List Nat × List Nat)} {s s' : St}, drawV G C n0 ms j masks fs s = some s' →
    ∃ (S : Nat → St) (X : Nat → Option Res), S 0 = s ∧ S ms.length = s' ∧ ms.length ≤ masks.length ∧ ∀ i m k, ms[i]? = some m → masks[i]? = some k → Step G C n0 m (S i) (S (i + 1)) (X i) ∧
      ∀ y, X i = some y → (∀ q r' w', (q, r', w') ∈ fs → clash y.r (allW (S i).h y) r' w' = true → k.testBit q = true) ∧ (∀ q z, q < i → X q = some z → clash y.r (allW (S i).h y) z.r (allW (S q).h z) = true → k.testBit (j + q) = true)
  | [], j, masks, fs, s, s', h => by
    simp only [drawV] at h; cases h
    exact ⟨fun _ => s, fun _ => none, rfl, rfl, by simp, fun i m k hm => by simp at hm⟩
  | m :: ms, j, [], fs, s, s', h => by simp [drawV] at h
  | m :: ms, j, k :: masks, fs, s, s', h => by
    simp only [drawV, cond_eq_ite] at h
    split at h
    · rename_i hw
      unfold drawStep at h
      split at h
      · rename_i y hy
        simp only [cond_eq_ite] at h
        split at h
        · rename_i hf
          obtain ⟨S, X, h1, h2, h3, h4⟩ := drawV_trace h
          refine ⟨fun i => match i with | 0 => s | i + 1 => S i, fun i => match i with | 0 => some y | i + 1 => X i, rfl, h2, by simp; omega, fun i m' k' hm hk => ?_⟩
          cases i with
          | zero =>
            simp at hm hk; subst hm hk
            refine ⟨.inl ⟨hw, y, rfl, hy, h1⟩, fun y' hy' => ⟨fun q r' w' hq hc => ?_, fun q z hq => by omega⟩⟩
            cases hy'
            exact freeAt_ok hf q r' w' hq hc
          | succ i =>
            obtain ⟨g1, g2⟩ := h4 i m' k' (by simpa using hm) (by simpa using hk)
            refine ⟨g1, fun y' hy' => ?_⟩
            obtain ⟨g3, g4⟩ := g2 y' hy'
            refine ⟨fun q r' w' hq hc => g3 q r' w' (note_old hq) hc, fun q z hq hz hc => ?_⟩
            cases q with
            | zero =>
              cases hz
              refine g3 j y.r (allW s.h y) (note_new ?_) hc
              by_cases e1 : y.r = []
              · by_cases e2 : allW s.h y = []
                · simp only [] at hc
                  rw [e1, e2] at hc
                  simp [clash, meets] at hc
                · exact .inr e2
              · exact .inl e1
            | succ q =>
              have := g4 q z (by omega) hz hc
              rwa [show j + 1 + q = j + (q + 1) by omega] at this
        · cases h
      · cases h
    · rename_i hw
      obtain ⟨S, X, h1, h2, h3, h4⟩ := drawV_trace h
      refine ⟨fun i => match i with | 0 => s | i + 1 => S i, fun i => match i with | 0 => none | i + 1 => X i, rfl, h2, by simp; omega, fun i m' k' hm hk => ?_⟩
      cases i with
      | zero =>
        simp at hm hk; subst hm hk
        exact ⟨.inr ⟨by simpa using hw, rfl, h1⟩, fun y' hy' => by cases hy'⟩
      | succ i =>
        obtain ⟨g1, g2⟩ := h4 i m' k' (by simpa using hm) (by simpa using hk)
        refine ⟨g1, fun y' hy' => ?_⟩
        obtain ⟨g3, g4⟩ := g2 y' hy'
        refine ⟨g3, fun q z hq hz hc => ?_⟩
        cases q with
        | zero => cases hz
        | succ q =>
          have := g4 q z (by omega) hz hc
          rwa [show j + 1 + q = j + (q + 1) by omega] at this
end Go.Mini

namespace Go.Mini
set_option linter.unusedVariables false
set_option linter.unusedSimpArgs false
variable {P : Program} {G : Nat → Option V} {forb : Nat → Prop} {φ : Phi} {w : World} {t : List V} {a : Act} {D : Nat → Prop} {base : Nat} {h : H} {o : Oper}

/-! ### What the masks say -/
theorem maskOf_ok {acc : List Nat} : ∀ {es : List Edge} {m : Nat}, maskOf acc es = some m → (∀ e ∈ es, Region.binds .any e = true → e.on < acc.length) ∧ ∀ i, m.testBit i = true → ∃ e ∈ es, Region.binds .any e = true ∧ (e.on = i ∨ (acc.getD e.on 0).testBit i = true)
  | [], m, h => by cases h; simp
  | e :: es, m, h => by
    simp only [maskOf] at h
    split at h
    · rename_i m' hm
      obtain ⟨h1, h2⟩ := maskOf_ok hm
      split at h
      · rename_i hb
        split at h
        · rename_i hl
          cases h
          refine ⟨fun x hx hbx => ?_, fun i hi => ?_⟩
          · rcases List.mem_cons.1 hx with rfl | hx
            · exact hl
            · exact h1 x hx hbx
          · rw [Nat.testBit_or, Nat.testBit_or, Bool.or_eq_true, Bool.or_eq_true] at hi
            rcases hi with (hi | hi) | hi
            · rw [Nat.one_shiftLeft, Nat.testBit_two_pow] at hi
              exact ⟨e, by simp, hb, .inl (by simpa using hi)⟩
            · exact ⟨e, by simp, hb, .inr hi⟩
            · obtain ⟨x, hx, h3⟩ := h2 i hi
              exact ⟨x, by simp [hx], h3⟩
        · cases h
      · rename_i hb
        cases h
        refine ⟨fun x hx hbx => ?_, fun i hi => ?_⟩
        · rcases List.mem_cons.1 hx with rfl | hx
          · exact (hb hbx).elim
          · exact h1 x hx hbx
        · obtain ⟨x, hx, h3⟩ := h2 i hi
          exact ⟨x, by simp [hx], h3⟩
    · cases h

theorem masksOf_ok : ∀ {ops : List Oper} {acc ks : List Nat}, masksOf acc ops = some ks → ks.length = acc.length + ops.length ∧ (∀ i, i < acc.length → ks[i]? = acc[i]?) ∧
    ∀ i o, ops[i]? = some o → ∃ m, ks[acc.length + i]? = some m ∧ (∀ e ∈ o.after.toList, Region.binds .any e = true → e.on < acc.length + i) ∧ ∀ q, m.testBit q = true → ∃ e ∈ o.after.toList, Region.binds .any e = true ∧ (e.on = q ∨ (ks.getD e.on 0).testBit q = true)
  | [], acc, ks, h => by cases h; simp
  | o :: ops, acc, ks, h => by
    simp only [masksOf] at h
    split at h
    · rename_i m hm
      obtain ⟨h1, h2⟩ := maskOf_ok hm
      obtain ⟨g1, g2, g3⟩ := masksOf_ok h
      refine ⟨by simp at g1 ⊢; omega, fun i hi => ?_, fun i o' ho' => ?_⟩
      · rw [g2 i (by simp; omega), List.getElem?_append_left hi]
      · cases i with
        | zero =>
          simp at ho'; subst ho'
          refine ⟨m, by rw [Nat.add_zero, g2 acc.length (by simp)]; simp, fun e he hb => by have := h1 e he hb; omega, fun q hq => ?_⟩
          obtain ⟨e, he, hb, h3⟩ := h2 q hq
          refine ⟨e, he, hb, ?_⟩
          rcases h3 with h3 | h3
          · exact .inl h3
          · right
            have hl := h1 e he hb
            have : ks.getD e.on 0 = acc.getD e.on 0 := by
              simp only [List.getD_eq_getElem?_getD]
              rw [g2 e.on (by simp; omega), List.getElem?_append_left hl]
            rw [this]; exact h3
        | succ i =>
          obtain ⟨m', p1, p2, p3⟩ := g3 i o' (by simpa using ho')
          refine ⟨m', by rw [← p1]; congr 1; simp; omega, fun e he hb => by have := p2 e he hb; simp at this; omega, p3⟩
    · cases h

theorem slotsOk1_ok {n : MOper} {mask : Nat} : ∀ {ms : List MOper} {i : Nat}, slotsOk1 n mask ms i = true → ∀ q m, ms[q]? = some m → (m.hits n = true ∨ n.hits m = true) → mask.testBit (i + q) = true
  | [], i, h, q, m, hm, _ => by simp at hm
  | m0 :: ms, i, h, q, m, hm, hh => by
    simp only [slotsOk1, Bool.and_eq_true, Bool.or_eq_true, Bool.not_eq_true', Bool.or_eq_false_iff] at h
    cases q with
    | zero =>
      simp at hm; subst hm
      rcases h.1 with h1 | h1
      · rcases hh with hh | hh
        · rw [h1.1] at hh; cases hh
        · rw [h1.2] at hh; cases hh
      · exact h1
    | succ q =>
      have := slotsOk1_ok h.2 q m (by simpa using hm) hh
      rwa [show i + 1 + q = i + (q + 1) by omega] at this

theorem slotsOk_ok : ∀ {ns : List MOper} {ks : List Nat} {done : List MOper}, slotsOk done ns ks = true → ks.length = ns.length ∧ ∀ (j q : Nat) n m k, ns[j]? = some n → ks[j]? = some k → q < done.length + j → (done ++ ns)[q]? = some m → (m.hits n = true ∨ n.hits m = true) → k.testBit q = true
  | [], [], done, _ => by simp
  | [], _ :: _, done, h => by simp [slotsOk] at h
  | _ :: _, [], done, h => by simp [slotsOk] at h
  | n :: ns, k :: ks, done, h => by
    simp only [slotsOk, Bool.and_eq_true] at h
    obtain ⟨h1, h2⟩ := h
    obtain ⟨g1, g2⟩ := slotsOk_ok h2
    refine ⟨by simp [g1], fun j q n' m k' hn hk hq hm hh => ?_⟩
    cases j with
    | zero =>
      simp at hn hk; subst hn hk
      rw [List.getElem?_append_left (by omega)] at hm
      have := slotsOk1_ok h1 q m hm hh
      simpa using this
    | succ j =>
      refine g2 j q n' m k' (by simpa using hn) (by simpa using hk) (by simp; omega) ?_ hh
      rw [List.append_assoc]; exact hm

/-! ### A region in whatever order -/
theorem exK (L W : Nat → Prop) : ∀ n, (∀ j1 j2, j1 < j2 → j2 < n → W j1 → W j2 → L j2 → L j1) → ∃ k, k ≤ n ∧ ∀ j, j < n → W j → (L j ↔ j < k) := by
  intro n
  induction n with
  | zero => intro _; exact ⟨0, Nat.le_refl _, fun j hj => by omega⟩
  | succ n ih =>
    intro hp
    obtain ⟨k, hk, h⟩ := ih fun j1 j2 h1 h2 => hp j1 j2 h1 (by omega)
    by_cases e : W n ∧ L n
    · refine ⟨n + 1, Nat.le_refl _, fun j hj hW => ⟨fun _ => hj, fun _ => ?_⟩⟩
      by_cases e2 : j = n
      · subst e2; exact e.2
      · exact hp j n (by omega) (by omega) hW e.1 e.2
    · refine ⟨k, by omega, fun j hj hW => ?_⟩
      by_cases e2 : j = n
      · subst e2
        exact ⟨fun h1 => (e ⟨hW, h1⟩).elim, fun h1 => by omega⟩
      · exact h j (by omega) hW

theorem build_list {α : Type} (Pd : Nat → α → Prop) : ∀ n, (∀ d, d < n → ∃ v, Pd d v) → ∃ t : List α, t.length = n ∧ ∀ d v, t[d]? = some v → Pd d v := by
  intro n
  induction n with
  | zero => intro _; exact ⟨[], rfl, by simp⟩
  | succ n ih =>
    intro h
    obtain ⟨t, h1, h2⟩ := ih fun d hd => h d (by omega)
    obtain ⟨v, hv⟩ := h n (by omega)
    refine ⟨t ++ [v], by simp [h1], fun d u hu => ?_⟩
    by_cases e : d < t.length
    · rw [List.getElem?_append_left e] at hu; exact h2 d u hu
    · have : d < (t ++ [v]).length := (List.getElem?_eq_some_iff.1 hu).1
      simp at this
      obtain rfl : d = t.length := by omega
      simp at hu; subst hu
      rw [h1]; exact hv

/-- All that is known of a region: its operations, their order, its trace. -/
structure Reg (P : Program) (G : Nat → Option V) (C : FuncId → List V → H → Option Res) (n0 : Nat) (all : Array Oper) (ms : List MOper) (ks : List Nat) (S : Nat → St) (X : Nat → Option Res) : Prop where
  comp : ∀ (i : Nat) o, all[i]? = some o → ∃ m, ms[i]? = some m ∧ compOper P all.toList o = some m
  len : ms.length = all.size
  klen : ks.length = all.size
  mask : ∀ (i : Nat) o, all[i]? = some o → ∃ k, ks[i]? = some k ∧ (∀ e ∈ o.after.toList, Region.binds .any e = true → e.on < i) ∧ ∀ q, k.testBit q = true → ∃ e ∈ o.after.toList, Region.binds .any e = true ∧ (e.on = q ∨ (ks.getD e.on 0).testBit q = true)
  slot : ∀ (j q : Nat) n m k, ms[j]? = some n → ks[j]? = some k → q < j → ms[q]? = some m → (m.hits n = true ∨ n.hits m = true) → k.testBit q = true
  step : ∀ (i : Nat) m k, ms[i]? = some m → ks[i]? = some k → Step G C n0 m (S i) (S (i + 1)) (X i) ∧ ∀ y, X i = some y → ∀ q z, q < i → X q = some z → clash y.r (allW (S i).h y) z.r (allW (S q).h z) = true → k.testBit q = true
  pos : n0 ≤ (S 0).h.length
  vb : ∀ i, i ≤ ms.length → (∀ v ∈ (S i).t, VB (S i).h.length v) ∧ HB (S i).h.length (S i).h

/-- a set of operations that holds what must come before -/
def Closed (all : Array Oper) (L : Nat → Prop) : Prop := ∀ (j : Nat) o, L j → all[j]? = some o → ∀ e ∈ o.after.toList, Region.binds .any e = true → L e.on

variable {C : FuncId → List V → H → Option Res} {n0 : Nat} {all : Array Oper} {ms : List MOper} {ks : List Nat} {S : Nat → St} {X : Nat → Option Res}

/-- What an operation's mask holds has come if all that binds it has. -/
theorem Reg.preds (hr : Reg P G C n0 all ms ks S X) {L : Nat → Prop} (hc : Closed all L) : ∀ (j : Nat) (o : Oper) (k : Nat), all[j]? = some o → ks[j]? = some k → (∀ e ∈ o.after.toList, Region.binds .any e = true → L e.on) → ∀ q, k.testBit q = true → L q := by
  intro j
  induction j using Nat.strongRecOn with
  | _ j ih =>
    intro o k ho hk hL q hq
    obtain ⟨k', h1, h2, h3⟩ := hr.mask j o ho
    rw [hk] at h1; cases h1
    obtain ⟨e, he, hb, h4⟩ := h3 q hq
    have hLe := hL e he hb
    rcases h4 with h4 | h4
    · rw [← h4]; exact hLe
    · have hej := h2 e he hb
      have hel : e.on < all.size := by have := (Array.getElem?_eq_some_iff.1 ho).1; omega
      have hk2 : ks[e.on]? = some (ks.getD e.on 0) := by
        have : e.on < ks.length := by rw [hr.klen]; exact hel
        simp [List.getD_eq_getElem?_getD, this]
      exact ih e.on hej all[e.on] _ (by simp [hel]) hk2 (fun e' he' hb' => hc e.on _ hLe (by simp [hel]) e' he' hb') q h4
end Go.Mini

namespace Go.Mini
set_option linter.unusedVariables false
set_option linter.unusedSimpArgs false
variable {P : Program} {G : Nat → Option V} {D : Nat → Prop} {base : Nat} {C : FuncId → List V → H → Option Res} {n0 : Nat} {all : Array Oper} {ms : List MOper} {ks : List Nat} {S : Nat → St} {X : Nat → Option Res}

/-- operation j writes block b (or makes it) -/
def Wr (S : Nat → St) (X : Nat → Option Res) (j b : Nat) : Prop := ∃ y, X j = some y ∧ b ∈ allW (S j).h y
/-- operation j writes slot d -/
def Ws (ms : List MOper) (j d : Nat) : Prop := ∃ m, ms[j]? = some m ∧ m.dst = some d

theorem allW_mem {h : H} {x : Res} {b : Nat} : b ∈ allW h x ↔ b ∈ x.w ∨ (h.length ≤ b ∧ b < x.h.length) := by
  unfold allW
  rw [List.mem_append, List.mem_range']
  constructor
  · rintro (h1 | ⟨i, h1, h2⟩)
    · exact .inl h1
    · exact .inr ⟨by omega, by omega⟩
  · rintro (h1 | ⟨h1, h2⟩)
    · exact .inl h1
    · exact .inr ⟨b - h.length, by omega, by omega⟩

theorem putV_get {t : List V} {d : Option Nat} {v : V} {e : Nat} (h : d ≠ some e) : (putV t d v)[e]? = t[e]? := by
  cases d with
  | none => rfl
  | some d => simp only [putV]; rw [List.getElem?_set_ne]; intro h1; exact h (by rw [h1])
theorem putV_len {t : List V} {d : Option Nat} {v : V} : (putV t d v).length = t.length := by cases d <;> simp [putV]

/-- what one step does -/
theorem Reg.one (hr : Reg P G C n0 all ms ks S X) (hL : LenOk C) {i : Nat} (hi : i < ms.length) : ∃ m, ms[i]? = some m ∧ (S i).h.length ≤ (S (i + 1)).h.length ∧ (∀ b ∈ (S i).w, b ∈ (S (i + 1)).w) ∧ (∀ b ∈ (S i).r, b ∈ (S (i + 1)).r) ∧ (S (i + 1)).t.length = (S i).t.length ∧
    (∀ d, m.dst ≠ some d → (S (i + 1)).t[d]? = (S i).t[d]?) ∧ (∀ b, ¬ Wr S X i b → (S (i + 1)).h[b]? = (S i).h[b]?) ∧ (∀ y, X i = some y → (S (i + 1)).h = y.h ∧ ∀ b, (b ∈ y.r → b < n0 → b ∈ (S (i + 1)).r) ∧ (b ∈ y.w → b < n0 → b ∈ (S (i + 1)).w)) ∧ (X i = none → (S (i + 1)).h = (S i).h) := by
  have hm : ms[i]? = some ms[i] := by simp [hi]
  have hk : ks[i]? = some (ks[i]'(by rw [hr.klen, ← hr.len]; exact hi)) := by simp [hr.klen, ← hr.len, hi]
  refine ⟨ms[i], hm, ?_⟩
  rcases (hr.step i _ _ hm hk).1 with ⟨h1, y, h2, h3, h4⟩ | ⟨h1, h2, h3⟩
  · have hop := opV_len hL h3
    rw [h4]
    refine ⟨hop.1, fun b hb => uni_mem.2 (.inr hb), fun b hb => uni_mem.2 (.inr hb), putV_len, fun d hd => putV_get hd, fun b hb => ?_, fun y' hy' => ?_, fun hn => by rw [h2] at hn; cases hn⟩
    · have hb' : ¬ (b ∈ y.w ∨ ((S i).h.length ≤ b ∧ b < y.h.length)) := fun h5 => hb ⟨y, h2, allW_mem.2 h5⟩
      simp only [regPut]
      by_cases e : b < (S i).h.length
      · exact hop.2.2 b e fun h5 => hb' (.inl h5)
      · have e2 : ¬ b < y.h.length := fun h5 => hb' (.inr ⟨by omega, h5⟩)
        rw [List.getElem?_eq_none (by omega), List.getElem?_eq_none (by omega)]
    · rw [h2] at hy'; cases hy'
      exact ⟨rfl, fun b => ⟨fun hb hn => uni_mem.2 (.inl ⟨hb, hn⟩), fun hb hn => uni_mem.2 (.inl ⟨hb, hn⟩)⟩⟩
  · rw [h3]
    exact ⟨Nat.le_refl _, fun _ h => h, fun _ h => h, putV_len, fun d hd => putV_get hd, fun _ _ => rfl, (fun y hy => by rw [h2] at hy; cases hy), fun _ => rfl⟩

theorem Reg.mono (hr : Reg P G C n0 all ms ks S X) (hL : LenOk C) {i k : Nat} (hik : i ≤ k) (hk : k ≤ ms.length) : (S i).h.length ≤ (S k).h.length ∧ (∀ b ∈ (S i).w, b ∈ (S k).w) ∧ (∀ b ∈ (S i).r, b ∈ (S k).r) ∧ (S k).t.length = (S i).t.length := by
  induction k with
  | zero => obtain rfl : i = 0 := by omega
            exact ⟨Nat.le_refl _, fun _ h => h, fun _ h => h, rfl⟩
  | succ k ih =>
    by_cases e : i = k + 1
    · subst e; exact ⟨Nat.le_refl _, fun _ h => h, fun _ h => h, rfl⟩
    · obtain ⟨h1, h2, h3, h4⟩ := ih (by omega) (by omega)
      obtain ⟨m, _, g1, g2, g3, g4, _⟩ := hr.one hL (i := k) (by omega)
      exact ⟨Nat.le_trans h1 g1, fun b hb => g2 b (h2 b hb), fun b hb => g3 b (h3 b hb), g4.trans h4⟩

/-- between two places where nothing writes it, a slot holds what it held -/
theorem Reg.slot_same (hr : Reg P G C n0 all ms ks S X) (hL : LenOk C) {d i k : Nat} (hik : i ≤ k) (hk : k ≤ ms.length) (hn : ∀ j, i ≤ j → j < k → ¬ Ws ms j d) : (S k).t[d]? = (S i).t[d]? := by
  induction k with
  | zero => obtain rfl : i = 0 := by omega
            rfl
  | succ k ih =>
    by_cases e : i = k + 1
    · subst e; rfl
    · obtain ⟨m, hm, _, _, _, _, g5, _⟩ := hr.one hL (i := k) (by omega)
      rw [g5 d fun h1 => hn k (by omega) (by omega) ⟨m, hm, h1⟩]
      exact ih (by omega) (by omega) fun j h1 h2 => hn j h1 (by omega)
theorem Reg.blk_same (hr : Reg P G C n0 all ms ks S X) (hL : LenOk C) {b i k : Nat} (hik : i ≤ k) (hk : k ≤ ms.length) (hn : ∀ j, i ≤ j → j < k → ¬ Wr S X j b) : (S k).h[b]? = (S i).h[b]? := by
  induction k with
  | zero => obtain rfl : i = 0 := by omega
            rfl
  | succ k ih =>
    by_cases e : i = k + 1
    · subst e; rfl
    · obtain ⟨m, hm, _, _, _, _, _, g6, _⟩ := hr.one hL (i := k) (by omega)
      rw [g6 b (hn k (by omega) (by omega))]
      exact ih (by omega) (by omega) fun j h1 h2 => hn j h1 (by omega)

/-- In the middle of a region: those of L have been carried out. -/
structure Mid (G : Nat → Option V) (D : Nat → Prop) (base n0 : Nat) (ms : List MOper) (S : Nat → St) (X : Nat → Option Res) (forb0 : Nat → Prop) (φ0 : Phi) (w0 : World) (a0 : Act) (L : Nat → Prop) (forb : Nat → Prop) (φ : Phi) (w : World) (a : Act) : Prop where
  slot : ∀ d k, k ≤ ms.length → (∀ j, j < ms.length → Ws ms j d → (L j ↔ j < k)) → ∀ v, (S k).t[d]? = some v → ∃ c, a.tmps[d]? = some c ∧ VR forb w φ v c
  size : a.tmps.size = (S 0).t.length
  glob : ∀ n v, G n = some v → VR forb w noPhi v (.pointer (some ⟨n, 0, none⟩))
  row : ∀ b k x v l, D b → k ≤ ms.length → (∀ j, j < ms.length → Wr S X j b → (L j ↔ j < k)) → (S k).h[b]? = some (.row x) → x.rd ≤ v → v ≤ x.cur → φ b v = some l → RowOk forb φ w x v l
  new : ∀ b k x v l, D b → k ≤ ms.length → (∀ j, j < ms.length → Wr S X j b → (L j ↔ j < k)) → (S k).h[b]? = some (.row x) → φ b v = some l → v ≤ x.cur
  mp : ∀ b k es l, D b → k ≤ ms.length → (∀ j, j < ms.length → Wr S X j b → (L j ↔ j < k)) → (S k).h[b]? = some (.mp es) → φ b 0 = some l → MapAt w l.cb es
  low : ∀ b v l, φ b v = some l → base ≤ l.cb ∧ l.cb < w.heap.size ∧ forb l.cb
  apart : ∀ b v l b' v' l', φ b v = some l → φ b' v' = some l' → l.cb = l'.cb → b = b' ∧ l.coff = l'.coff ∧ l.sz = l'.sz ∧ l.lo = l'.lo
  top : base ≤ w.heap.size
  fresh : ∀ j, j < ms.length → ¬ L j → ∀ b v, (S j).h.length ≤ b → b < (S (j + 1)).h.length → φ b v = none
  ext : Ext forb0 forb w0 w
  mono : ∀ b v l, φ0 b v = some l → φ b v = some l
  far : ∀ b v, (S ms.length).h.length ≤ b → φ b v = φ0 b v
  loc : ∀ b v l, b < n0 ∨ (S ms.length).h.length ≤ b → φ0 b v = some l → b ∉ (S ms.length).w → w.heap[l.cb]? = w0.heap[l.cb]?
  old : ∀ b v, b < n0 → b ∉ (S ms.length).w → φ b v = φ0 b v
  defers : a.defers = a0.defers

theorem meets_mem {a b : List Nat} : meets a b = true ↔ ∃ x, x ∈ a ∧ x ∈ b := by
  unfold meets; simp [List.any_eq_true]
theorem clash_ww {r w r' w' : List Nat} {b : Nat} (h1 : b ∈ w) (h2 : b ∈ w') : clash r w r' w' = true := by
  simp only [clash, Bool.or_eq_true]; exact .inl (.inr (meets_mem.2 ⟨b, h1, h2⟩))
theorem clash_wr {r w r' w' : List Nat} {b : Nat} (h1 : b ∈ w) (h2 : b ∈ r') : clash r w r' w' = true := by
  simp only [clash, Bool.or_eq_true]; exact .inl (.inl (meets_mem.2 ⟨b, h1, h2⟩))
theorem clash_rw {r w r' w' : List Nat} {b : Nat} (h1 : b ∈ r) (h2 : b ∈ w') : clash r w r' w' = true := by
  simp only [clash, Bool.or_eq_true]; exact .inr (meets_mem.2 ⟨b, h1, h2⟩)

/-- an earlier operation that bears on a later one's blocks comes before it -/
theorem Reg.clash_pred (hr : Reg P G C n0 all ms ks S X) {L : Nat → Prop} (hc : Closed all L) {j q : Nat} {o : Oper} {y z : Res} (hj : j < ms.length) (ho : all[j]? = some o) (hLj : ∀ e ∈ o.after.toList, Region.binds .any e = true → L e.on) (hq : q < j) (hy : X j = some y) (hz : X q = some z) (hcl : clash y.r (allW (S j).h y) z.r (allW (S q).h z) = true) : L q := by
  have hm : ms[j]? = some ms[j] := by simp [hj]
  have hk : ks[j]? = some (ks[j]'(by rw [hr.klen, ← hr.len]; exact hj)) := by simp [hr.klen, ← hr.len, hj]
  exact hr.preds hc j o _ ho hk hLj q ((hr.step j _ _ hm hk).2 y hy q z hq hz hcl)
theorem Reg.slot_pred (hr : Reg P G C n0 all ms ks S X) {L : Nat → Prop} (hc : Closed all L) {j q : Nat} {o : Oper} {n m : MOper} (hj : ms[j]? = some n) (ho : all[j]? = some o) (hLj : ∀ e ∈ o.after.toList, Region.binds .any e = true → L e.on) (hq : q < j) (hm : ms[q]? = some m) (hh : m.hits n = true ∨ n.hits m = true) : L q := by
  have hjl := (List.getElem?_eq_some_iff.1 hj).1
  have hk : ks[j]? = some (ks[j]'(by rw [hr.klen, ← hr.len]; exact hjl)) := by simp [hr.klen, ← hr.len, hjl]
  exact hr.preds hc j o _ ho hk hLj q (hr.slot j q n m _ hj hk hq hm hh)

theorem args_congr {t t' : List V} {n : Nat} {m : MOp} (h : ∀ d ∈ m.slots, t'[d]? = t[d]?) (k : ArgsVB G n t m) : ArgsVB G n t' m := by
  intro df das e f cap as h1 h2
  subst e
  rw [ev_congr fun d hd => h d (by simp [MOp.slots, hd])] at h1
  rw [evs_congr fun d hd => h d (by simp [MOp.slots, hd])] at h2
  exact k df das rfl f cap as h1 h2

/-- One more operation. -/
theorem Mid.step {P : Program} (hC : CallOk P G C) (hL : LenOk C) (hr : Reg P G C n0 all ms ks S X) {forb0 : Nat → Prop} {φ0 : Phi} {w0 : World} {a0 : Act} {L : Nat → Prop} {forb : Nat → Prop} {φ : Phi} {w : World} {a : Act}
    (hM : Mid G D base n0 ms S X forb0 φ0 w0 a0 L forb φ w a) (hc : Closed all L) (hD0 : ∀ b, n0 ≤ b → D b) (hDf : ∀ b, (b ∈ (S ms.length).r ∨ b ∈ (S ms.length).w) → D b)
    {i : Nat} {o : Oper} (ho : all[i]? = some o) (hLi : ¬ L i) (hpre : ∀ e ∈ o.after.toList, Region.binds .any e = true → L e.on) (Q : Exit → Act → World → Prop) (K : Act → World → Prop)
    (hK : ∀ forb' φ' a' w', Mid G D base n0 ms S X forb0 φ0 w0 a0 (fun j => L j ∨ j = i) forb' φ' w' a' → K a' w') : wpOp P all Q i K a w := by
  have hi : i < ms.length := by rw [hr.len]; exact (Array.getElem?_eq_some_iff.1 ho).1
  obtain ⟨m, hm, hcomp⟩ := hr.comp i o ho
  have hk : ks[i]? = some (ks[i]'(by rw [hr.klen, ← hr.len]; exact hi)) := by simp [hr.klen, ← hr.len, hi]
  obtain ⟨hstep, hfree⟩ := hr.step i m _ hm hk
  obtain ⟨m', hm', o1, o2, o3, o4, o5, o6, o7, o8⟩ := hr.one hL hi
  rw [hm] at hm'; cases hm'
  have hmonoF := hr.mono hL (i := i + 1) (k := ms.length) (by omega) (Nat.le_refl _)
  have allAt : ∀ j, j < ms.length → ∃ oj, all[j]? = some oj := by
    intro j hj
    have hj2 : j < all.size := by rw [← hr.len]; exact hj
    exact ⟨all[j], by simp [hj2]⟩
  -- whoever comes later and bears on i has not come
  have later : ∀ j, i < j → j < ms.length → (∀ oj, all[j]? = some oj → (∀ L' : Nat → Prop, Closed all L' → (∀ e ∈ oj.after.toList, Region.binds .any e = true → L' e.on) → L' i)) → ¬ L j := by
    intro j hij hj hpj hLj
    obtain ⟨oj, hoj⟩ := allAt j hj
    exact hLi (hpj _ hoj L hc (fun e he hb => hc j _ hLj hoj e he hb))
  have laterW : ∀ j b, i < j → j < ms.length → Wr S X i b → Wr S X j b → ¬ L j := by
    intro j b hij hj ⟨y, hy1, hy2⟩ ⟨z, hz1, hz2⟩
    exact later j hij hj fun oj hoj L' hc' hp' => hr.clash_pred hc' hj hoj hp' hij hz1 hy1 (clash_ww hz2 hy2)
  have laterS : ∀ j mj, i < j → ms[j]? = some mj → (m.hits mj = true ∨ mj.hits m = true) → ¬ L j := by
    intro j mj hij hj hh
    exact later j hij (List.getElem?_eq_some_iff.1 hj).1 fun oj hoj L' hc' hp' => hr.slot_pred hc' hj hoj hp' hij hm hh
  have earlierW : ∀ j y z, j < i → X i = some y → X j = some z → clash y.r (allW (S i).h y) z.r (allW (S j).h z) = true → L j := fun j y z hji hy hz hcl => hr.clash_pred hc hi ho hpre hji hy hz hcl
  have earlierS : ∀ j mj, j < i → ms[j]? = some mj → (mj.hits m = true ∨ m.hits mj = true) → L j := fun j mj hji hj hh => hr.slot_pred hc hm ho hpre hji hj hh
  -- the slots, as the operation sees them
  have hreads : ∀ d, d ∈ m.reads → ∀ j, j < ms.length → Ws ms j d → (L j ↔ j < i) := by
    intro d hd j hj ⟨mj, hmj, hdj⟩
    have hit : mj.hits m = true := by simp only [MOper.hits, hdj, Bool.or_eq_true]; left; simpa using hd
    constructor
    · intro hLj
      rcases Nat.lt_trichotomy j i with h1 | h1 | h1
      · exact h1
      · subst h1; exact (hLi hLj).elim
      · exact (laterS j mj h1 hmj (.inr hit) hLj).elim
    · intro hji; exact earlierS j mj hji hmj (.inl hit)
  have prefS : ∀ d j1 j2, j1 < j2 → j2 < ms.length → Ws ms j1 d → Ws ms j2 d → L j2 → L j1 := by
    intro d j1 j2 h12 h2 ⟨m1, p1, p2⟩ ⟨m2, q1, q2⟩ hL2
    obtain ⟨oj, hoj⟩ := allAt j2 h2
    exact hr.slot_pred hc q1 hoj (fun e he hb => hc j2 _ hL2 hoj e he hb) h12 p1 (.inl (by simp only [MOper.hits, p2, Bool.or_eq_true]; right; simp [q2]))
  obtain ⟨t', ht1, ht2⟩ := build_list (fun d v => (d ∈ m.reads → (S i).t[d]? = some v) ∧ ∃ c, a.tmps[d]? = some c ∧ VR forb w φ v c) (S 0).t.length (fun d hd => by
    by_cases e : d ∈ m.reads
    · have hlen := (hr.mono hL (i := 0) (k := i) (by omega) (by omega)).2.2.2
      have hv : (S i).t[d]? = some ((S i).t[d]'(by omega)) := by simp [show d < (S i).t.length by omega]
      obtain ⟨c, h1, h2⟩ := hM.slot d i (by omega) (hreads d e) _ hv
      exact ⟨_, fun _ => hv, c, h1, h2⟩
    · obtain ⟨k, hk1, hk2⟩ := exK L (fun j => Ws ms j d) ms.length (prefS d)
      have hlen := (hr.mono hL (i := 0) (k := k) (by omega) hk1).2.2.2
      have hv : (S k).t[d]? = some ((S k).t[d]'(by omega)) := by simp [show d < (S k).t.length by omega]
      obtain ⟨c, h1, h2⟩ := hM.slot d k hk1 hk2 _ hv
      exact ⟨_, fun h => (e h).elim, c, h1, h2⟩)
  have hTm : Tm G forb φ w t' a := ⟨by rw [hM.size, ht1], fun d v hv => (ht2 d v hv).2, hM.glob⟩
  have hagree : ∀ d ∈ m.reads, t'[d]? = (S i).t[d]? := by
    intro d hd
    have hlen := (hr.mono hL (i := 0) (k := i) (by omega) (by omega)).2.2.2
    by_cases e : d < t'.length
    · have hv : t'[d]? = some t'[d] := by simp [e]
      rw [hv, (ht2 d _ hv).1 hd]
    · rw [List.getElem?_eq_none (by omega), List.getElem?_eq_none (by omega)]
  have hsl : ∀ d ∈ m.op.slots, t'[d]? = (S i).t[d]? := fun d hd => hagree d (by unfold MOper.reads; split <;> simp [hd])
  have hgd : ∀ d b, m.guard = some (d, b) → t'[d]? = (S i).t[d]? := fun d b hg => hagree d (by unfold MOper.reads; rw [hg]; simp)
  obtain ⟨e1, e2, e3⟩ := wanted_ok hTm hcomp
  rw [wantedV_congr hgd] at e1
  -- what the new set means
  have newS : ∀ d k, k ≤ ms.length → (∀ j, j < ms.length → Ws ms j d → ((L j ∨ j = i) ↔ j < k)) → (m.dst = some d → i < k ∧ (S k).t[d]? = (S (i + 1)).t[d]?) ∧ (m.dst ≠ some d → ∀ j, j < ms.length → Ws ms j d → (L j ↔ j < k)) := by
    intro d k hk hcond
    refine ⟨fun hd => ?_, fun hd j hj hW => ?_⟩
    · have hik : i < k := (hcond i hi ⟨m, hm, hd⟩).1 (.inr rfl)
      refine ⟨hik, hr.slot_same hL (by omega) hk fun j h1 h2 hW => ?_⟩
      obtain ⟨mj, p1, p2⟩ := hW
      have := (hcond j (by omega) ⟨mj, p1, p2⟩).2 h2
      rcases this with h3 | h3
      · exact laterS j mj (by omega) p1 (.inl (by simp only [MOper.hits, hd, Bool.or_eq_true]; right; simp [p2])) h3
      · omega
    · rw [← hcond j hj hW]
      constructor
      · exact .inl
      · rintro (h1 | rfl)
        · exact h1
        · obtain ⟨mj, p1, p2⟩ := hW; rw [hm] at p1; cases p1; exact (hd p2).elim
  have newB : ∀ b k, k ≤ ms.length → (∀ j, j < ms.length → Wr S X j b → ((L j ∨ j = i) ↔ j < k)) → (Wr S X i b → (S k).h[b]? = (S (i + 1)).h[b]?) ∧ (¬ Wr S X i b → ∀ j, j < ms.length → Wr S X j b → (L j ↔ j < k)) := by
    intro b k hk hcond
    refine ⟨fun hd => ?_, fun hd j hj hW => ?_⟩
    · have hik : i < k := (hcond i hi hd).1 (.inr rfl)
      refine hr.blk_same hL (by omega) hk fun j h1 h2 hW => ?_
      have := (hcond j (by omega) hW).2 h2
      rcases this with h3 | h3
      · exact laterW j b (by omega) (by omega) hd hW h3
      · omega
    · rw [← hcond j hj hW]
      constructor
      · exact .inl
      · rintro (h1 | rfl)
        · exact h1
        · exact (hd hW).elim
  unfold wpOp
  simp only [ho]
  rcases hstep with ⟨h1, y, h2, h3, h4⟩ | ⟨h1, h2, h3⟩
  · rw [if_pos (by rw [← e1]; exact h1)]
    left
    obtain ⟨o71, o72⟩ := o7 y h2
    have hop := opV_len hL h3
    have hcl : ∀ b, (b ∈ y.r ∨ b ∈ y.w) → ∀ j, j < ms.length → Wr S X j b → (L j ↔ j < i) := by
      intro b hb j hj ⟨z, hz1, hz2⟩
      constructor
      · intro hLj
        rcases Nat.lt_trichotomy j i with g | g | g
        · exact g
        · subst g; exact (hLi hLj).elim
        · refine ((later j g hj fun oj hoj L' hc' hp' => hr.clash_pred hc' hj hoj hp' g hz1 h2 ?_) hLj).elim
          rcases hb with hb | hb
          · exact clash_wr hz2 hb
          · exact clash_ww hz2 (allW_mem.2 (.inl hb))
      · intro hji
        refine earlierW j y z hji h2 hz1 ?_
        rcases hb with hb | hb
        · exact clash_rw hb hz2
        · exact clash_ww (allW_mem.2 (.inl hb)) hz2
    have hyD : ∀ b, (b ∈ y.r ∨ b ∈ y.w) → D b := by
      intro b hb
      by_cases e : n0 ≤ b
      · exact hD0 b e
      · refine hDf b ?_
        rcases hb with hb | hb
        · exact .inl (hmonoF.2.2.1 b ((o72 b).1 hb (by omega)))
        · exact .inr (hmonoF.2.1 b ((o72 b).2 hb (by omega)))
    have hRi : Rel forb φ (fun b => b ∈ y.r ∨ b ∈ y.w) base (S i).h w :=
      ⟨fun b x v l hb hx => hM.row b i x v l (hyD b hb) (by omega) (hcl b hb) hx, hM.low, hM.apart, hM.top, fun b x v l hb hx => hM.new b i x v l (hyD b hb) (by omega) (hcl b hb) hx, fun b es l hb hx => hM.mp b i es l (hyD b hb) (by omega) (hcl b hb) hx⟩
    have hg := opV_okX hC hTm hRi e3 (args_congr hsl (args_vb hTm.gb (compX_okC e3) (hr.vb i (by omega)).1)) (hr.vb i (by omega)).2 (by rw [opV_congr hsl]; exact h3) (fun b hb => hb) (fun b v hb1 hb2 => hM.fresh i hi hLi b v hb1 (by rw [o71]; exact hb2))
    refine hg.wp fun c w' hP => ?_
    obtain ⟨forb', φ', p1, p2, p3, p4, p5, p6, p7, p8⟩ := hP
    have hnoW : ∀ b, ¬ Wr S X i b → ∀ v, φ' b v = φ b v := by
      intro b hb v
      have hb' : ¬ (b ∈ y.w ∨ ((S i).h.length ≤ b ∧ b < y.h.length)) := fun h5 => hb ⟨y, h2, allW_mem.2 h5⟩
      by_cases e : b < (S i).h.length
      · exact p7 b v e fun h5 => hb' (.inl h5)
      · exact p5 b v (by have : ¬ b < y.h.length := fun h5 => hb' (.inr ⟨by omega, h5⟩); omega)
    have hnoW2 : ∀ b, ¬ Wr S X i b → b ∉ y.w := fun b hb h5 => hb ⟨y, h2, allW_mem.2 (.inl h5)⟩
    have hDi : ∀ b, Wr S X i b → ((b ∈ y.r ∨ b ∈ y.w) ∨ ((S i).h.length ≤ b ∧ b < y.h.length)) := by
      rintro b ⟨z, hz1, hz2⟩
      rw [h2] at hz1; cases hz1
      rcases allW_mem.1 hz2 with h5 | h5
      · exact .inl (.inr h5)
      · exact .inr h5
    refine hK forb' φ' _ w' ⟨fun d k hk hcond v hv => ?_, ?_, fun n v hv => (hM.glob n v hv).ext p3 noPhi (fun _ _ _ h => h), fun b k x v l hb hk hcond hx r1 r2 hl => ?_, fun b k x v l hb hk hcond hx hl => ?_, fun b k es l hb hk hcond hx hl => ?_, p2.low, p2.apart, p2.top, fun j hj hLj b v hb1 hb2 => ?_, hM.ext.trans p3, fun b v l hl => p4 _ _ _ (hM.mono _ _ _ hl), fun b v hb => ?_, fun b v l hb hl hn => ?_, fun b v hb hn => ?_, ?_⟩
    · obtain ⟨q1, q2⟩ := newS d k hk hcond
      rw [← e2]
      by_cases e : m.dst = some d
      · obtain ⟨q3, q4⟩ := q1 e
        rw [q4, h4] at hv
        simp only [regPut, e, putV] at hv
        have hdl : d < (S i).t.length := by have := (List.getElem?_eq_some_iff.1 hv).1; simpa using this
        rw [List.getElem?_set_self hdl] at hv
        cases hv
        have hlen := (hr.mono hL (i := 0) (k := i) (by omega) (by omega)).2.2.2
        refine ⟨c, ?_, p1⟩
        simp only [Act.put, e]
        rw [Array.getElem?_setIfInBounds, if_pos rfl, if_pos (by rw [hM.size]; omega)]
      · obtain ⟨u, g1, g2⟩ := hM.slot d k hk (q2 e) v hv
        refine ⟨u, ?_, g2.ext p3 φ' p4⟩
        cases hdst : m.dst with
        | none => simpa [Act.put] using g1
        | some d' =>
          simp only [Act.put]
          rw [Array.getElem?_setIfInBounds, if_neg (by rintro rfl; exact e hdst)]
          exact g1
    · rw [← hM.size]; cases o.dst <;> simp [Act.put]
    · obtain ⟨q1, q2⟩ := newB b k hk hcond
      by_cases e : Wr S X i b
      · rw [q1 e, o71] at hx
        exact p2.row b x v l (hDi b e) hx r1 r2 hl
      · rw [hnoW b e v] at hl
        exact (hM.row b k x v l hb hk (q2 e) hx r1 r2 hl).ext p3 p4 (p6 b v l hl (hnoW2 b e))
    · obtain ⟨q1, q2⟩ := newB b k hk hcond
      by_cases e : Wr S X i b
      · rw [q1 e, o71] at hx
        exact p2.new b x v l (hDi b e) hx hl
      · rw [hnoW b e v] at hl
        exact hM.new b k x v l hb hk (q2 e) hx hl
    · obtain ⟨q1, q2⟩ := newB b k hk hcond
      by_cases e : Wr S X i b
      · rw [q1 e, o71] at hx
        exact p2.mp b es l (hDi b e) hx hl
      · rw [hnoW b e 0] at hl
        exact (hM.mp b k es l hb hk (q2 e) hx hl).congr (p6 b 0 l hl (hnoW2 b e))
    · simp only [not_or] at hLj
      have hnW : ¬ Wr S X i b := by
        rintro ⟨z, hz1, hz2⟩
        rw [h2] at hz1; cases hz1
        rcases Nat.lt_or_gt_of_ne hLj.2 with g | g
        · -- j before i
          obtain ⟨mj, _, _, _, _, _, _, g6, g7, g8⟩ := hr.one hL hj
          rcases hXj : X j with _ | z
          · rw [g8 hXj] at hb2; omega
          · have hWj : b ∈ allW (S j).h z := allW_mem.2 (.inr ⟨hb1, by rw [← (g7 z hXj).1]; exact hb2⟩)
            exact hLj.1 (earlierW j y z g h2 hXj (clash_ww hz2 hWj))
        · have := (hr.mono hL (i := i + 1) (k := j) (by omega) (by omega)).1
          rcases allW_mem.1 hz2 with h5 | h5
          · have := hop.2.1 b h5; omega
          · rw [← o71] at h5; omega
      rw [hnoW b hnW v]
      exact hM.fresh j hj hLj.1 b v hb1 hb2
    · have : (S (i + 1)).h.length ≤ (S ms.length).h.length := hmonoF.1
      rw [o71] at this
      rw [p5 b v (by omega), hM.far b v hb]
    · have hyw : b ∉ y.w := by
        intro h5
        rcases hb with hb | hb
        · exact hn (hmonoF.2.1 b ((o72 b).2 h5 hb))
        · have := hop.2.1 b h5
          have := hmonoF.1
          omega
      rw [p6 b v l (hM.mono _ _ _ hl) hyw, hM.loc b v l hb hl hn]
    · have hyw : b ∉ y.w := fun h5 => hn (hmonoF.2.1 b ((o72 b).2 h5 hb))
      have hb2 : b < (S i).h.length := by
        have := (hr.mono hL (i := 0) (k := i) (by omega) (by omega)).1
        have := hr.pos
        omega
      rw [p7 b v hb2 hyw, hM.old b v hb hn]
    · rw [← hM.defers]; cases o.dst <;> rfl
  · rw [if_neg (by rw [← e1, h1]; simp)]
    have hnW : ∀ b, ¬ Wr S X i b := by rintro b ⟨z, hz1, _⟩; rw [h2] at hz1; cases hz1
    refine hK forb φ _ w ⟨fun d k hk hcond v hv => ?_, ?_, hM.glob, fun b k x v l hb hk hcond => hM.row b k x v l hb hk ((newB b k hk hcond).2 (hnW b)), fun b k x v l hb hk hcond => hM.new b k x v l hb hk ((newB b k hk hcond).2 (hnW b)), fun b k es l hb hk hcond => hM.mp b k es l hb hk ((newB b k hk hcond).2 (hnW b)), hM.low, hM.apart, hM.top, fun j hj hLj b v hb1 hb2 => ?_, hM.ext, hM.mono, hM.far, hM.loc, hM.old, ?_⟩
    · obtain ⟨q1, q2⟩ := newS d k hk hcond
      rw [← e2]
      by_cases e : m.dst = some d
      · obtain ⟨q3, q4⟩ := q1 e
        rw [q4, h3] at hv
        simp only [e, putV] at hv
        have hdl : d < (S i).t.length := by have := (List.getElem?_eq_some_iff.1 hv).1; simpa using this
        rw [List.getElem?_set_self hdl] at hv
        cases hv
        have hlen := (hr.mono hL (i := 0) (k := i) (by omega) (by omega)).2.2.2
        refine ⟨Go.undef, ?_, .undef⟩
        simp only [Act.put, e]
        rw [Array.getElem?_setIfInBounds, if_pos rfl, if_pos (by rw [hM.size]; omega)]
      · obtain ⟨u, g1, g2⟩ := hM.slot d k hk (q2 e) v hv
        refine ⟨u, ?_, g2⟩
        cases hdst : m.dst with
        | none => simpa [Act.put] using g1
        | some d' =>
          simp only [Act.put]
          rw [Array.getElem?_setIfInBounds, if_neg (by rintro rfl; exact e hdst)]
          exact g1
    · rw [← hM.size]; cases o.dst <;> simp [Act.put]
    · simp only [not_or] at hLj
      exact hM.fresh j hj hLj.1 b v hb1 hb2
    · rw [← hM.defers]; cases o.dst <;> rfl
end Go.Mini

namespace Go.Mini
set_option linter.unusedVariables false
set_option linter.unusedSimpArgs false
variable {P : Program} {G : Nat → Option V} {D : Nat → Prop} {base : Nat} {C : FuncId → List V → H → Option Res} {n0 : Nat} {all : Array Oper} {ms : List MOper} {ks : List Nat} {S : Nat → St} {X : Nat → Option Res}

def On (listed : Array Bool) (j : Nat) : Prop := listed.getD j false = true

theorem gd_lt {listed : Array Bool} {j : Nat} {d : Bool} (h : j < listed.size) : listed.getD j d = listed[j] := by
  rw [Array.getD_eq_getD_getElem?, Array.getElem?_eq_getElem h]; rfl
theorem gd_ge {listed : Array Bool} {j : Nat} (h : ¬ j < listed.size) : listed.getD j false = false := by
  rw [Array.getD_eq_getD_getElem?, Array.getElem?_eq_none (by omega)]; rfl

theorem count_set {l : List Bool} {i : Nat} (h : l[i]? = some false) : ((l.set i true).filter id).length = (l.filter id).length + 1 := by
  induction l generalizing i with
  | nil => simp at h
  | cons b l ih =>
    cases i with
    | zero => simp at h; subst h; simp
    | succ i =>
      simp at h
      cases b <;> simp [ih h]
theorem count_all {l : List Bool} (h : (l.filter id).length = l.length) : ∀ b ∈ l, b = true := by
  induction l with
  | nil => simp
  | cons b l ih =>
    intro c hc
    have hle := List.length_filter_le id l
    cases b with
    | false => simp at h; omega
    | true =>
      rcases List.mem_cons.1 hc with rfl | hc
      · rfl
      · exact ih (by simpa using h) c hc

theorem wpAny_mid (hC : CallOk P G C) (hL : LenOk C) (hr : Reg P G C n0 all ms ks S X) {forb0 : Nat → Prop} {φ0 : Phi} {w0 : World} {a0 : Act} (hD0 : ∀ b, n0 ≤ b → D b) (hDf : ∀ b, (b ∈ (S ms.length).r ∨ b ∈ (S ms.length).w) → D b) (Q : Exit → Act → World → Prop)
    (hQ : ∀ forb φ w a, (∀ L : Nat → Prop, (∀ j, j < ms.length → L j) → Mid G D base n0 ms S X forb0 φ0 w0 a0 L forb φ w a → Q .normal a w)) :
    ∀ (fuel : Nat) (listed : Array Bool) (forb : Nat → Prop) (φ : Phi) (w : World) (a : Act), listed.size = all.size → (listed.toList.filter id).length + fuel = all.size → Closed all (On listed) → Mid G D base n0 ms S X forb0 φ0 w0 a0 (On listed) forb φ w a → wpAny P .any all Q fuel listed a w := by
  intro fuel
  induction fuel with
  | zero =>
    intro listed forb φ w a hsz hcount hcl hM
    have hall := count_all (l := listed.toList) (by simpa [hsz] using hcount)
    have hon : ∀ j, j < all.size → On listed j := by
      intro j hj
      have : listed[j]'(by omega) = true := hall _ (by simp)
      show listed.getD j false = true
      rw [gd_lt (by omega)]; exact this
    refine ⟨?_, hQ forb φ w a _ (fun j hj => hon j (by rw [← hr.len]; exact hj)) hM⟩
    unfold Region.ready
    rw [List.filter_eq_nil_iff]
    intro j hj
    have hj' : j < all.size := by simpa using hj
    have := hon j hj'
    have e : listed.getD j false = true := this
    rw [gd_lt (by omega)] at e
    rw [gd_lt (by omega), e]; simp
  | succ fuel ih =>
    intro listed forb φ w a hsz hcount hcl hM
    have hready : ∀ i, i ∈ Region.ready .any all listed ↔ i < all.size ∧ ¬ On listed i ∧ ∀ o, all[i]? = some o → ∀ e ∈ o.after.toList, Region.binds .any e = true → On listed e.on := by
      intro i
      unfold Region.ready
      rw [List.mem_filter, List.mem_range]
      constructor
      · rintro ⟨h1, h2⟩
        have ho : all[i]? = some all[i] := by simp [h1]
        rw [ho] at h2
        simp only [Option.map_some, Option.getD_some, Bool.and_eq_true, Bool.not_eq_true'] at h2
        refine ⟨h1, ?_, fun o ho' e he hb => ?_⟩
        · have := h2.1
          rw [gd_lt (by omega)] at this
          simp only [On]
          rw [gd_lt (by omega), this]; simp
        · rw [ho] at ho'; cases ho'
          have h3 := h2.2
          rw [Array.all_eq_true'] at h3
          have h4 := h3 e (by simpa using he)
          simpa [hb, On] using h4
      · rintro ⟨h1, h2, h3⟩
        have ho : all[i]? = some all[i] := by simp [h1]
        refine ⟨h1, ?_⟩
        rw [ho]
        simp only [Option.map_some, Option.getD_some, Bool.and_eq_true, Bool.not_eq_true']
        refine ⟨?_, ?_⟩
        · simp only [On] at h2
          rw [gd_lt (by omega)] at h2 ⊢
          exact Bool.eq_false_iff.2 h2
        · rw [Array.all_eq_true']
          intro e he
          by_cases hb : Region.binds .any e = true
          · have := h3 _ ho e (by simpa using he) hb
            simpa [hb, On] using this
          · simp [hb]
    refine ⟨fun hnil => ?_, fun i hi => ?_⟩
    · refine hQ forb φ w a _ (fun j => ?_) hM
      induction j using Nat.strongRecOn with
      | _ j ihj =>
        intro hj
        refine Classical.byContradiction fun hne => ?_
        have hmem : j ∈ Region.ready .any all listed := by
          rw [hready]
          refine ⟨by rw [← hr.len]; exact hj, hne, fun o ho e he hb => ?_⟩
          obtain ⟨k, _, h2, _⟩ := hr.mask j o ho
          exact ihj e.on (h2 e he hb) (by have := h2 e he hb; omega)
        rw [hnil] at hmem; simp at hmem
    · obtain ⟨h1, h2, h3⟩ := (hready i).1 hi
      have ho : all[i]? = some all[i] := by simp [h1]
      have hson : ∀ j, On (listed.setIfInBounds i true) j ↔ (On listed j ∨ j = i) := by
        intro j
        simp only [On]
        by_cases e : j < listed.size
        · have e' : j < (listed.setIfInBounds i true).size := by simpa using e
          rw [gd_lt e, gd_lt e', Array.getElem_setIfInBounds]
          by_cases e2 : i = j
          · simp [e2]
          · simp [e2, Ne.symm e2]
          exact e
        · have e' : ¬ j < (listed.setIfInBounds i true).size := by simpa using e
          rw [gd_ge e, gd_ge e']
          simp only [Bool.false_eq_true, false_or, false_iff]
          omega
      refine hM.step hC hL hr hcl hD0 hDf ho h2 (h3 _ ho) Q _ fun forb' φ' a' w' hM' => ?_
      refine ih (listed.setIfInBounds i true) forb' φ' w' a' (by simpa using hsz) ?_ (fun j o hj hoj e he hb => ?_) ?_
      · have hf : listed.toList[i]? = some false := by
          have h2' : ¬ listed.getD i false = true := h2
          rw [gd_lt (by omega)] at h2'
          rw [Array.getElem?_toList, Array.getElem?_eq_getElem (by omega)]
          simpa using h2'
        have := count_set hf
        simp only [Array.toList_setIfInBounds]
        omega
      · rw [hson] at hj ⊢
        rcases hj with hj | rfl
        · exact .inl (hcl j o hj hoj e he hb)
        · exact .inl (h3 o hoj e he hb)
      · have : (fun j => On listed j ∨ j = i) = On (listed.setIfInBounds i true) := by funext j; exact propext (hson j).symm
        rw [← this]; exact hM'

/-- A region that draws its order. -/
theorem drawV_ok (hC : CallOk P G C) (hL : LenOk C) (hV : VbOk C) (hms : mapM? (compOper P all.toList) all.toList = some ms) (hks : masksOf [] all.toList = some ks) (hsl : slotsOk [] ms ks = true) {s s' : St} (hd : drawV G C n0 ms 0 ks [] s = some s')
    {forb : Nat → Prop} {φ : Phi} {w : World} {a : Act} (hB : ∀ v ∈ s.t, VB s.h.length v) (hH : HB s.h.length s.h) (ht : Tm G forb φ w s.t a) (hR : Rel forb φ D base s.h w) (hD0 : ∀ b, n0 ≤ b → D b) (hDf : ∀ b, (b ∈ s'.r ∨ b ∈ s'.w) → D b) (hn : n0 ≤ s.h.length) (hfree : ∀ b v, s.h.length ≤ b → b < s'.h.length → φ b v = none) (Q : Exit → Act → World → Prop)
    (hQ : ∀ forb' φ' a' w', Out G forb φ D base n0 w s s' a forb' φ' a' w' → Q .normal a' w') : wpAny P .any all Q all.size (Array.replicate all.size false) a w := by
  obtain ⟨S, X, hS0, hSn, hlen, hst⟩ := drawV_trace hd
  obtain ⟨g1, _, g3⟩ := masksOf_ok hks
  obtain ⟨h1, h2⟩ := slotsOk_ok hsl
  have hml := mapM?_length hms
  have hr : Reg P G C n0 all ms ks S X := by
    refine ⟨fun i o ho => ?_, by simpa using hml, by simpa using g1, fun i o ho => ?_, fun j q n m k hj hk hq hm hh => h2 j q n m k hj hk (by simp; exact hq) (by simpa using hm) hh, fun i m k hm hk => ?_, by rw [hS0]; exact hn, fun i hi => ?_⟩
    · have hi := (Array.getElem?_eq_some_iff.1 ho).1
      have him : i < ms.length := by rw [hml]; simpa using hi
      obtain ⟨x, p1, p2⟩ := mapM?_get hms i ms[i] (by simp [him])
      rw [Array.getElem?_toList, ho] at p1; cases p1
      exact ⟨ms[i], by simp [him], p2⟩
    · obtain ⟨m, p1, p2, p3⟩ := g3 i o (by rw [Array.getElem?_toList]; exact ho)
      simp at p1
      exact ⟨m, p1, fun e he hb => by have := p2 e he hb; simpa using this, p3⟩
    · obtain ⟨p1, p2⟩ := hst i m k hm hk
      refine ⟨p1, fun y hy q z hq hz hc => ?_⟩
      have := (p2 y hy).2 q z hq hz hc
      simpa using this
    · induction i with
      | zero => rw [hS0]; exact ⟨hB, hH⟩
      | succ i ih =>
        obtain ⟨q1, q2⟩ := ih (by omega)
        have hm : ms[i]? = some ms[i] := by simp [show i < ms.length by omega]
        have hk : ks[i]? = some (ks[i]'(by omega)) := by simp [show i < ks.length by omega]
        obtain ⟨x, p1, p2⟩ := mapM?_get hms i _ hm
        rcases (hst i _ _ hm hk).1 with ⟨_, y, _, e1, e2⟩ | ⟨_, _, e2⟩
        · rw [e2]
          have hok : ms[i].op.okC := compX_okC (wanted_ok ht p2).2.2
          exact regPut_vb hV hL ht.gb hok q1 q2 e1
        · rw [e2]; exact ⟨putV_vb q1 .undef, q2⟩
  have hmonoAll := fun k (hk : k ≤ ms.length) => hr.mono hL (i := 0) (k := k) (by omega) hk
  have hmid : Mid G D base n0 ms S X forb φ w a (On (Array.replicate all.size false)) forb φ w a := by
    have hoff : ∀ j, ¬ On (Array.replicate all.size false) j := by
      intro j
      show ¬ (Array.replicate all.size false).getD j false = true
      by_cases e : j < (Array.replicate all.size false).size
      · rw [gd_lt e]; simp
      · rw [gd_ge e]; simp
    have slot0 : ∀ d k, k ≤ ms.length → (∀ j, j < ms.length → Ws ms j d → (On (Array.replicate all.size false) j ↔ j < k)) → (S k).t[d]? = s.t[d]? := by
      intro d k hk hcond
      rw [← hS0]
      exact hr.slot_same hL (by omega) hk fun j _ hjk hW => hoff j ((hcond j (by omega) hW).2 hjk)
    have blk0 : ∀ b k, k ≤ ms.length → (∀ j, j < ms.length → Wr S X j b → (On (Array.replicate all.size false) j ↔ j < k)) → (S k).h[b]? = s.h[b]? := by
      intro b k hk hcond
      rw [← hS0]
      exact hr.blk_same hL (by omega) hk fun j _ hjk hW => hoff j ((hcond j (by omega) hW).2 hjk)
    refine ⟨fun d k hk hcond v hv => ht.val d v (by rw [← slot0 d k hk hcond]; exact hv), by rw [hS0]; exact ht.len, ht.glob, fun b k x v l hb hk hcond hx => hR.row b x v l hb (by rw [← blk0 b k hk hcond]; exact hx), fun b k x v l hb hk hcond hx => hR.new b x v l hb (by rw [← blk0 b k hk hcond]; exact hx), fun b k es l hb hk hcond hx => hR.mp b es l hb (by rw [← blk0 b k hk hcond]; exact hx), hR.low, hR.apart, hR.top, fun j hj _ b v hb1 hb2 => ?_, Ext.refl _ _, fun _ _ _ h => h, fun _ _ _ => rfl, fun _ _ _ _ _ _ => rfl, fun _ _ _ _ => rfl, rfl⟩
    refine hfree b v ?_ ?_
    · have := (hmonoAll j (by omega)).1; rw [hS0] at this; omega
    · have := (hr.mono hL (i := j + 1) (k := ms.length) (by omega) (Nat.le_refl _)).1; rw [hSn] at this; omega
  refine wpAny_mid hC hL hr hD0 (by rw [hSn]; exact hDf) Q (fun forb' φ' w' a' L hLall hM => ?_) all.size _ forb φ w a (by simp) (by simp) (fun j o hj _ _ _ _ => ?_) hmid
  · have hcond : ∀ W : Nat → Prop, ∀ j, j < ms.length → W j → (L j ↔ j < ms.length) := fun W j hj _ => ⟨fun _ => hj, fun _ => hLall j hj⟩
    have hlenT := (hmonoAll ms.length (Nat.le_refl _)).2.2.2
    refine hQ forb' φ' a' w' ⟨⟨?_, fun d v hv => ?_, hM.glob⟩, ⟨fun b x v l hb hx => ?_, hM.low, hM.apart, hM.top, fun b x v l hb hx => ?_, fun b es l hb hx => ?_⟩, hM.ext, hM.mono, fun b v hb => hM.far b v (by rw [hSn]; exact hb), fun b v l hb hl hn' => hM.loc b v l (by rw [hSn]; exact hb) hl (by rw [hSn]; exact hn'), fun b v hb hn' => hM.old b v hb (by rw [hSn]; exact hn'), hM.defers⟩
    · rw [hM.size, ← hSn, hlenT]
    · exact hM.slot d ms.length (Nat.le_refl _) (hcond _) v (by rw [hSn]; exact hv)
    · exact hM.row b ms.length x v l hb (Nat.le_refl _) (hcond _) (by rw [hSn]; exact hx)
    · exact hM.new b ms.length x v l hb (Nat.le_refl _) (hcond _) (by rw [hSn]; exact hx)
    · exact hM.mp b ms.length es l hb (Nat.le_refl _) (hcond _) (by rw [hSn]; exact hx)
  · have hj' : (Array.replicate all.size false).getD j false = true := hj
    by_cases e : j < (Array.replicate all.size false).size
    · rw [gd_lt e] at hj'; simp at hj'
    · rw [gd_ge e] at hj'; simp at hj'
end Go.Mini

namespace Go.Mini
set_option linter.unusedVariables false
set_option linter.unusedSimpArgs false
variable {P : Program} {G : Nat → Option V} {D : Nat → Prop} {base : Nat} {C : FuncId → List V → H → Option Res} {n0 : Nat}

/-- What a piece of code leaves of the machine. -/
structure Fr (n0 : Nat) (s s' : St) : Prop where
  len : s.h.length ≤ s'.h.length
  r : ∀ b ∈ s.r, b ∈ s'.r
  w : ∀ b ∈ s.w, b ∈ s'.w
  low : ∀ b ∈ s'.w, b ∈ s.w ∨ b < n0
  same : ∀ b, b < n0 → b ∉ s'.w → s'.h[b]? = s.h[b]?
  vb : (∀ v ∈ s.t, VB s.h.length v) → HB s.h.length s.h → (∀ v ∈ s'.t, VB s'.h.length v) ∧ HB s'.h.length s'.h

theorem Fr.refl (s : St) : Fr n0 s s := ⟨Nat.le_refl _, fun _ h => h, fun _ h => h, fun _ h => .inl h, fun _ _ _ => rfl, fun h1 h2 => ⟨h1, h2⟩⟩
theorem Fr.trans {s s1 s2 : St} (h : Fr n0 s s1) (k : Fr n0 s1 s2) : Fr n0 s s2 := by
  refine ⟨Nat.le_trans h.len k.len, fun b hb => k.r b (h.r b hb), fun b hb => k.w b (h.w b hb), fun b hb => ?_, fun b hb hn => ?_, fun h1 h2 => ?_⟩
  · rcases k.low b hb with h1 | h1
    · exact h.low b h1
    · exact .inr h1
  · rw [k.same b hb hn, h.same b hb fun h1 => hn (k.w b h1)]
  · obtain ⟨h3, h4⟩ := h.vb h1 h2; exact k.vb h3 h4

theorem fr_put (hL : LenOk C) (hV : VbOk C) (hG : GB G) {s : St} {m : MOp} (hm : m.okC) {x : Res} (hx : opV G C s.t m s.h = some x) (hn : n0 ≤ s.h.length) (d : Option Nat) : Fr n0 s (regPut n0 s d x) := by
  obtain ⟨h1, h2, h3⟩ := opV_len hL hx
  refine ⟨h1, fun b hb => uni_mem.2 (.inr hb), fun b hb => uni_mem.2 (.inr hb), fun b hb => ?_, fun b hb hnw => ?_, fun h4 h5 => regPut_vb hV hL hG hm h4 h5 hx⟩
  · rcases uni_mem.1 hb with ⟨_, h4⟩ | h4
    · exact .inr h4
    · exact .inl h4
  · exact h3 b (by omega) fun h4 => hnw (uni_mem.2 (.inl ⟨h4, hb⟩))
theorem fr_skip {s : St} (d : Option Nat) : Fr n0 s ⟨putV s.t d .undef, s.h, s.r, s.w⟩ :=
  ⟨Nat.le_refl _, fun _ h => h, fun _ h => h, fun _ h => .inl h, fun _ _ _ => rfl, fun h1 h2 => ⟨putV_vb h1 .undef, h2⟩⟩

theorem regV_fr (hL : LenOk C) (hV : VbOk C) (hG : GB G) : ∀ {ms : List MOper} {s s' : St}, (∀ m ∈ ms, m.op.okC) → regV G C n0 ms s = some s' → n0 ≤ s.h.length → Fr n0 s s'
  | [], s, s', _, h, _ => by cases h; exact .refl _
  | m :: ms, s, s', hm, h, hn => by
    simp only [regV, cond_eq_ite] at h
    split at h
    · unfold regStep at h
      split at h
      · rename_i x hx
        have h1 := fr_put hL hV hG (hm m (by simp)) hx hn m.dst
        exact h1.trans (regV_fr hL hV hG (fun m' h' => hm m' (by simp [h'])) h (Nat.le_trans hn h1.len))
      · cases h
    · exact (fr_skip m.dst).trans (regV_fr hL hV hG (fun m' h' => hm m' (by simp [h'])) h hn)
theorem drawV_fr (hL : LenOk C) (hV : VbOk C) (hG : GB G) : ∀ {ms : List MOper} {j : Nat} {masks : List Nat} {fs : List (Nat × List Nat × List Nat)} {s s' : St}, (∀ m ∈ ms, m.op.okC) → drawV G C n0 ms j masks fs s = some s' → n0 ≤ s.h.length → Fr n0 s s'
  | [], j, masks, fs, s, s', _, h, _ => by simp only [drawV] at h; cases h; exact .refl _
  | m :: ms, j, [], fs, s, s', _, h, _ => by simp [drawV] at h
  | m :: ms, j, k :: masks, fs, s, s', hm, h, hn => by
    simp only [drawV, cond_eq_ite] at h
    split at h
    · unfold drawStep at h
      split at h
      · rename_i x hx
        simp only [cond_eq_ite] at h
        split at h
        · have h1 := fr_put hL hV hG (hm m (by simp)) hx hn m.dst
          exact h1.trans (drawV_fr hL hV hG (fun m' h' => hm m' (by simp [h'])) h (Nat.le_trans hn h1.len))
        · cases h
      · cases h
    · exact (fr_skip m.dst).trans (drawV_fr hL hV hG (fun m' h' => hm m' (by simp [h'])) h hn)

theorem compOper_okC {ops : List Oper} {o : Oper} {m : MOper} (h : compOper P ops o = some m) : m.op.okC := by
  unfold compOper at h
  split at h
  · cases h; exact compX_okC rfl
  · split at h
    · cases h; exact compX_okC rfl
    · cases h
theorem opers_okC {ops ops' : List Oper} {ms : List MOper} (h : mapM? (compOper P ops) ops' = some ms) : ∀ m ∈ ms, m.op.okC := by
  intro m hm
  obtain ⟨i, hi⟩ := List.getElem?_of_mem hm
  obtain ⟨x, _, h2⟩ := mapM?_get h i m hi
  exact compOper_okC h2

/-- the small machine's code comes of the program's -/
def Comes (P : Program) (c : MCode) : Prop := ∃ k, comp P k = some c

theorem exec_fr (hL : LenOk C) (hV : VbOk C) (hG : GB G) : ∀ {n : Nat} {c : Code} {mc : MCode} {s s' : St} {e : Ex}, comp P c = some mc → exec G C n0 n mc s = some (e, s') → n0 ≤ s.h.length → Fr n0 s s'
  | 0, c, mc, s, s', e, _, h, _ => by simp [exec] at h
  | n + 1, c, mc, s, s', e, hc, h, hn => by
    simp only [exec] at h
    cases c <;> simp only [comp] at hc <;> try (cases hc; done)
    case skip => cases hc; cases h; exact .refl _
    case ret => cases hc; cases h; exact .refl _
    case exit id => cases hc; cases h; exact .refl _
    case seq x y =>
      split at hc
      · rename_i a b ha hb; cases hc
        simp only [exStep] at h
        unfold exSeq at h
        split at h
        · rename_i s1 h1
          have k1 := exec_fr hL hV hG ha h1 hn
          exact k1.trans (exec_fr hL hV hG hb h (Nat.le_trans hn k1.len))
        · exact exec_fr hL hV hG ha h hn
      · cases hc
    case cond d x y =>
      split at hc
      · rename_i d' a b hd ha hb; cases hc
        simp only [exStep] at h
        unfold exCond at h
        split at h
        · exact exec_fr hL hV hG ha h hn
        · exact exec_fr hL hV hG hb h hn
        · cases h
      · cases hc
    case block id x =>
      obtain ⟨a, ha, rfl⟩ := map_inv hc
      simp only [exStep] at h
      unfold exBlock at h
      split at h
      · rename_i h1
        split at h <;> cases h <;> exact exec_fr hL hV hG ha h1 hn
      · exact exec_fr hL hV hG ha h hn
    case loop x =>
      obtain ⟨a, ha, rfl⟩ := map_inv hc
      simp only [exStep] at h
      unfold exSeq at h
      split at h
      · rename_i s1 h1
        have k1 := exec_fr hL hV hG ha h1 hn
        exact k1.trans (exec_fr (c := .loop x) hL hV hG hc h (Nat.le_trans hn k1.len))
      · exact exec_fr hL hV hG ha h hn
    case region id ops draw =>
      split at hc
      · rename_i ms hms
        split at hc
        · split at hc
          · split at hc
            · cases hc
              simp only [exStep] at h
              unfold exReg at h
              split at h
              · rename_i h1; cases h; exact drawV_fr hL hV hG (opers_okC hms) h1 hn
              · cases h
            · cases hc
          · cases hc
        · cases hc
          simp only [exStep] at h
          unfold exReg at h
          split at h
          · rename_i h1; cases h; exact regV_fr hL hV hG (opers_okC hms) h1 hn
          · cases h
      · cases hc

theorem mapM?_range {α β : Type} {f : α → Option β} {g : Nat → Option β} : ∀ {l : List α} {k : Nat}, (∀ (i : Nat) x, l[i]? = some x → g (k + i) = f x) → mapM? g (List.range' k l.length) = mapM? f l
  | [], k, _ => rfl
  | x :: l, k, h => by
    have h0 := h 0 x rfl
    simp only [List.length_cons, List.range'_succ, mapM?]
    rw [mapM?_range (l := l) (k := k + 1) (f := f) fun i y hy => by have := h (i + 1) y (by simpa using hy); rw [show k + 1 + i = k + (i + 1) by omega]; exact this]
    simp only [Nat.add_zero] at h0
    rw [h0]

def Ex.to : Ex → Exit
  | .normal => .normal
  | .exit id => .exit id
  | .ret => .ret

/-- What is asked where a piece of code begins. -/
structure At (G : Nat → Option V) (D : Nat → Prop) (base n0 : Nat) (s s' : St) (forb : Nat → Prop) (φ : Phi) (w : World) (a : Act) : Prop where
  vb : ∀ v ∈ s.t, VB s.h.length v
  hb : HB s.h.length s.h
  tm : Tm G forb φ w s.t a
  rel : Rel forb φ D base s.h w
  free : ∀ b v, s.h.length ≤ b → b < s'.h.length → φ b v = none

theorem At.cut {s s1 s' : St} {forb φ w a} (h : At G D base n0 s s' forb φ w a) (hl : s1.h.length ≤ s'.h.length) : At G D base n0 s s1 forb φ w a :=
  ⟨h.vb, h.hb, h.tm, h.rel, fun b v h1 h2 => h.free b v h1 (by omega)⟩
theorem At.next {s s1 s' : St} {forb φ w a forb' φ' w' a'} (h : At G D base n0 s s' forb φ w a) (hf : Fr n0 s s1) (hO : Out G forb φ D base n0 w s s1 a forb' φ' a' w') : At G D base n0 s1 s' forb' φ' w' a' := by
  obtain ⟨h1, h2⟩ := hf.vb h.vb h.hb
  exact ⟨h1, h2, hO.tm, hO.rel, fun b v h3 h4 => by rw [hO.far b v h3]; exact h.free b v (Nat.le_trans hf.len h3) h4⟩

/-- Where the small machine goes, the model goes. -/
theorem exec_ok (hC : CallOk P G C) (hL : LenOk C) (hV : VbOk C) (hG : GB G) (hmix : P.follows .mixedOrders = true) (hD0 : ∀ b, n0 ≤ b → D b) : ∀ (n : Nat),
    (∀ {c : Code} {mc : MCode} {s s' : St} {e : Ex} {forb φ w a}, comp P c = some mc → exec G C n0 n mc s = some (e, s') → n0 ≤ s.h.length → At G D base n0 s s' forb φ w a → (∀ b, (b ∈ s'.r ∨ b ∈ s'.w) → D b) → ∀ Q : Exit → Act → World → Prop, (∀ forb' φ' a' w', Out G forb φ D base n0 w s s' a forb' φ' a' w' → Q e.to a' w') → c.wp P Q a w) ∧
    (∀ {c : Code} {mc : MCode} {s s' : St} {e : Ex} {forb φ w a}, comp P c = some mc → exec G C n0 n (.loop mc) s = some (e, s') → n0 ≤ s.h.length → At G D base n0 s s' forb φ w a → (∀ b, (b ∈ s'.r ∨ b ∈ s'.w) → D b) → ∀ Q : Exit → Act → World → Prop, (∀ forb' φ' a' w', Out G forb φ D base n0 w s s' a forb' φ' a' w' → Q e.to a' w') → Code.rounds P c Q n a w)
  | 0 => ⟨fun _ h => by simp [exec] at h, fun _ h => by simp [exec] at h⟩
  | n + 1 => by
    have hloop : ∀ {c : Code} {mc : MCode} {s s' : St} {e : Ex} {forb φ w a}, comp P c = some mc → exec G C n0 (n + 1) (.loop mc) s = some (e, s') → n0 ≤ s.h.length → At G D base n0 s s' forb φ w a → (∀ b, (b ∈ s'.r ∨ b ∈ s'.w) → D b) → ∀ Q : Exit → Act → World → Prop, (∀ forb' φ' a' w', Out G forb φ D base n0 w s s' a forb' φ' a' w' → Q e.to a' w') → Code.rounds P c Q (n + 1) a w := by
      intro c mc s s' e forb φ w a hc h hn hA hDf Q hQ
      simp only [exec, exStep] at h
      rw [rounds_succ]
      unfold exSeq at h
      split at h
      · rename_i s1 h1
        have f1 := exec_fr hL hV hG hc h1 hn
        have f2 : Fr n0 s1 s' := exec_fr (P := P) (c := .loop c) hL hV hG (by simp [comp, hc]) h (Nat.le_trans hn f1.len)
        refine (exec_ok hC hL hV hG hmix hD0 n).1 hc h1 hn (hA.cut f2.len) (fun b hb => hDf b (hb.imp (f2.r b) (f2.w b))) _ fun forb' φ' a' w' hO => ?_
        exact (exec_ok hC hL hV hG hmix hD0 n).2 hc h (Nat.le_trans hn f1.len) (hA.next f1 hO) hDf Q fun f2' φ2 a2 w2 hO2 => hQ _ _ _ _ (hO.trans hO2 f2.w f2.len)
      · rename_i hne
        refine (exec_ok hC hL hV hG hmix hD0 n).1 hc h hn hA hDf _ fun forb' φ' a' w' hO => ?_
        have hq := hQ forb' φ' a' w' hO
        cases e with
        | normal => exact (hne s' h).elim
        | exit id => exact hq
        | ret => exact hq
    refine ⟨?_, hloop⟩
    intro c mc s s' e forb φ w a hc h hn hA hDf Q hQ
    have h' := h
    simp only [exec] at h
    cases c <;> simp only [comp] at hc <;> try (cases hc; done)
    case skip => cases hc; cases h; exact wp_skip (hQ _ _ _ _ (Out.refl hA.tm hA.rel))
    case ret => cases hc; cases h; exact wp_ret (hQ _ _ _ _ (Out.refl hA.tm hA.rel))
    case exit id => cases hc; cases h; exact wp_exit (hQ _ _ _ _ (Out.refl hA.tm hA.rel))
    case seq x y =>
      split at hc
      · rename_i ma mb ha hb; cases hc
        simp only [exStep] at h
        unfold exSeq at h
        refine wp_seq ?_
        split at h
        · rename_i s1 h1
          have f1 := exec_fr hL hV hG ha h1 hn
          have f2 := exec_fr hL hV hG hb h (Nat.le_trans hn f1.len)
          refine (exec_ok hC hL hV hG hmix hD0 n).1 ha h1 hn (hA.cut f2.len) (fun b hb => hDf b (hb.imp (f2.r b) (f2.w b))) _ fun forb' φ' a' w' hO => ?_
          exact (exec_ok hC hL hV hG hmix hD0 n).1 hb h (Nat.le_trans hn f1.len) (hA.next f1 hO) hDf Q fun f2' φ2 a2 w2 hO2 => hQ _ _ _ _ (hO.trans hO2 f2.w f2.len)
        · rename_i hne
          refine (exec_ok hC hL hV hG hmix hD0 n).1 ha h hn hA hDf _ fun forb' φ' a' w' hO => ?_
          have hq := hQ forb' φ' a' w' hO
          cases e with
          | normal => exact (hne s' h).elim
          | exit id => exact hq
          | ret => exact hq
      · cases hc
    case cond d x y =>
      split at hc
      · rename_i d' ma mb hd ha hb; cases hc
        simp only [exStep] at h
        unfold exCond at h
        split at h
        · rename_i hv
          have hb := ev_ok hA.tm hd hv
          have hb' : a.eval d = .bool true := by cases hq : a.eval d <;> rw [hq] at hb <;> cases hb; rfl
          exact wp_cond_true hb' ((exec_ok hC hL hV hG hmix hD0 n).1 ha h hn hA hDf Q hQ)
        · rename_i hv
          have hb1 := ev_ok hA.tm hd hv
          have hb' : a.eval d = .bool false := by cases hq : a.eval d <;> rw [hq] at hb1 <;> cases hb1; rfl
          exact wp_cond_false hb' ((exec_ok hC hL hV hG hmix hD0 n).1 hb h hn hA hDf Q hQ)
        · cases h
      · cases hc
    case block id x =>
      obtain ⟨ma, ha, rfl⟩ := map_inv hc
      simp only [exStep] at h
      refine wp_block ?_
      unfold exBlock at h
      split at h
      · rename_i id' s1 h1
        split at h
        · rename_i he; cases h
          refine (exec_ok hC hL hV hG hmix hD0 n).1 ha h1 hn hA hDf _ fun forb' φ' a' w' hO => ?_
          simp only [Ex.to, Exit.inBlock, he, if_true]
          exact hQ _ _ _ _ hO
        · rename_i he; cases h
          refine (exec_ok hC hL hV hG hmix hD0 n).1 ha h1 hn hA hDf _ fun forb' φ' a' w' hO => ?_
          simp only [Ex.to, Exit.inBlock, he, if_false]
          exact hQ _ _ _ _ hO
      · rename_i hne
        refine (exec_ok hC hL hV hG hmix hD0 n).1 ha h hn hA hDf _ fun forb' φ' a' w' hO => ?_
        have hq := hQ forb' φ' a' w' hO
        cases e with
        | normal => exact hq
        | exit id' => exact (hne id' s' h).elim
        | ret => exact hq
    case loop x =>
      obtain ⟨ma, ha, rfl⟩ := map_inv hc
      exact wp_loop_rounds (n + 1) (hloop ha h' hn hA hDf Q hQ)
    case region id ops draw =>
      split at hc
      · rename_i ms hms
        split at hc
        · rename_i hdraw
          split at hc
          · rename_i ks hks
            split at hc
            · rename_i hsl; cases hc
              simp only [exStep] at h
              unfold exReg at h
              split at h
              · rename_i s1 h1; cases h
                subst hdraw
                have hE := Ext.drew forb w (w.drawn + 1)
                refine wp_region_any hmix (drawV_ok hC hL hV hms hks hsl h1 hA.vb hA.hb (hA.tm.ext hE fun _ _ _ h => h) (hA.rel.drew _) hD0 hDf hn hA.free Q fun forb' φ' a' w' hO => hQ forb' φ' a' w' ?_)
                exact ⟨hO.tm, hO.rel, hE.trans hO.ext, hO.mono, hO.far, hO.loc, hO.old, hO.defers⟩
              · cases h
            · cases hc
          · cases hc
        · rename_i hdraw; cases hc
          simp only [exStep] at h
          unfold exReg at h
          split at h
          · rename_i s1 h1; cases h
            have : draw = false := by simpa using hdraw
            subst this
            refine wp_region (regV_ok hC hL hV ops Q (List.range ops.size) ms s s' forb φ w a ?_ h1 hA.vb hA.hb hA.tm hA.rel hD0 hDf hn hA.free hQ)
            rw [← hms, List.range_eq_range']
            refine mapM?_range (l := ops.toList) fun i x hx => ?_
            simp only [Array.getElem?_toList] at hx
            simp [hx]
          · cases h
      · cases hc
end Go.Mini

namespace Go.Mini
set_option linter.unusedVariables false
set_option linter.unusedSimpArgs false
variable {P : Program} {G : Nat → Option V} {forb forb2 : Nat → Prop} {φ ψ : Phi} {w : World} {D : Nat → Prop} {base n0 : Nat} {h : H}

theorem mapM?_get' {α β : Type} {f : α → Option β} {l : List α} {r : List β} (h : mapM? f l = some r) {i : Nat} {x : α} (hx : l[i]? = some x) : ∃ y, r[i]? = some y ∧ f x = some y := by
  have hl := mapM?_length h
  have hi := (List.getElem?_eq_some_iff.1 hx).1
  have hr : r[i]? = some (r[i]'(by omega)) := by simp [show i < r.length by omega]
  obtain ⟨x', h1, h2⟩ := mapM?_get h i _ hr
  rw [hx] at h1; cases h1
  exact ⟨_, hr, h2⟩
theorem mapM?_mem {α β : Type} {f : α → Option β} {l : List α} {r : List β} (h : mapM? f l = some r) {y : β} (hy : y ∈ r) : ∃ x ∈ l, f x = some y := by
  obtain ⟨i, hi⟩ := List.getElem?_of_mem hy
  obtain ⟨x, h1, h2⟩ := mapM?_get h i y hi
  exact ⟨x, List.mem_of_getElem? h1, h2⟩

theorem fz_cell : ∀ {k : Nat} {inn : Bool} {v u : V}, fz n0 h k inn v = some u → u.isCell = v.isCell
  | 0, inn, v, u, hf => by simp [fz] at hf
  | k + 1, inn, v, u, hf => by
    cases v <;> simp only [fz] at hf
    all_goals
      repeat' split at hf
      all_goals first
        | (cases hf; done)
        | (cases hf; rfl)

theorem fz_vb : ∀ {k : Nat} {inn : Bool} {v u : V} {N : Nat}, VB N v → HB N h → fz n0 h k inn v = some u → (inn = true → VB 0 u) ∧ VB n0 u
  | 0, inn, v, u, N, _, _, hf => by simp [fz] at hf
  | k + 1, inn, v, u, N, hv, hh, hf => by
    have many : ∀ {l r : List V}, (∀ x ∈ l, VB N x) → mapM? (fz n0 h k inn) l = some r → (inn = true → ∀ x ∈ r, VB 0 x) ∧ ∀ x ∈ r, VB n0 x := by
      intro l r hl hr
      refine ⟨fun hi x hx => ?_, fun x hx => ?_⟩
      · obtain ⟨y, h1, h2⟩ := mapM?_mem hr hx
        exact (fz_vb (hl y h1) hh h2).1 hi
      · obtain ⟨y, h1, h2⟩ := mapM?_mem hr hx
        exact (fz_vb (hl y h1) hh h2).2
    cases v <;> simp only [fz] at hf
    case os b vv sz i n clip =>
      split at hf
      · split at hf
        · cases hf
        · rename_i hi; cases hf; exact ⟨fun h1 => (hi h1).elim, .os ‹_›⟩
      · split at hf
        · rename_i x hx
          split at hf
          · split at hf
            · rename_i els hm; cases hf
              have h0 : ∀ el ∈ els, ∀ y ∈ el, VB 0 y := by
                intro el hel y hy
                obtain ⟨el', h1, h2⟩ := mapM?_mem hm hel
                obtain ⟨y', h3, h4⟩ := mapM?_mem h2 hy
                exact (fz_vb (rowAt_vb hh hx el' (List.mem_of_mem_drop (List.mem_of_mem_take h1)) y' h3) hh h4).1 rfl
              exact ⟨fun _ => .rs h0, .rs h0⟩
            · cases hf
          · cases hf
        · cases hf
    case ptr b vv i o =>
      split at hf
      · split at hf
        · cases hf
        · rename_i hi; cases hf; exact ⟨fun h1 => (hi h1).elim, .ptr ‹_›⟩
      · split at hf
        · rename_i x hx
          split at hf
          · rename_i el hel
            split at hf
            · rename_i cs hm; cases hf
              have h0 : ∀ y ∈ cs, VB 0 y := by
                intro y hy
                obtain ⟨y', h3, h4⟩ := mapM?_mem hm hy
                exact (fz_vb (rowAt_vb hh hx el (List.mem_of_getElem? hel) y' (List.mem_of_mem_drop h3)) hh h4).1 rfl
              exact ⟨fun _ => .rp h0, .rp h0⟩
            · cases hf
          · cases hf
        · cases hf
    case mp b =>
      split at hf
      · rename_i hb; cases hf
        exact ⟨fun h1 => by rw [h1] at hb; simp at hb, .mp hb.1⟩
      · cases hf
    case fn f cap =>
      split at hf
      · rename_i cs hm; cases hf
        cases hv; rename_i hv
        obtain ⟨h1, h2⟩ := many hv hm
        exact ⟨fun hi => .fn (h1 hi), .fn h2⟩
      · cases hf
    case agg cs =>
      split at hf
      · rename_i cs hm; cases hf
        cases hv; rename_i hv
        obtain ⟨h1, h2⟩ := many hv hm
        exact ⟨fun hi => .agg (h1 hi), .agg h2⟩
      · cases hf
    case tup cs =>
      split at hf
      · rename_i cs hm; cases hf
        cases hv; rename_i hv
        obtain ⟨h1, h2⟩ := many hv hm
        exact ⟨fun hi => .tup (h1 hi), .tup h2⟩
      · cases hf
    case rp cs => cases hf; cases hv; rename_i hv; exact ⟨fun _ => .rp hv, .rp hv⟩
    case rs sz els => cases hf; cases hv; rename_i hv; exact ⟨fun _ => .rs hv, .rs hv⟩
    all_goals (cases hf; exact ⟨fun _ => by constructor, by constructor⟩)

def laid (inn : Bool) (ψ : Phi) : Phi := bif inn then noPhi else ψ

/-- A frozen value is the same value. -/
theorem fz_ok (hR : Rel forb φ D base h w) (hD : ∀ b, n0 ≤ b → D b) (h2 : ∀ cb, forb2 cb → forb cb) (hf2 : ∀ b v l, n0 ≤ b → b < h.length → φ b v = some l → ¬ forb2 l.cb) (hψ : ∀ b v l, b < n0 → φ b v = some l → ψ b v = some l) :
    ∀ {k : Nat} {inn : Bool} {v u : V} {c : Value}, fz n0 h k inn v = some u → VR forb w φ v c → VR forb2 w (laid inn ψ) u c
  | 0, inn, v, u, c, hf, _ => by simp [fz] at hf
  | k + 1, inn, v, u, c, hf, hv => by
    cases v <;> simp only [fz] at hf
    case os b vv sz i n clip =>
      split at hf
      · rename_i hb
        split at hf
        · cases hf
        · rename_i hi; cases hf
          have : inn = false := by simpa using hi
          subst this
          have hv' : VR forb2 w φ (.os b vv sz i n clip) c := hv.less h2 fun _ _ _ h => h
          obtain ⟨l, a, cap, rfl, hφ, q1, q2, q3, q4, q5, q6, q7⟩ := hv'.os_inv
          exact .os (hψ _ _ _ hb hφ) q1 q2 q3 q4 q5 q6 q7
      · rename_i hb
        split at hf
        · rename_i x hx
          split at hf
          · rename_i hc
            split at hf
            · rename_i els hm; cases hf
              have hel : elems h (.os b vv sz i n clip) = some (sz, (x.els.drop i).take n, [b]) := by simp [elems, hx, hc]
              obtain ⟨l, a, cap, rfl, hφ, q1, q2, q3, q4, q5, q6, q7⟩ := hv.os_inv
              obtain ⟨A, cap', e1, e2, e3, e4, e5⟩ := elems_ok hR hel hv (by simpa using hD b (by omega))
              simp only [Value.slice.injEq, Option.some.injEq] at e1
              obtain ⟨rfl, _, rfl⟩ := e1
              have hlen : ((x.els.drop i).take n).length = n := by simp; omega
              have hlen2 := mapM?_length hm
              rw [← hlen, ← hlen2]
              have key : ∀ (j : Nat) el (o : Nat) y, els[j]? = some el → el[o]? = some y → ∃ y0 u, fz n0 h k true y0 = some y ∧ y0.isCell = true ∧ ¬ forb2 a.block ∧ w.cell? (a.add (j * sz + o)) = some u ∧ VR forb w φ y0 u := by
                intro j el o y hj ho
                obtain ⟨el0, g1, g2⟩ := mapM?_get hm j el hj
                obtain ⟨y0, g3, g4⟩ := mapM?_get g2 o y ho
                obtain ⟨g5, u, g6, g7⟩ := e5 j el0 o y0 g1 g3
                have hn : 0 < n := by rw [← hlen]; have := (List.getElem?_eq_some_iff.1 g1).1; omega
                obtain ⟨ha, _⟩ := q7 (by omega)
                refine ⟨y0, u, g4, g5, ?_, g6, g7⟩
                rw [ha]
                exact hf2 b vv l (by omega) (rowAt_lt hx) hφ
              refine .rs (fun el hel => ?_) (by omega) e3 (fun j el o y hj ho => ?_) (fun j el o y c hj ho hcell => ?_)
              · obtain ⟨el0, g1, g2⟩ := mapM?_mem hm hel
                rw [mapM?_length g2]; exact e4 el0 g1
              · obtain ⟨y0, u, g1, g2, g3, g4, g5⟩ := key j el o y hj ho
                exact ⟨g3, by rw [fz_cell g1]; exact g2, u, g4⟩
              · obtain ⟨y0, u, g1, g2, g3, g4, g5⟩ := key j el o y hj ho
                rw [g4] at hcell; cases hcell
                exact fz_ok hR hD h2 hf2 hψ g1 g5
            · cases hf
          · cases hf
        · cases hf
    case ptr b vv i o =>
      split at hf
      · rename_i hb
        split at hf
        · cases hf
        · rename_i hi; cases hf
          have : inn = false := by simpa using hi
          subst this
          obtain ⟨l, rfl, hφ, q1, q2⟩ := hv.ptr_inv
          exact .ptr (hψ _ _ _ hb hφ) q1 q2
      · rename_i hb
        split at hf
        · rename_i x hx
          split at hf
          · rename_i el hel
            split at hf
            · rename_i cs hm; cases hf
              have hd : deref h (.ptr b vv i o) = some (el.drop o, [b]) := by simp [deref, hx, hel]
              obtain ⟨l, rfl, hφ, q1, q2⟩ := hv.ptr_inv
              obtain ⟨A, e1, e2⟩ := deref_ok hR hd hv (by simpa using hD b (by omega))
              cases e1
              refine .rp (fun o' y ho => ?_) (fun o' y c ho hcell => ?_)
              · obtain ⟨y0, g3, g4⟩ := mapM?_get hm o' y ho
                obtain ⟨g5, u, g6, g7⟩ := e2 o' y0 g3
                exact ⟨hf2 b vv l (by omega) (rowAt_lt hx) hφ, by rw [fz_cell g4]; exact g5, u, g6⟩
              · obtain ⟨y0, g3, g4⟩ := mapM?_get hm o' y ho
                obtain ⟨g5, u, g6, g7⟩ := e2 o' y0 g3
                rw [g6] at hcell; cases hcell
                exact fz_ok hR hD h2 hf2 hψ g4 g7
            · cases hf
          · cases hf
        · cases hf
    case mp b =>
      split at hf
      · rename_i hb; cases hf
        have : inn = false := by simpa using hb.2
        subst this
        obtain ⟨l, rfl, hφ⟩ := hv.mp_inv
        exact .mp (l := l) (hψ _ _ _ hb.1 hφ)
      · cases hf
    case fn f cap =>
      split at hf
      · rename_i cs hm; cases hf
        obtain ⟨caps, rfl, hl, hc⟩ := hv.fn_inv
        refine .fn (by rw [hl, mapM?_length hm]) fun i y c hy hcc => ?_
        obtain ⟨y0, g1, g2⟩ := mapM?_get hm i y hy
        exact fz_ok hR hD h2 hf2 hψ g2 (hc i y0 c g1 hcc)
      · cases hf
    case agg cs =>
      split at hf
      · rename_i cs' hm; cases hf
        obtain ⟨vs, rfl, hl, hcell, hc⟩ := hv.agg_inv
        refine .agg (by rw [hl, mapM?_length hm]) (fun y hy => ?_) fun i y c hy hcc => ?_
        · obtain ⟨y0, g1, g2⟩ := mapM?_mem hm hy
          rw [fz_cell g2]; exact hcell y0 g1
        · obtain ⟨y0, g1, g2⟩ := mapM?_get hm i y hy
          exact fz_ok hR hD h2 hf2 hψ g2 (hc i y0 c g1 hcc)
      · cases hf
    case tup cs =>
      split at hf
      · rename_i cs' hm; cases hf
        cases hv
        rename_i vs hl hc
        refine .tup (by rw [hl, mapM?_length hm]) fun i y c hy hcc => ?_
        obtain ⟨y0, g1, g2⟩ := mapM?_get hm i y hy
        exact fz_ok hR hD h2 hf2 hψ g2 (hc i y0 c g1 hcc)
      · cases hf
    case rp cs =>
      cases hf
      have hv' := hv.less h2 fun _ _ _ h => h
      obtain ⟨a, rfl, q1, q2⟩ := hv'.rp_inv
      exact .rp q1 q2
    case rs sz els =>
      cases hf
      have hv' := hv.less h2 fun _ _ _ h => h
      obtain ⟨a, cap, rfl, q1, q2, q3, q4, q5⟩ := hv'.rs_inv
      exact .rs q1 q2 q3 q4 q5
    all_goals (cases hf; cases hv; constructor)

theorem fzBlk_ok : ∀ {bs : List Nat} {h1 h2 : H}, fzBlk n0 h bs h1 = some h2 → h2.length = h1.length ∧ (∀ b, b ∉ bs → h2[b]? = h1[b]?) ∧ (∀ b, b ∈ bs → b < h1.length → ∃ x els, h[b]? = some (.row x) ∧ mapM? (mapM? (fz n0 h 100 false)) x.els = some els ∧ h2[b]? = some (.row { x with els }))
  | [], h1, h2, hf => by simp only [fzBlk] at hf; cases hf; simp
  | b :: bs, h1, h2, hf => by
    simp only [fzBlk] at hf
    split at hf
    · rename_i x hx
      split at hf
      · rename_i els hm
        obtain ⟨g1, g2, g3⟩ := fzBlk_ok hf
        refine ⟨by simpa using g1, fun c hc => ?_, fun c hc hlt => ?_⟩
        · simp at hc
          rw [g2 c hc.2, List.getElem?_set_ne (Ne.symm hc.1)]
        · by_cases e : c ∈ bs
          · exact g3 c e (by simpa using hlt)
          · have : c = b := by simpa [e] using hc
            subst this
            refine ⟨x, els, hx, hm, ?_⟩
            rw [g2 c e]
            simp [hlt]
      · cases hf
    · cases hf
end Go.Mini

namespace Go.Mini
set_option linter.unusedVariables false
set_option linter.unusedSimpArgs false
variable {P : Program} {G : Nat → Option V} {forb forb2 : Nat → Prop} {φ ψ : Phi} {w : World} {D : Nat → Prop} {base n0 : Nat} {h : H} {t : List V} {a : Act} {C : FuncId → List V → H → Option Res}

theorem VR.under {v : V} {c : Value} (h : VR forb w φ v c) : ∀ {n : Nat} {ψ : Phi}, VB n v → (∀ b v l, b < n → φ b v = some l → ψ b v = some l) → VR forb w ψ v c := by
  induction h with
  | ptr hφ h0 h1 => intro n ψ hb hψ; cases hb; exact .ptr (hψ _ _ _ ‹_› hφ) h0 h1
  | mp hφ => intro n ψ hb hψ; cases hb; exact .mp (hψ _ _ _ ‹_› hφ)
  | os hφ hsz h0 h1 hn hm hc ha => intro n ψ hb hψ; cases hb; exact .os (hψ _ _ _ ‹_› hφ) hsz h0 h1 hn hm hc ha
  | rs hl hc hm hs hv ih => intro n ψ _ _; exact .rs hl hc hm hs hv
  | rp hs hv ih => intro n ψ _ _; exact .rp hs hv
  | fn hl hv ih => intro n ψ hb hψ; cases hb; rename_i hb; exact .fn hl fun i x c hx hc => ih i x c hx hc (hb x (List.mem_of_getElem? hx)) hψ
  | agg hl hc hv ih => intro n ψ hb hψ; cases hb; rename_i hb; exact .agg hl hc fun i x c hx hc => ih i x c hx hc (hb x (List.mem_of_getElem? hx)) hψ
  | tup hl hv ih => intro n ψ hb hψ; cases hb; rename_i hb; exact .tup hl fun i x c hx hc => ih i x c hx hc (hb x (List.mem_of_getElem? hx)) hψ
  | _ => intro n ψ _ _; constructor

/-- what a function's results are read with -/
def resultOne (tmps : Array Value) : ResultVar → Sem Value
  | .tmp t => pure (tmps.getD t undef)
  | .cell a t => do loadVar t (← asAddr (tmps.getD a undef))

theorem resV_ok (ht : Tm G forb φ w t a) (hR : Rel forb φ D base h w) : ∀ {rs : List ResultVar} {ms : List MRes} {vs : List V} {r : List Nat}, mapM? (compRes P) rs = some ms → resV h t ms = some (vs, r) → (∀ b ∈ r, D b) → ∃ cs : List Value, (rs.mapM (resultOne a.tmps)).run P w = .ok cs w ∧ VRs forb w φ vs cs
  | [], ms, vs, r, hm, hr, _ => by cases hm; simp only [resV] at hr; cases hr; exact ⟨[], by simp, by simp [VRs]⟩
  | x :: rs, ms, vs, r, hm, hr, hD => by
    unfold mapM? at hm
    split at hm
    · rename_i m ms' h1 h2; cases hm
      cases x with
      | tmp i =>
        cases h1
        simp only [resV] at hr
        split at hr
        · rename_i v vs' r' h3 h4; cases hr
          obtain ⟨cs, g1, g2, g3⟩ := resV_ok ht hR h2 h4 hD
          obtain ⟨c, h5, h6⟩ := ht.val i v h3
          refine ⟨c :: cs, ?_, by simp [g2], fun j u cu hu hc => ?_⟩
          · have : a.tmps.getD i undef = c := by rw [Array.getD_eq_getD_getElem?, h5]; rfl
            simp [resultOne, this, g1]
          · cases j with
            | zero => simp at hu hc; subst hu hc; exact h6
            | succ j => exact g3 j u cu (by simpa using hu) (by simpa using hc)
        · cases hr
      | cell i ty =>
        obtain ⟨agg, ha, rfl⟩ := map_inv h1
        simp only [resV] at hr
        split at hr
        · rename_i v vs' r' h3 h4
          split at hr
          · rename_i cells r1 hd
            split at hr
            · rename_i u hu; cases hr
              obtain ⟨cs, g1, g2, g3⟩ := resV_ok ht hR h2 h4 (fun b hb => hD b (by simp [hb]))
              obtain ⟨c, h5, h6⟩ := ht.val i v h3
              obtain ⟨A, rfl, h7⟩ := deref_ok hR hd h6 (fun b hb => hD b (by simp [hb]))
              obtain ⟨c', h8, h9⟩ := loadVar_ok (P := P) ha h7 hu
              refine ⟨c' :: cs, ?_, by simp [g2], fun j u cu hu hc => ?_⟩
              · have : a.tmps.getD i undef = .pointer (some A) := by rw [Array.getD_eq_getD_getElem?, h5]; rfl
                simp [resultOne, this, asAddr, h8, g1]
              · cases j with
                | zero => simp at hu hc; subst hu hc; exact h9
                | succ j => exact g3 j u cu (by simpa using hu) (by simpa using hc)
            · cases hr
          · cases hr
        · cases hr
    · cases hm

theorem results_ok (ht : Tm G forb φ w t a) (hR : Rel forb φ D base h w) {fn : Func} {ms : List MRes} {vs : List V} {r : List Nat} (hm : mapM? (compRes P) fn.results.toList = some ms) (hr : resV h t ms = some (vs, r)) (hD : ∀ b ∈ r, D b) : ∃ c, (results fn a.tmps).run P w = .ok c w ∧ VR forb w φ (tupV vs) c := by
  obtain ⟨cs, h1, h2, h3⟩ := resV_ok ht hR hm hr hD
  have he : fn.results.mapM (resultOne a.tmps) = List.toArray <$> fn.results.toList.mapM (resultOne a.tmps) := Array.mapM_eq_mapM_toList ..
  have h4 : (fn.results.mapM (resultOne a.tmps)).run P w = .ok cs.toArray w := by rw [he]; simp [h1]
  have h5 : (results fn a.tmps).run P w = .ok (if h : cs.toArray.size = 1 then cs.toArray[0] else .tuple cs.toArray) w := by
    have : results fn a.tmps = (do let vs ← fn.results.mapM (resultOne a.tmps); pure (if h : vs.size = 1 then vs[0] else .tuple vs)) := by
      unfold results; congr 1
    rw [this]; simp only [Sem.run_bind, h4, Result.andThen_ok, Sem.run_pure]
  refine ⟨_, h5, ?_⟩
  rcases cs with _ | ⟨c, _ | ⟨c', cs⟩⟩
  · have : vs = [] := by simpa using h2.symm
    subst this; simp [tupV]; exact .tup (by simp) (by simp)
  · rcases vs with _ | ⟨v, _ | ⟨v', vs⟩⟩
    · simp at h2
    · simp [tupV]; exact h3 0 v c rfl rfl
    · simp at h2
  · rcases vs with _ | ⟨v, _ | ⟨v', vs⟩⟩
    · simp at h2
    · simp at h2
    · simp [tupV]; exact .tup h2 h3

/-- a body's run -/
theorem body_run (hC : CallOk P G C) (hL : LenOk C) (hV : VbOk C) (hG : GB G) (hmix : P.follows .mixedOrders = true) {f : FuncId} {fn : Func} {k : Code} {m : MFunc} (hf : P.funcs[f]? = some fn) (hb : fn.body = some k) (hc : comp P k = some m.body) (hn : m.ntmps = fn.ntmps) (hres : mapM? (compRes P) fn.results.toList = some m.res)
    {n : Nat} {args : List V} {s : St} {e : Ex} (hx : exec G C h.length n m.body ⟨args ++ List.replicate (m.ntmps - args.length) .undef, h, [], []⟩ = some (e, s)) (he : e = .normal ∨ e = .ret) {vs : List V} {r1 : List Nat} (hr : resV s.h s.t m.res = some (vs, r1))
    {cargs : List Value} (hargs : VRs forb w φ args cargs) (hvb : ∀ v ∈ args, VB h.length v) (hhb : HB h.length h) (hR : Rel forb φ D base h w) (hglob : ∀ n v, G n = some v → VR forb w noPhi v (.pointer (some ⟨n, 0, none⟩))) (hD0 : ∀ b, h.length ≤ b → D b) (hDf : ∀ b, (b ∈ s.r ∨ b ∈ s.w) → D b) (hDr : ∀ b ∈ r1, D b) (hfree : ∀ b v, h.length ≤ b → b < s.h.length → φ b v = none) :
    Calls P f ⟨cargs⟩ w (fun e w' => ∃ c, e = .returned c ∧ ∃ forb' φ' a' a0, Out G forb φ D base h.length w ⟨args ++ List.replicate (m.ntmps - args.length) .undef, h, [], []⟩ s a0 forb' φ' a' w' ∧ VR forb' w' φ' (tupV vs) c) := by
  refine calls_of_wp hf hb ?_
  have htm : Tm G forb φ w (args ++ List.replicate (m.ntmps - args.length) .undef) { tmps := (⟨cargs⟩ : Array Value) ++ Array.replicate (fn.ntmps - (⟨cargs⟩ : Array Value).size) undef, defers := [] } := by
    have hl := hargs.1
    refine ⟨by simp [hl, hn], fun i v hv => ?_, hglob⟩
    by_cases e : i < args.length
    · rw [List.getElem?_append_left e] at hv
      have hi : i < cargs.length := by omega
      refine ⟨cargs[i], ?_, hargs.2 i v _ hv (by simp [hi])⟩
      rw [Array.getElem?_append_left (by simpa using hi)]; simp [hi]
    · rw [List.getElem?_append_right (by omega)] at hv
      obtain ⟨h1, rfl⟩ := List.getElem?_eq_some_iff.1 hv
      simp at h1
      refine ⟨undef, ?_, by simp; exact .undef⟩
      rw [Array.getElem?_append_right (by simp; omega)]
      have : i - cargs.length < fn.ntmps - cargs.length := by rw [hl, ← hn]; exact h1
      simp [this]
  have hat : At G D base h.length ⟨args ++ List.replicate (m.ntmps - args.length) .undef, h, [], []⟩ s forb φ w { tmps := (⟨cargs⟩ : Array Value) ++ Array.replicate (fn.ntmps - (⟨cargs⟩ : Array Value).size) undef, defers := [] } := by
    refine ⟨fun v hv => ?_, hhb, htm, hR, hfree⟩
    rcases List.mem_append.1 hv with h1 | h1
    · exact hvb v h1
    · obtain ⟨_, rfl⟩ := List.mem_replicate.1 h1; exact .undef
  refine (exec_ok hC hL hV hG hmix hD0 n).1 hc hx (Nat.le_refl _) hat hDf _ fun forb' φ' a' w' hO => ?_
  obtain ⟨c, hc1, hc2⟩ := results_ok hO.tm hO.rel hres hr hDr
  have hd : a'.defers = [] := hO.defers
  rcases he with rfl | rfl
  · exact ⟨hd, c, hc1, c, rfl, forb', φ', a', _, hO, hc2⟩
  · exact ⟨hd, c, hc1, c, rfl, forb', φ', a', _, hO, hc2⟩
end Go.Mini

namespace Go.Mini
set_option linter.unusedVariables false
set_option linter.unusedSimpArgs false
variable {P : Program} {G : Nat → Option V} {forb forb2 : Nat → Prop} {φ ψ : Phi} {w : World} {D : Nat → Prop} {base n0 : Nat} {h : H} {t : List V} {a : Act} {C : FuncId → List V → H → Option Res}

/-- an environment tells the program's functions -/
structure FnOk (P : Program) (E : Env) : Prop where
  fn : ∀ f m, E.fn f = some m → ∃ fn, P.funcs[f]? = some fn ∧ compF P fn = some m
  gb : GB E.G

theorem compF_some {fn : Func} {m : MFunc} (h : compF P fn = some m) : (fn.name == "runtime.NumGoroutine") = false ∧ ∃ k, fn.body = some k ∧ comp P k = some m.body ∧ m.ntmps = fn.ntmps ∧ mapM? (compRes P) fn.results.toList = some m.res := by
  unfold compF at h
  split at h
  · cases h
  · rename_i hn
    split at h
    · rename_i k hk
      split at h
      · rename_i h1 h2; cases h; exact ⟨by simpa using hn, k, hk, h1, rfl, h2⟩
      · cases h
    · cases h

/-- what a call of a body is -/
theorem callBody_some {E : Env} {n : Nat} {keep : Bool} {args : List V} {m : MFunc} {x : Res} (hx : callBody E C n keep args h (some m) = some x) :
    ∃ e s vs r1, exec E.G C h.length n m.body ⟨args ++ List.replicate (m.ntmps - args.length) .undef, h, [], []⟩ = some (e, s) ∧ (e = .normal ∨ e = .ret) ∧ resV s.h s.t m.res = some (vs, r1) ∧ callOut h.length keep (tupV vs) r1 s = some x := by
  simp only [callBody] at hx
  unfold callEnd at hx
  split at hx
  · rename_i s hs
    unfold callRes at hx
    split at hx
    · rename_i vs r1 hr; exact ⟨_, s, vs, r1, hs, .inl rfl, hr, hx⟩
    · cases hx
  · rename_i s hs
    unfold callRes at hx
    split at hx
    · rename_i vs r1 hr; exact ⟨_, s, vs, r1, hs, .inr rfl, hr, hx⟩
    · cases hx
  · cases hx

theorem callOut_keep {v : V} {r1 : List Nat} {s : St} {x : Res} (hx : callOut n0 true v r1 s = some x) : x = ⟨v, s.h, uni n0 r1 s.r, s.w⟩ := by simp [callOut] at hx; exact hx.symm
theorem callOut_frozen {v : V} {r1 : List Nat} {s : St} {x : Res} (hx : callOut n0 false v r1 s = some x) : ∃ u h', fz n0 s.h 100 false v = some u ∧ fzBlk n0 s.h s.w (s.h.take n0) = some h' ∧ x = ⟨u, h', uni n0 r1 s.r, s.w⟩ := by
  simp only [callOut, cond_false] at hx
  split at hx
  · rename_i u h' h1 h2; cases hx; exact ⟨u, h', h1, h2, rfl⟩
  · cases hx

theorem resV_vb (hB : ∀ v ∈ t, VB h.length v) (hH : HB h.length h) : ∀ {ms : List MRes} {vs : List V} {r : List Nat}, resV h t ms = some (vs, r) → ∀ v ∈ vs, VB h.length v
  | [], vs, r, hr => by simp only [resV] at hr; cases hr; simp
  | .tmp i :: ms, vs, r, hr => by
    simp only [resV] at hr
    split at hr
    · rename_i v vs' r' h3 h4; cases hr
      intro u hu
      rcases List.mem_cons.1 hu with rfl | hu
      · exact hB _ (List.mem_of_getElem? h3)
      · exact resV_vb hB hH h4 u hu
    · cases hr
  | .cell i agg :: ms, vs, r, hr => by
    simp only [resV] at hr
    split at hr
    · rename_i v vs' r' h3 h4
      split at hr
      · rename_i cells r1 hd
        split at hr
        · rename_i u hu; cases hr
          intro y hy
          rcases List.mem_cons.1 hy with rfl | hy
          · exact loadC_vb (deref_vb hH (hB _ (List.mem_of_getElem? h3)) hd) hu
          · exact resV_vb hB hH h4 y hy
        · cases hr
      · cases hr
    · cases hr
theorem tupV_vb {vs : List V} {n : Nat} (h : ∀ v ∈ vs, VB n v) : VB n (tupV vs) := by
  unfold tupV
  split
  · exact h _ (by simp)
  · exact .tup h

theorem exec_fr' (hL : LenOk C) (hV : VbOk C) {E : Env} (hE : FnOk P E) {f : FuncId} {m : MFunc} (hm : E.fn f = some m) {n : Nat} {args : List V} {e : Ex} {s : St} (hx : exec E.G C h.length n m.body ⟨args ++ List.replicate (m.ntmps - args.length) .undef, h, [], []⟩ = some (e, s)) : Fr h.length ⟨args ++ List.replicate (m.ntmps - args.length) .undef, h, [], []⟩ s := by
  obtain ⟨fn, h1, h2⟩ := hE.fn f m hm
  obtain ⟨_, k, _, h3, _⟩ := compF_some h2
  exact exec_fr hL hV hE.gb h3 hx (Nat.le_refl _)

theorem args_pad {args : List V} {n k : Nat} (h : ∀ v ∈ args, VB n v) : ∀ v ∈ args ++ List.replicate k .undef, VB n v := by
  intro v hv
  rcases List.mem_append.1 hv with h1 | h1
  · exact h v h1
  · obtain ⟨_, rfl⟩ := List.mem_replicate.1 h1; exact .undef

theorem takeH_get {l : H} {n b : Nat} (h : b < n) : (l.take n)[b]? = l[b]? := by rw [List.getElem?_take, if_pos h]

theorem fzBlk_vb {N : Nat} (hH : HB N h) {bs : List Nat} {h1 h2 : H} (hf : fzBlk n0 h bs h1 = some h2) (h1b : ∀ b x, b ∉ bs → h1[b]? = some (.row x) → ∀ el ∈ x.els, ∀ y ∈ el, VB n0 y) : HB n0 h2 := by
  obtain ⟨g1, g2, g3⟩ := fzBlk_ok hf
  intro b x hb el hel y hy
  by_cases e : b ∈ bs
  · have hlt : b < h1.length := by rw [← g1]; exact (List.getElem?_eq_some_iff.1 hb).1
    obtain ⟨x0, els, q1, q2, q3⟩ := g3 b e hlt
    rw [hb] at q3; cases q3
    obtain ⟨el0, p1, p2⟩ := mapM?_mem q2 hel
    obtain ⟨y0, p3, p4⟩ := mapM?_mem p2 hy
    exact (fz_vb (hH b x0 q1 el0 p1 y0 p3) hH p4).2
  · rw [g2 b e] at hb
    exact h1b b x e hb el hel y hy

theorem body_len (hL : LenOk C) (hV : VbOk C) {E : Env} (hE : FnOk P E) {f : FuncId} {m : MFunc} (hm : E.fn f = some m) {n : Nat} {keep : Bool} {args : List V} {x : Res} (hx : callBody E C n keep args h (some m) = some x) : h.length ≤ x.h.length ∧ (∀ b ∈ x.w, b < h.length) ∧ ∀ b, b < h.length → b ∉ x.w → x.h[b]? = h[b]? := by
  obtain ⟨e, s, vs, r1, h1, _, h3, h4⟩ := callBody_some hx
  have hF := exec_fr' hL hV hE hm h1
  have hw : ∀ b ∈ s.w, b < h.length := fun b hb => by rcases hF.low b hb with h5 | h5; exact absurd h5 (by simp); exact h5
  cases keep with
  | true => rw [callOut_keep h4]; exact ⟨hF.len, hw, hF.same⟩
  | false =>
    obtain ⟨u, h', h5, h6, rfl⟩ := callOut_frozen h4
    obtain ⟨g1, g2, g3⟩ := fzBlk_ok h6
    have hlen : h.length ≤ s.h.length := hF.len
    refine ⟨by simp only [g1, List.length_take]; omega, hw, fun b hb hn => ?_⟩
    show h'[b]? = h[b]?
    rw [g2 b hn, takeH_get hb]; exact hF.same b hb hn
theorem body_vb (hL : LenOk C) (hV : VbOk C) {E : Env} (hE : FnOk P E) {f : FuncId} {m : MFunc} (hm : E.fn f = some m) {n : Nat} {keep : Bool} {args : List V} {x : Res} (hx : callBody E C n keep args h (some m) = some x) (ha : ∀ v ∈ args, VB h.length v) (hh : HB h.length h) : VB x.h.length x.v ∧ HB x.h.length x.h := by
  obtain ⟨e, s, vs, r1, h1, _, h3, h4⟩ := callBody_some hx
  have hF := exec_fr' hL hV hE hm h1
  obtain ⟨v1, v2⟩ := hF.vb (args_pad ha) hh
  have v3 := tupV_vb (resV_vb v1 v2 h3)
  cases keep with
  | true => rw [callOut_keep h4]; exact ⟨v3, v2⟩
  | false =>
    obtain ⟨u, h', h5, h6, rfl⟩ := callOut_frozen h4
    have hlen : h.length ≤ s.h.length := hF.len
    have g1 := (fzBlk_ok h6).1
    have : h'.length = h.length := by rw [g1, List.length_take]; omega
    show VB h'.length u ∧ HB h'.length h'
    rw [this]
    refine ⟨(fz_vb v3 v2 h5).2, fzBlk_vb v2 h6 fun b y hn hb => ?_⟩
    have hb' : b < h.length := by
      have := (List.getElem?_eq_some_iff.1 hb).1
      simp at this; omega
    rw [takeH_get hb'] at hb
    rw [hF.same b hb' hn] at hb
    exact hh b y hb

/-- the blocks from n0 on, moved up by k -/
def up (n0 k : Nat) (φ : Phi) : Phi := fun b v => if b < n0 then φ b v else if b < n0 + k then none else φ (b - k) v
theorem up_low {k b v : Nat} (h : b < n0) : up n0 k φ b v = φ b v := by simp [up, h]
theorem up_mid {k b v : Nat} (h : n0 ≤ b) (h2 : b < n0 + k) : up n0 k φ b v = none := by simp [up, show ¬ b < n0 by omega, h2]
theorem up_high {k b v : Nat} (h : n0 ≤ b) : up n0 k φ (b + k) v = φ b v := by simp [up, show ¬ b + k < n0 by omega, show ¬ b < n0 by omega]
theorem up_some {k b v : Nat} {l : Loc} (h : up n0 k φ b v = some l) : (b < n0 ∧ φ b v = some l) ∨ (∃ b', n0 ≤ b' ∧ b = b' + k ∧ φ b' v = some l) := by
  unfold up at h
  split at h
  · exact .inl ⟨‹_›, h⟩
  · split at h
    · cases h
    · exact .inr ⟨b - k, by omega, by omega, h⟩

theorem rel_up (hR : Rel forb φ D base h w) (hH : HB h.length h) (k : Nat) : Rel forb (up h.length k φ) (fun b => D b ∨ h.length ≤ b) base h w := by
  refine ⟨fun b x v l hb hx h1 h2 hl => ?_, fun b v l hl => ?_, fun b v l b' v' l' hl hl' hcb => ?_, hR.top, fun b x v l hb hx hl => ?_, fun b es l hb hx hl => ?_⟩
  · have hlt := (List.getElem?_eq_some_iff.1 hx).1
    rw [up_low hlt] at hl
    obtain ⟨k1, k2, k3, k4, cells, ty, fr, k5, k6, k7⟩ := hR.row b x v l (hb.resolve_right (by omega)) hx h1 h2 hl
    refine ⟨k1, k2, k3, k4, cells, ty, fr, k5, k6, fun i el o y p1 p2 p3 p4 => ?_⟩
    obtain ⟨q1, c, q2, q3⟩ := k7 i el o y p1 p2 p3 p4
    exact ⟨q1, c, q2, q3.under (hH b x hx el (List.mem_of_getElem? p3) y (List.mem_of_getElem? p4)) fun b' v' l' hb' hl' => by rw [up_low hb']; exact hl'⟩
  · rcases up_some hl with ⟨_, h1⟩ | ⟨b', _, _, h1⟩ <;> exact hR.low _ _ _ h1
  · rcases up_some hl with ⟨g1, g2⟩ | ⟨c, g1, g2, g3⟩ <;> rcases up_some hl' with ⟨g1', g2'⟩ | ⟨c', g1', g2', g3'⟩
    · exact hR.apart _ _ _ _ _ _ g2 g2' hcb
    · have := (hR.apart _ _ _ _ _ _ g2 g3' hcb).1; omega
    · have := (hR.apart _ _ _ _ _ _ g3 g2' hcb).1; omega
    · obtain ⟨e1, e2⟩ := hR.apart _ _ _ _ _ _ g3 g3' hcb
      exact ⟨by omega, e2⟩
  · have hlt := (List.getElem?_eq_some_iff.1 hx).1
    rw [up_low hlt] at hl
    exact hR.new b x v l (hb.resolve_right (by omega)) hx hl
  · have hlt := (List.getElem?_eq_some_iff.1 hx).1
    rw [up_low hlt] at hl
    exact hR.mp b es l (hb.resolve_right (by omega)) hx hl

theorem rel_wide (hR : Rel forb φ D base h w) : Rel forb φ (fun b => D b ∨ h.length ≤ b) base h w :=
  ⟨fun b x v l hb hx => hR.row b x v l (hb.resolve_right (by have := (List.getElem?_eq_some_iff.1 hx).1; omega)) hx, hR.low, hR.apart, hR.top, fun b x v l hb hx => hR.new b x v l (hb.resolve_right (by have := (List.getElem?_eq_some_iff.1 hx).1; omega)) hx, fun b es l hb hx => hR.mp b es l (hb.resolve_right (by have := (List.getElem?_eq_some_iff.1 hx).1; omega)) hx⟩

/-- A call of a body is the model's call. -/
theorem body_ok {E : Env} (hC : CallOk P E.G C) (hL : LenOk C) (hV : VbOk C) (hE : FnOk P E) (hmix : P.follows .mixedOrders = true) {f : FuncId} {m : MFunc} (hm : E.fn f = some m) {n : Nat} {keep : Bool} {args : List V} {x : Res} (hx : callBody E C n keep args h (some m) = some x) :
    Enters P f ∧ ∀ forb φ D base w cargs, (∀ v ∈ args, VB h.length v) → HB h.length h → VRs forb w φ args cargs → Rel forb φ D base h w → (∀ n v, E.G n = some v → VR forb w noPhi v (.pointer (some ⟨n, 0, none⟩))) → (∀ b, (b ∈ x.r ∨ b ∈ x.w) → D b) → (∀ b v, h.length ≤ b → b < x.h.length → φ b v = none) →
      Calls P f ⟨cargs⟩ w (fun e w' => ∃ c, e = .returned c ∧ Post forb φ D base h w x c w') := by
  obtain ⟨fn, hf, hcomp⟩ := hE.fn f m hm
  obtain ⟨hname, k, hb, hk, hn, hres⟩ := compF_some hcomp
  refine ⟨⟨fn, hf, by simp [hb], hname⟩, fun forb φ D base w cargs hvb hhb hargs hR hglob hD hfree => ?_⟩
  obtain ⟨e, s, vs, r1, h1, he, h3, h4⟩ := callBody_some hx
  have hF := exec_fr' hL hV hE hm h1
  have hlen : h.length ≤ s.h.length := hF.len
  have hw : ∀ b ∈ s.w, b < h.length := fun b hb => by rcases hF.low b hb with h5 | h5; exact absurd h5 (by simp); exact h5
  have hxrw : x.r = uni h.length r1 s.r ∧ x.w = s.w := by
    cases keep with
    | true => rw [callOut_keep h4]; exact ⟨rfl, rfl⟩
    | false => obtain ⟨u, h', _, _, rfl⟩ := callOut_frozen h4; exact ⟨rfl, rfl⟩
  have hDf : ∀ b, (b ∈ s.r ∨ b ∈ s.w) → (D b ∨ h.length ≤ b) := by
    intro b hb
    left; refine hD b ?_
    rw [hxrw.1, hxrw.2]
    rcases hb with hb | hb
    · exact .inl (uni_mem.2 (.inr hb))
    · exact .inr hb
  have hDr : ∀ b ∈ r1, (D b ∨ h.length ≤ b) := by
    intro b hb
    by_cases e : b < h.length
    · left; refine hD b (.inl ?_); rw [hxrw.1]; exact uni_mem.2 (.inl ⟨hb, e⟩)
    · right; omega
  cases keep with
  | true =>
    have hxe := callOut_keep h4
    subst hxe
    refine (body_run hC hL hV hE.gb hmix hf hb hk hn hres h1 he h3 hargs hvb hhb (rel_wide hR) hglob (fun b hb => .inr hb) hDf hDr hfree).mono fun ed w' ⟨c, hc, forb', φ', a', a0, hO, hv⟩ => ⟨c, hc, forb', φ', hv, hO.rel.part fun b hb => ?_, hO.ext, hO.mono, hO.far, fun b v l hφ hnw => ?_, hO.old, hlen⟩
    · rcases hb with hb | ⟨hb, _⟩
      · exact .inl hb
      · exact .inr hb
    · refine hO.loc b v l ?_ hφ hnw
      by_cases e1 : b < h.length
      · exact .inl e1
      · by_cases e2 : s.h.length ≤ b
        · exact .inr e2
        · rw [hfree b v (by omega) (by simpa using e2)] at hφ; cases hφ
  | false =>
    obtain ⟨u, h', h5, h6, hxe⟩ := callOut_frozen h4
    subst hxe
    obtain ⟨g1, g2, g3⟩ := fzBlk_ok h6
    have g1' : h'.length = h.length := by rw [g1, List.length_take]; omega
    obtain ⟨kk, hkk⟩ : ∃ kk, s.h.length = h.length + kk := ⟨s.h.length - h.length, by omega⟩
    have hargs' : VRs forb w (up h.length kk φ) args cargs := ⟨hargs.1, fun i v c hv hc => (hargs.2 i v c hv hc).under (hvb v (List.mem_of_getElem? hv)) fun b v l hb hl => by rw [up_low hb]; exact hl⟩
    refine (body_run hC hL hV hE.gb hmix hf hb hk hn hres h1 he h3 hargs' hvb hhb (rel_up hR hhb kk) hglob (fun b hb => .inr hb) hDf hDr (fun b v p1 p2 => up_mid p1 (by rw [hkk] at p2; exact p2))).mono fun ed w' ⟨c, hc, forb', φ', a', a0, hO, hv⟩ => ⟨c, hc, ?_⟩
    have mono2 : ∀ b v l, φ b v = some l → (fun b v => if b < h.length then φ' b v else φ b v : Phi) b v = some l := by
      intro b v l hl
      show (if b < h.length then φ' b v else φ b v) = some l
      split
      · rename_i e; exact hO.mono b v l (by rw [up_low e]; exact hl)
      · exact hl
    have old1 : ∀ b v, b < h.length → b ∉ s.w → φ' b v = φ b v := fun b v e hn => by rw [hO.old b v e hn, up_low e]
    have high : ∀ b v l, h.length ≤ b → φ b v = some l → φ' (b + kk) v = some l := fun b v l e hl => hO.mono _ _ _ (by rw [up_high e]; exact hl)
    refine ⟨fun cb => forb' cb ∧ ∀ b v l, h.length ≤ b → b < s.h.length → φ' b v = some l → l.cb ≠ cb, fun b v => if b < h.length then φ' b v else φ b v, ?_, ⟨fun b x v l hb hx hx1 hx2 hl => ?_, fun b v l hl => ?_, fun b v l b' v' l' hl hl' hcb => ?_, hO.rel.top, fun b x v l hb hx hl => ?_, fun b es l hb hx hl => ?_⟩, ⟨fun cb hcb => hO.ext.fb cb hcb.1, hO.ext.keep, hO.ext.shape, hO.ext.size, hO.ext.os, hO.ext.tape, hO.ext.output⟩, mono2, fun b v hb => ?_, fun b v l hl hnw => ?_, fun b v hb hnw => ?_, by show h.length ≤ h'.length; omega⟩
    · exact fz_ok (inn := false) (ψ := fun b v => if b < h.length then φ' b v else φ b v) hO.rel (fun b hb => .inr hb) (fun cb hcb => hcb.1) (fun b v l p1 p2 p3 p4 => p4.2 b v l p1 p2 p3 rfl) (fun b v l p1 p2 => by show (if b < h.length then φ' b v else φ b v) = some l; rw [if_pos p1]; exact p2) h5 hv
    · have hlt : b < h.length := by rw [← g1']; exact (List.getElem?_eq_some_iff.1 hx).1
      have hDb : D b := by
        rcases hb with hb | ⟨p1, _⟩
        · exact hb
        · omega
      have hl' : φ' b v = some l := by have : (if b < h.length then φ' b v else φ b v) = some l := hl; rwa [if_pos hlt] at this
      have hE2 : Ext forb (fun cb => forb' cb ∧ ∀ b v l, h.length ≤ b → b < s.h.length → φ' b v = some l → l.cb ≠ cb) w w' := ⟨fun cb hcb => hO.ext.fb cb hcb.1, hO.ext.keep, hO.ext.shape, hO.ext.size, hO.ext.os, hO.ext.tape, hO.ext.output⟩
      by_cases hbw : b ∈ s.w
      · obtain ⟨x0, els, q1, q2, q3⟩ := g3 b hbw (by rw [List.length_take]; omega)
        have : h'[b]? = some (.row x) := hx
        rw [q3] at this; cases this
        obtain ⟨k1, k2, k3, k4, cells, ty, fr, k5, k6, k7⟩ := hO.rel.row b x0 v l (.inl hDb) q1 hx1 hx2 hl'
        have hml := mapM?_length q2
        refine ⟨k1, by simpa [hml] using k2, by simpa [hml] using k3, fun el hel => ?_, cells, ty, fr, k5, k6, fun i el o y p1 p2 p3 p4 => ?_⟩
        · obtain ⟨el0, r1', r2⟩ := mapM?_mem q2 hel
          rw [mapM?_length r2]; exact k4 el0 r1'
        · obtain ⟨el0, r1', r2⟩ := mapM?_get q2 i el p3
          obtain ⟨y0, r3, r4⟩ := mapM?_get r2 o y p4
          obtain ⟨s1, c, s2, s3⟩ := k7 i el0 o y0 p1 p2 r1' r3
          refine ⟨by rw [fz_cell r4]; exact s1, c, s2, ?_⟩
          exact fz_ok (inn := false) (ψ := fun b v => if b < h.length then φ' b v else φ b v) hO.rel (fun b hb => .inr hb) (fun cb hcb => hcb.1) (fun b v l p1 p2 p3 p4 => p4.2 b v l p1 p2 p3 rfl) (fun b v l p1 p2 => by show (if b < h.length then φ' b v else φ b v) = some l; rw [if_pos p1]; exact p2) r4 s3
      · have hx' : h[b]? = some (.row x) := by
          have h7 : h'[b]? = some (.row x) := hx
          rw [g2 b hbw, takeH_get hlt, hF.same b hlt hbw] at h7; exact h7
        have hl0 : φ b v = some l := by rw [← old1 b v hlt hbw]; exact hl'
        exact (hR.row b x v l hDb hx' hx1 hx2 hl0).ext hE2 mono2 (hO.loc b v l (.inl hlt) (by rw [up_low hlt]; exact hl0) hbw)
    · have hl' : (if b < h.length then φ' b v else φ b v) = some l := hl
      split at hl'
      · rename_i e
        obtain ⟨p1, p2, p3⟩ := hO.rel.low b v l hl'
        refine ⟨p1, p2, p3, fun b' v' l' q1 q2 q3 q4 => ?_⟩
        have := (hO.rel.apart b' v' l' b v l q3 hl' q4).1; omega
      · rename_i e
        have hh := high b v l (by omega) hl'
        obtain ⟨p1, p2, p3⟩ := hO.rel.low _ v l hh
        refine ⟨p1, p2, p3, fun b' v' l' q1 q2 q3 q4 => ?_⟩
        have := (hO.rel.apart b' v' l' _ v l q3 hh q4).1; omega
    · have e1 : (if b < h.length then φ' b v else φ b v) = some l := hl
      have e2 : (if b' < h.length then φ' b' v' else φ b' v') = some l' := hl'
      split at e1 <;> split at e2
      · exact hO.rel.apart _ _ _ _ _ _ e1 e2 hcb
      · have := (hO.rel.apart _ _ _ _ _ _ e1 (high b' v' l' (by omega) e2) hcb).1; omega
      · have := (hO.rel.apart _ _ _ _ _ _ (high b v l (by omega) e1) e2 hcb).1; omega
      · exact hR.apart _ _ _ _ _ _ e1 e2 hcb
    · have hlt : b < h.length := by rw [← g1']; exact (List.getElem?_eq_some_iff.1 hx).1
      have hl' : (if b < h.length then φ' b v else φ b v) = some l := hl
      rw [if_pos hlt] at hl'
      have hDb : D b := by
        rcases hb with hb | ⟨p1, _⟩
        · exact hb
        · omega
      by_cases hbw : b ∈ s.w
      · obtain ⟨x0, els, q1, q2, q3⟩ := g3 b hbw (by rw [List.length_take]; omega)
        have : h'[b]? = some (.row x) := hx
        rw [q3] at this; cases this
        exact hO.rel.new b x0 v l (.inl hDb) q1 hl'
      · have h7 : h'[b]? = some (.row x) := hx
        rw [g2 b hbw, takeH_get hlt] at h7
        exact hO.rel.new b x v l (.inl hDb) h7 hl'
    · have hlt : b < h.length := by rw [← g1']; exact (List.getElem?_eq_some_iff.1 hx).1
      have hl' : (if b < h.length then φ' b 0 else φ b 0) = some l := hl
      rw [if_pos hlt] at hl'
      have hDb : D b := by
        rcases hb with hb | ⟨p1, _⟩
        · exact hb
        · omega
      by_cases hbw : b ∈ s.w
      · obtain ⟨x0, els, q1, q2, q3⟩ := g3 b hbw (by rw [List.length_take]; omega)
        have : h'[b]? = some (.mp es) := hx
        rw [q3] at this; cases this
      · have h7 : h'[b]? = some (.mp es) := hx
        rw [g2 b hbw, takeH_get hlt] at h7
        exact hO.rel.mp b es l (.inl hDb) h7 hl'
    · show (if b < h.length then φ' b v else φ b v) = φ b v
      have : h.length ≤ b := by rw [← g1']; exact hb
      rw [if_neg (by omega)]
    · by_cases e : b < h.length
      · exact hO.loc b v l (.inl e) (by rw [up_low e]; exact hl) hnw
      · refine hO.loc (b + kk) v l (.inr (by omega)) (by rw [up_high (by omega)]; exact hl) fun hc2 => ?_
        have := hw _ hc2; omega
    · show (if b < h.length then φ' b v else φ b v) = φ b v
      rw [if_pos hb]; exact old1 b v hb hnw
end Go.Mini

namespace Go.Mini
set_option linter.unusedVariables false
set_option linter.unusedSimpArgs false
variable {P : Program} {G : Nat → Option V} {forb forb2 : Nat → Prop} {φ ψ : Phi} {w : World} {D : Nat → Prop} {base n0 : Nat} {h : H} {t : List V} {a : Act} {C : FuncId → List V → H → Option Res}

theorem flatMap_nil {α β : Type} {f : α → List β} {l : List α} (h : l.flatMap f = []) : ∀ x ∈ l, f x = [] := by
  intro x hx
  exact List.flatMap_eq_nil_iff.1 h x hx
theorem map_fst_same {l : List V} {as : List (V × List Nat)} {f : V → Option (V × List Nat)} (hm : mapM? f l = some as) (h : ∀ x ∈ l, ∀ y, f x = some y → y ∈ as → y.1 = x) : as.map (·.1) = l := by
  apply List.ext_getElem?
  intro i
  rw [List.getElem?_map]
  rcases hq : as[i]? with _ | y
  · have h1 := List.getElem?_eq_none_iff.1 hq
    have h2 := mapM?_length hm
    rw [List.getElem?_eq_none (by omega)]; rfl
  · obtain ⟨x, h1, h2⟩ := mapM?_get hm i y hq
    rw [h1]; simp [h x (List.mem_of_getElem? h1) y h2 (List.mem_of_getElem? hq)]

/-- nothing lent: the value itself, and it leads nowhere -/
theorem lend_none : ∀ {k : Nat} {v : V} {u : V × List Nat} {N : Nat}, VB N v → lend h k v = some u → u.2 = [] → u.1 = v ∧ VB 0 v
  | 0, v, u, N, _, hl, _ => by simp [lend] at hl
  | k + 1, v, u, N, hv, hl, hr => by
    have many : ∀ {l : List V} {as : List (V × List Nat)}, (∀ x ∈ l, VB N x) → mapM? (lend h k) l = some as → as.flatMap (·.2) = [] → as.map (·.1) = l ∧ ∀ x ∈ l, VB 0 x := by
      intro l as hl hm hn
      have hn' := flatMap_nil hn
      refine ⟨map_fst_same hm fun x hx y hy hya => (lend_none (hl x hx) hy (hn' y hya)).1, fun x hx => ?_⟩
      obtain ⟨i, hi⟩ := List.getElem?_of_mem hx
      obtain ⟨y, h1, h2⟩ := mapM?_get' hm hi
      exact (lend_none (hl x hx) h2 (hn' y (List.mem_of_getElem? h1))).2
    cases v <;> simp only [lend] at hl
    case os =>
      repeat' split at hl
      all_goals first
        | (cases hl; done)
        | (cases hl; simp at hr)
    case ptr =>
      repeat' split at hl
      all_goals first
        | (cases hl; done)
        | (cases hl; simp at hr)
    case mp => cases hl
    case fn f cap =>
      split at hl
      · rename_i cs hm; cases hl
        cases hv; rename_i hv
        obtain ⟨h1, h2⟩ := many hv hm hr
        exact ⟨by simp [h1], .fn h2⟩
      · cases hl
    case agg cap =>
      split at hl
      · rename_i cs hm; cases hl
        cases hv; rename_i hv
        obtain ⟨h1, h2⟩ := many hv hm hr
        exact ⟨by simp [h1], .agg h2⟩
      · cases hl
    case tup cap =>
      split at hl
      · rename_i cs hm; cases hl
        cases hv; rename_i hv
        obtain ⟨h1, h2⟩ := many hv hm hr
        exact ⟨by simp [h1], .tup h2⟩
      · cases hl
    case rp cs => cases hl; cases hv; rename_i hv; exact ⟨rfl, .rp hv⟩
    case rs sz els => cases hl; cases hv; rename_i hv; exact ⟨rfl, .rs hv⟩
    all_goals (cases hl; exact ⟨rfl, by constructor⟩)

theorem lend_cell : ∀ {k : Nat} {v : V} {u : V × List Nat}, lend h k v = some u → u.1.isCell = v.isCell
  | 0, v, u, hl => by simp [lend] at hl
  | k + 1, v, u, hl => by
    cases v <;> simp only [lend] at hl
    all_goals
      repeat' split at hl
      all_goals first
        | (cases hl; done)
        | (cases hl; rfl)

/-- what is lent leads nowhere -/
theorem lend_vb : ∀ {k : Nat} {v : V} {u : V × List Nat} {N : Nat}, VB N v → HB N h → lend h k v = some u → VB 0 u.1
  | 0, v, u, N, _, _, hl => by simp [lend] at hl
  | k + 1, v, u, N, hv, hh, hl => by
    have many : ∀ {l : List V} {as : List (V × List Nat)}, (∀ x ∈ l, VB N x) → mapM? (lend h k) l = some as → ∀ x ∈ as.map (·.1), VB 0 x := by
      intro l as hl hm x hx
      obtain ⟨y, hy, rfl⟩ := List.mem_map.1 hx
      obtain ⟨z, h1, h2⟩ := mapM?_mem hm hy
      exact lend_vb (hl z h1) hh h2
    cases v <;> simp only [lend] at hl
    case os b vv sz i n clip =>
      split at hl
      · rename_i x hx
        split at hl
        · split at hl
          · rename_i els hm; cases hl
            refine .rs fun el hel => ?_
            obtain ⟨el0, g1, rfl⟩ := List.mem_map.1 hel
            obtain ⟨el1, g2, g3⟩ := mapM?_mem hm g1
            exact many (rowAt_vb hh hx el1 (List.mem_of_mem_drop (List.mem_of_mem_take g2))) g3
          · cases hl
        · cases hl
      · cases hl
    case ptr b vv i o =>
      split at hl
      · rename_i x hx
        split at hl
        · rename_i el hel
          split at hl
          · rename_i cs hm; cases hl
            exact .rp (many (fun y hy => rowAt_vb hh hx el (List.mem_of_getElem? hel) y (List.mem_of_mem_drop hy)) hm)
          · cases hl
        · cases hl
      · cases hl
    case mp => cases hl
    case fn f cap =>
      split at hl
      · rename_i cs hm; cases hl
        cases hv; rename_i hv
        exact .fn (many hv hm)
      · cases hl
    case agg cap =>
      split at hl
      · rename_i cs hm; cases hl
        cases hv; rename_i hv
        exact .agg (many hv hm)
      · cases hl
    case tup cap =>
      split at hl
      · rename_i cs hm; cases hl
        cases hv; rename_i hv
        exact .tup (many hv hm)
      · cases hl
    case rp cs => cases hl; cases hv; rename_i hv; exact .rp hv
    case rs sz els => cases hl; cases hv; rename_i hv; exact .rs hv
    all_goals (cases hl; constructor)

def noF : Nat → Prop := fun _ => False

/-- what is lent is the value -/
theorem lend_ok (hR : Rel forb φ D base h w) : ∀ {k : Nat} {v : V} {u : V × List Nat} {c : Value}, lend h k v = some u → (∀ b ∈ u.2, D b) → VR forb w φ v c → VR noF w noPhi u.1 c
  | 0, v, u, c, hl, _, _ => by simp [lend] at hl
  | k + 1, v, u, c, hl, hD, hv => by
    cases v <;> simp only [lend] at hl
    case os b vv sz i n clip =>
      split at hl
      · rename_i x hx
        split at hl
        · rename_i hc
          split at hl
          · rename_i els hm; cases hl
            have hDb : D b := hD b (by simp)
            have hel : elems h (.os b vv sz i n clip) = some (sz, (x.els.drop i).take n, [b]) := by simp [elems, hx, hc]
            obtain ⟨A, cap', rfl, e2, e3, e4, e5⟩ := elems_ok hR hel hv (by simpa using hDb)
            have hlen := mapM?_length hm
            have key : ∀ (j : Nat) el (o : Nat) y, (els.map (·.map (·.1)))[j]? = some el → el[o]? = some y → ∃ y0 z u, lend h k y0 = some z ∧ z.1 = y ∧ (∀ b ∈ z.2, D b) ∧ y0.isCell = true ∧ w.cell? (A.add (j * sz + o)) = some u ∧ VR forb w φ y0 u := by
              intro j el o y hj ho
              rw [List.getElem?_map] at hj
              rcases hq : els[j]? with _ | el1
              · rw [hq] at hj; cases hj
              · rw [hq] at hj; cases hj
                rw [List.getElem?_map] at ho
                rcases hq2 : el1[o]? with _ | z
                · rw [hq2] at ho; cases ho
                · rw [hq2] at ho; cases ho
                  obtain ⟨el0, g1, g2⟩ := mapM?_get hm j el1 hq
                  obtain ⟨y0, g3, g4⟩ := mapM?_get g2 o z hq2
                  obtain ⟨g5, u, g6, g7⟩ := e5 j el0 o y0 g1 g3
                  refine ⟨y0, z, u, g4, rfl, fun b hb => hD b ?_, g5, g6, g7⟩
                  simp only [List.mem_cons, List.mem_flatMap]
                  exact .inr ⟨el1, List.mem_of_getElem? hq, z, List.mem_of_getElem? hq2, hb⟩
            have hlen2 : ((x.els.drop i).take n).length = (els.map (·.map (·.1))).length := by simp [hlen]
            rw [hlen2]
            refine .rs (fun el hel => ?_) (by rw [← hlen2]; exact e2) e3 (fun j el o y hj ho => ?_) (fun j el o y c hj ho hcell => ?_)
            · obtain ⟨el1, g1, rfl⟩ := List.mem_map.1 hel
              obtain ⟨el0, g2, g3⟩ := mapM?_mem hm g1
              rw [List.length_map, mapM?_length g3]; exact e4 el0 g2
            · obtain ⟨y0, z, u, g1, g2, g3, g4, g5, g6⟩ := key j el o y hj ho
              exact ⟨fun h => h, by rw [← g2, lend_cell g1]; exact g4, u, g5⟩
            · obtain ⟨y0, z, u, g1, g2, g3, g4, g5, g6⟩ := key j el o y hj ho
              rw [g5] at hcell; cases hcell
              rw [← g2]; exact lend_ok hR g1 g3 g6
          · cases hl
        · cases hl
      · cases hl
    case ptr b vv i o =>
      split at hl
      · rename_i x hx
        split at hl
        · rename_i el hel
          split at hl
          · rename_i cs hm; cases hl
            have hDb : D b := hD b (by simp)
            have hd : deref h (.ptr b vv i o) = some (el.drop o, [b]) := by simp [deref, hx, hel]
            obtain ⟨A, rfl, e2⟩ := deref_ok hR hd hv (by simpa using hDb)
            have key : ∀ (o' : Nat) y, (cs.map (·.1))[o']? = some y → ∃ y0 z u, lend h k y0 = some z ∧ z.1 = y ∧ (∀ b ∈ z.2, D b) ∧ y0.isCell = true ∧ w.cell? (A.add o') = some u ∧ VR forb w φ y0 u := by
              intro o' y ho
              rw [List.getElem?_map] at ho
              rcases hq2 : cs[o']? with _ | z
              · rw [hq2] at ho; cases ho
              · rw [hq2] at ho; cases ho
                obtain ⟨y0, g3, g4⟩ := mapM?_get hm o' z hq2
                obtain ⟨g5, u, g6, g7⟩ := e2 o' y0 g3
                refine ⟨y0, z, u, g4, rfl, fun b hb => hD b ?_, g5, g6, g7⟩
                simp only [List.mem_cons, List.mem_flatMap]
                exact .inr ⟨z, List.mem_of_getElem? hq2, hb⟩
            refine .rp (fun o' y ho => ?_) (fun o' y c ho hcell => ?_)
            · obtain ⟨y0, z, u, g1, g2, g3, g4, g5, g6⟩ := key o' y ho
              exact ⟨fun h => h, by rw [← g2, lend_cell g1]; exact g4, u, g5⟩
            · obtain ⟨y0, z, u, g1, g2, g3, g4, g5, g6⟩ := key o' y ho
              rw [g5] at hcell; cases hcell
              rw [← g2]; exact lend_ok hR g1 g3 g6
          · cases hl
        · cases hl
      · cases hl
    case mp => cases hl
    case fn f cap =>
      split at hl
      · rename_i cs hm; cases hl
        obtain ⟨caps, rfl, hlen, hc⟩ := hv.fn_inv
        refine .fn (by rw [hlen, List.length_map, mapM?_length hm]) fun i y c hy hcc => ?_
        rw [List.getElem?_map] at hy
        rcases hq : cs[i]? with _ | z
        · rw [hq] at hy; cases hy
        · rw [hq] at hy; cases hy
          obtain ⟨y0, g1, g2⟩ := mapM?_get hm i z hq
          exact lend_ok hR g2 (fun b hb => hD b (List.mem_flatMap.2 ⟨z, List.mem_of_getElem? hq, hb⟩)) (hc i y0 c g1 hcc)
      · cases hl
    case agg cap =>
      split at hl
      · rename_i cs hm; cases hl
        obtain ⟨caps, rfl, hlen, hcell, hc⟩ := hv.agg_inv
        refine .agg (by rw [hlen, List.length_map, mapM?_length hm]) (fun y hy => ?_) fun i y c hy hcc => ?_
        · obtain ⟨z, g1, rfl⟩ := List.mem_map.1 hy
          obtain ⟨y0, g2, g3⟩ := mapM?_mem hm g1
          rw [lend_cell g3]; exact hcell y0 g2
        rw [List.getElem?_map] at hy
        rcases hq : cs[i]? with _ | z
        · rw [hq] at hy; cases hy
        · rw [hq] at hy; cases hy
          obtain ⟨y0, g1, g2⟩ := mapM?_get hm i z hq
          exact lend_ok hR g2 (fun b hb => hD b (List.mem_flatMap.2 ⟨z, List.mem_of_getElem? hq, hb⟩)) (hc i y0 c g1 hcc)
      · cases hl
    case tup cap =>
      split at hl
      · rename_i cs hm; cases hl
        cases hv
        rename_i caps hlen hc
        refine .tup (by rw [hlen, List.length_map, mapM?_length hm]) fun i y c hy hcc => ?_
        rw [List.getElem?_map] at hy
        rcases hq : cs[i]? with _ | z
        · rw [hq] at hy; cases hy
        · rw [hq] at hy; cases hy
          obtain ⟨y0, g1, g2⟩ := mapM?_get hm i z hq
          exact lend_ok hR g2 (fun b hb => hD b (List.mem_flatMap.2 ⟨z, List.mem_of_getElem? hq, hb⟩)) (hc i y0 c g1 hcc)
      · cases hl
    case rp cs =>
      cases hl
      obtain ⟨a, rfl, q1, q2⟩ := hv.rp_inv
      exact .rp (fun o x ho => ⟨fun h => h, (q1 o x ho).2⟩) fun o x c ho hc => (q2 o x c ho hc).less (fun _ h => h.elim) fun _ _ _ h => h
    case rs sz els =>
      cases hl
      obtain ⟨a, cap, rfl, q1, q2, q3, q4, q5⟩ := hv.rs_inv
      exact .rs q1 q2 q3 (fun i el o x hi ho => ⟨fun h => h, (q4 i el o x hi ho).2⟩) fun i el o x c hi ho hc => (q5 i el o x c hi ho hc).less (fun _ h => h.elim) fun _ _ _ h => h
    all_goals (cases hl; cases hv; constructor)

theorem plain1_ok {v : V} {c : Value} (h : VR forb w φ v c) (hp : v.plain1 = true) {f2 : Nat → Prop} {w2 : World} {ψ : Phi} : VR f2 w2 ψ v c := by
  cases h <;> first | (cases hp; done) | constructor
theorem aggPlain_ok {cs : List V} {c : Value} (h : VR forb w φ (.agg cs) c) (hp : cs.all V.plain1 = true) {f2 : Nat → Prop} {w2 : World} {ψ : Phi} : VR f2 w2 ψ (.agg cs) c := by
  obtain ⟨vs, rfl, h1, h2, h3⟩ := h.agg_inv
  exact .agg h1 h2 fun i x c hx hc => plain1_ok (h3 i x c hx hc) (List.all_eq_true.1 hp x (List.mem_of_getElem? hx))
/-- a value that leads nowhere is itself in every world -/
theorem plain_ok {v : V} {c : Value} (h : VR forb w φ v c) (hp : v.plain = true) {f2 : Nat → Prop} {w2 : World} {ψ : Phi} : VR f2 w2 ψ v c := by
  unfold V.plain at hp
  split at hp
  · exact aggPlain_ok h hp
  · cases h
    rename_i vs h1 h2
    refine .tup h1 fun i x c hx hc => ?_
    have h4 := h2 i x c hx hc
    have h5 := List.all_eq_true.1 hp x (List.mem_of_getElem? hx)
    split at h5
    · exact aggPlain_ok h4 h5
    · exact plain1_ok h4 h5
  · exact plain1_ok h hp

/-- What is known of a call that is told without the heap. -/
def PureOk (P : Program) (G : Nat → Option V) (f : FuncId) (args : List V) (v : V) : Prop :=
  VB 0 v ∧ Enters P f ∧ ∀ forb φ base w cargs, VRs forb w φ args cargs → Rel forb φ (fun _ => True) base [] w → (∀ n v, G n = some v → VR forb w noPhi v (.pointer (some ⟨n, 0, none⟩))) →
    Calls P f ⟨cargs⟩ w (fun e w' => ∃ c, e = .returned c ∧ Post forb φ (fun _ => True) base [] w ⟨v, [], [], []⟩ c w')

structure EnvOk (P : Program) (E : Env) : Prop extends FnOk P E where
  memo : ∀ f args v, E.memo f args = some v → PureOk P E.G f args v

theorem hb_nil {n : Nat} : HB n [] := fun b x hb => by simp at hb

theorem body_pure {E : Env} (hC : CallOk P E.G C) (hL : LenOk C) (hV : VbOk C) (hE : FnOk P E) (hmix : P.follows .mixedOrders = true) {f : FuncId} {n : Nat} {args : List V} (ha : ∀ v ∈ args, VB 0 v) {x : Res} (hx : callBody E C n false args [] (E.fn f) = some x) : PureOk P E.G f args x.v := by
  rcases hm : E.fn f with _ | m
  · rw [hm] at hx; cases hx
  · rw [hm] at hx
    obtain ⟨l1, l2, l3⟩ := body_len hL hV hE hm hx
    obtain ⟨v1, v2⟩ := body_vb hL hV hE hm hx ha hb_nil
    obtain ⟨e, s, vs, r1, _, _, _, h4⟩ := callBody_some hx
    obtain ⟨u, h', h5, h6, hxe⟩ := callOut_frozen h4
    have hh : h' = [] := by
      have := (fzBlk_ok h6).1
      simp at this; exact this
    have hw : x.w = [] := by
      rcases hq : x.w with _ | ⟨b, l⟩
      · rfl
      · have := l2 b (by rw [hq]; simp); simp at this
    obtain ⟨p1, p2⟩ := body_ok hC hL hV hE hmix hm hx
    have hxh : x.h = [] := by rw [hxe]; exact hh
    refine ⟨by rw [hxh] at v1; exact v1, p1, fun forb φ base w cargs q1 q2 q3 => ?_⟩
    refine (p2 forb φ (fun _ => True) base w cargs ha hb_nil q1 q2 q3 (fun _ _ => trivial) (fun b v g1 g2 => by rw [hxh] at g2; simp at g2)).mono fun ed w' ⟨c, hc, forb', φ', k1, k2, k3, k4, k5, k6, k7, k8⟩ => ⟨c, hc, forb', φ', k1, ?_, k3, k4, ?_, ?_, ?_, Nat.le_refl _⟩
    · rw [hxh] at k2; exact k2
    · rw [hxh] at k5; exact k5
    · rw [hw] at k6; exact k6
    · rw [hw] at k7; exact k7

theorem rel_nil (hR : Rel forb φ D base h w) : Rel forb φ (fun _ => True) base [] w :=
  ⟨fun b x v l _ hb => by simp at hb, hR.low, hR.apart, hR.top, fun b x v l _ hb => by simp at hb, fun b es l _ hb => by simp at hb⟩
theorem rel_no (w : World) : Rel noF noPhi (fun _ => True) w.heap.size [] w :=
  ⟨fun b x v l _ hb => by simp at hb, (fun _ _ _ h => by cases h), (fun _ _ _ _ _ _ h => by cases h), Nat.le_refl _, fun b x v l _ hb => by simp at hb, fun b es l _ hb => by simp at hb⟩

theorem pureBody_ok {E : Env} (hC : CallOk P E.G C) (hL : LenOk C) (hV : VbOk C) (hE : EnvOk P E) (hmix : P.follows .mixedOrders = true) {n : Nat} {f : FuncId} {args : List V} (ha : ∀ v ∈ args, VB 0 v) {v : V} (hx : pureBody E C n f args = some v) : PureOk P E.G f args v := by
  unfold pureBody at hx
  split at hx
  · rename_i u hu; cases hx; exact hE.memo f args _ hu
  · split at hx
    · rename_i x hb; cases hx; exact body_pure hC hL hV hE.toFnOk hmix ha hb
    · cases hx

theorem callPure_some {p : List V → Option V} {as : Option (List (V × List Nat))} {x : Res} (hx : callPure p h as = some x) : ∃ l v, as = some l ∧ p (l.map (·.1)) = some v ∧ ((l.flatMap (·.2)).isEmpty = true ∨ v.plain = true) ∧ x = ⟨v, h, l.flatMap (·.2), []⟩ := by
  unfold callPure at hx
  split at hx
  · rename_i l
    split at hx
    · rename_i v hv
      simp only [cond_eq_ite] at hx
      split at hx
      · rename_i hc; cases hx; exact ⟨l, v, rfl, hv, by simpa using hc, rfl⟩
      · cases hx
    · cases hx
  · cases hx

theorem lent_vb {args : List V} {l : List (V × List Nat)} {N : Nat} (ha : ∀ v ∈ args, VB N v) (hh : HB N h) (hl : mapM? (lend h 100) args = some l) : ∀ v ∈ l.map (·.1), VB 0 v := by
  intro x hx
  obtain ⟨y, hy, rfl⟩ := List.mem_map.1 hx
  obtain ⟨z, h1, h2⟩ := mapM?_mem hl hy
  exact lend_vb (ha z h1) hh h2

theorem call_all {E : Env} (hE : EnvOk P E) (hmix : P.follows .mixedOrders = true) : ∀ n, CallOk P E.G (call E n) ∧ LenOk (call E n) ∧ VbOk (call E n)
  | 0 => ⟨fun f args h x hx => by simp [call] at hx, fun f args h x hx => by simp [call] at hx, fun f args h x hx => by simp [call] at hx⟩
  | n + 1 => by
    obtain ⟨hC, hL, hV⟩ := call_all hE hmix n
    have hcase : ∀ {f args h x}, call E (n + 1) f args h = some x → (∃ keep m, E.fn f = some m ∧ callBody E (call E n) n keep args h (some m) = some x) ∨ ∃ l v, mapM? (lend h 100) args = some l ∧ pureBody E (call E n) n f (l.map (·.1)) = some v ∧ ((l.flatMap (·.2)).isEmpty = true ∨ v.plain = true) ∧ x = ⟨v, h, l.flatMap (·.2), []⟩ := by
      intro f args h x hx
      simp only [call] at hx
      have body : ∀ keep, callBody E (call E n) n keep args h (E.fn f) = some x → ∃ keep m, E.fn f = some m ∧ callBody E (call E n) n keep args h (some m) = some x := by
        intro keep hb
        rcases hm : E.fn f with _ | m
        · rw [hm] at hb; cases hb
        · rw [hm] at hb; exact ⟨keep, m, rfl, hb⟩
      cases hmode : E.mode f <;> rw [hmode] at hx <;> simp only [callStep] at hx
      · exact .inl (body _ hx)
      · exact .inl (body _ hx)
      · exact .inr (callPure_some hx)
    refine ⟨fun f args h x hx => ?_, fun f args h x hx => ?_, fun f args h x hx ha hh => ?_⟩
    · rcases hcase hx with ⟨keep, m, hm, hb⟩ | ⟨l, v, h1, h2, h3, rfl⟩
      · exact body_ok hC hL hV hE.toFnOk hmix hm hb
      · have ent : Enters P f := by
          unfold pureBody at h2
          split at h2
          · rename_i u hu; exact (hE.memo f _ _ hu).2.1
          · split at h2
            · rename_i y hb
              rcases hm : E.fn f with _ | m
              · rw [hm] at hb; cases hb
              · rw [hm] at hb; exact (body_ok hC hL hV hE.toFnOk hmix hm hb).1
            · cases h2
        refine ⟨ent, fun forb φ D base w cargs ha hh hargs hR hglob hD hfree => ?_⟩
        obtain ⟨v0, _, hP⟩ := pureBody_ok hC hL hV hE hmix (lent_vb ha hh h1) h2
        by_cases he : l.flatMap (·.2) = []
        · have hn := flatMap_nil he
          have hsame : l.map (·.1) = args := map_fst_same h1 fun x hx y hy hya => (lend_none (ha x hx) hy (hn y hya)).1
          rw [hsame] at hP
          refine (hP forb φ base w cargs hargs (rel_nil hR) hglob).mono fun ed w' ⟨c, hc, forb', φ', k1, k2, k3, k4, k5, k6, k7, k8⟩ => ⟨c, hc, forb', φ, ?_, ⟨fun b x v l hb hx hx1 hx2 hl => ?_, fun b v l hl => k2.low b v l (k4 _ _ _ hl), fun b v l b' v' l' hl hl' => k2.apart _ _ _ _ _ _ (k4 _ _ _ hl) (k4 _ _ _ hl'), k2.top, fun b x v l hb hx hl => ?_, fun b es l hb hx hl => ?_⟩, k3, fun _ _ _ h => h, fun _ _ _ => rfl, fun b v l hl _ => k6 b v l hl (by simp), fun _ _ _ _ => rfl, Nat.le_refl _⟩
          · exact k1.less (fun _ h => h) fun b v l hl => by have := k5 b v (Nat.zero_le _); rw [this] at hl; exact hl
          · have hDb : D b := by
              rcases hb with hb | ⟨p1, p2⟩
              · exact hb
              · have : b < h.length := p2
                omega
            exact (hR.row b x v l hDb hx hx1 hx2 hl).ext k3 (fun _ _ _ h => h) (k6 b v l hl (by simp))
          · have hDb : D b := by
              rcases hb with hb | ⟨p1, p2⟩
              · exact hb
              · have : b < h.length := p2
                omega
            exact hR.new b x v l hDb hx hl
          · have hDb : D b := by
              rcases hb with hb | ⟨p1, p2⟩
              · exact hb
              · have : b < h.length := p2
                omega
            exact (hR.mp b es l hDb hx hl).congr (k6 b 0 l hl (by simp))
        · have hp : v.plain = true := h3.resolve_left (by simpa using he)
          have hargs2 : VRs noF w noPhi (l.map (·.1)) cargs := by
            refine ⟨by rw [hargs.1, List.length_map, mapM?_length h1], fun i y c hy hc => ?_⟩
            rw [List.getElem?_map] at hy
            rcases hq : l[i]? with _ | z
            · rw [hq] at hy; cases hy
            · rw [hq] at hy; cases hy
              obtain ⟨y0, g1, g2⟩ := mapM?_get h1 i z hq
              exact lend_ok hR g2 (fun b hb => hD b (.inl (List.mem_flatMap.2 ⟨z, List.mem_of_getElem? hq, hb⟩))) (hargs.2 i y0 c g1 hc)
          refine (hP noF noPhi w.heap.size w cargs hargs2 (rel_no w) (fun n v hv => (hglob n v hv).less (fun _ h => h.elim) (fun _ _ _ h => h))).mono fun ed w' ⟨c, hc, forb', φ', k1, k2, k3, k4, k5, k6, k7, k8⟩ => ?_
          have hkeep : ∀ cb, cb < w.heap.size → w'.heap[cb]? = w.heap[cb]? := fun cb hcb => k3.keep cb hcb (fun h => h)
          have hE2 : Ext forb forb w w' := ⟨fun _ h => .inl h, fun cb hcb _ => hkeep cb hcb, k3.shape, k3.size, k3.os, k3.tape, k3.output⟩
          refine ⟨c, hc, forb, φ, plain_ok k1 hp, ⟨fun b x v l hb hx hx1 hx2 hl => ?_, fun b v l hl => ?_, hR.apart, Nat.le_trans hR.top k3.size, fun b x v l hb hx hl => ?_, fun b es l hb hx hl => ?_⟩, hE2, fun _ _ _ h => h, fun _ _ _ => rfl, fun b v l hl _ => hkeep _ (hR.low b v l hl).2.1, fun _ _ _ _ => rfl, Nat.le_refl _⟩
          · have hDb : D b := by
              rcases hb with hb | ⟨p1, p2⟩
              · exact hb
              · have : b < h.length := p2
                omega
            exact (hR.row b x v l hDb hx hx1 hx2 hl).ext hE2 (fun _ _ _ h => h) (hkeep _ (hR.low b v l hl).2.1)
          · obtain ⟨p1, p2, p3⟩ := hR.low b v l hl
            exact ⟨p1, Nat.lt_of_lt_of_le p2 k3.size, p3⟩
          · have hDb : D b := by
              rcases hb with hb | ⟨p1, p2⟩
              · exact hb
              · have : b < h.length := p2
                omega
            exact hR.new b x v l hDb hx hl
          · have hDb : D b := by
              rcases hb with hb | ⟨p1, p2⟩
              · exact hb
              · have : b < h.length := p2
                omega
            exact (hR.mp b es l hDb hx hl).congr (hkeep _ (hR.low b 0 l hl).2.1)
    · rcases hcase hx with ⟨keep, m, hm, hb⟩ | ⟨l, v, h1, h2, h3, rfl⟩
      · exact body_len hL hV hE.toFnOk hm hb
      · exact ⟨Nat.le_refl _, by simp, fun _ _ _ => rfl⟩
    · rcases hcase hx with ⟨keep, m, hm, hb⟩ | ⟨l, v, h1, h2, h3, rfl⟩
      · exact body_vb hL hV hE.toFnOk hm hb ha hh
      · exact ⟨(pureBody_ok hC hL hV hE hmix (lent_vb ha hh h1) h2).1.up, hh⟩

/-- A closed run, told as a call that only reads. -/
theorem pure_of_call {E : Env} (hE : EnvOk P E) (hmix : P.follows .mixedOrders = true) {n : Nat} {f : FuncId} {args : List V} (ha : ∀ v ∈ args, VB 0 v) {v : V} (hx : pureBody E (call E n) n f args = some v) : PureOk P E.G f args v := by
  obtain ⟨hC, hL, hV⟩ := call_all hE hmix n
  exact pureBody_ok hC hL hV hE hmix ha hx

/-- A call that is handed nothing. -/
theorem PureOk.calls {f : FuncId} {v : V} (h : PureOk P (fun _ => none) f [] v) (w : World) : Calls P f #[] w (fun e w' => ∃ c, e = .returned c ∧ VR noF w' noPhi v c ∧ w.heap.size ≤ w'.heap.size ∧ (∀ b, b < w.heap.size → w'.heap[b]? = w.heap[b]?) ∧ w'.os = w.os ∧ w'.tape = w.tape ∧ w'.output = w.output) := by
  obtain ⟨_, _, hP⟩ := h
  refine (hP noF noPhi w.heap.size w [] ⟨rfl, by simp⟩ (rel_no w) (fun _ _ h => by cases h)).mono fun ed w' ⟨c, hc, forb', φ', k1, k2, k3, k4, k5, k6, k7, k8⟩ => ⟨c, hc, ?_, k3.size, fun b hb => k3.keep b hb (fun h => h), k3.os, k3.tape, k3.output⟩
  exact k1.less (fun _ h => h.elim) fun b v l hl => by rw [k5 b v (Nat.zero_le _)] at hl; exact hl
end Go.Mini
