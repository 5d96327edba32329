/- A part of the proof: MiniApp. No condition. -/
import Derived.Test.YtgknkkdemjjeoaaGreatDoorMiniOps9
import Derived.Laws.Append
set_option linter.all false
set_option maxRecDepth 100000
namespace Go.Mini
set_option linter.unusedVariables false
set_option linter.unusedSimpArgs false
variable {P : Program} {G : Nat → Option V} {forb : Nat → Prop} {φ : Phi} {w : World} {t : List V} {a : Act} {D : Nat → Prop} {base : Nat} {h : H} {o : Oper}

/-- a row's cells, one behind the other -/
def FR (forb : Nat → Prop) (w : World) (φ : Phi) (sz : Nat) (els : List (List V)) (us : List Value) : Prop :=
  us.length = els.length * sz ∧ (∀ el ∈ els, el.length = sz) ∧ ∀ (i : Nat) el (o : Nat) y, els[i]? = some el → el[o]? = some y → y.isCell = true ∧ ∃ u, us[i * sz + o]? = some u ∧ VR forb w φ y u

theorem FR.one {sz : Nat} {els : List (List V)} {us : List Value} (h : FR forb w φ sz els us) (hs : sz ≠ 0) : ∀ u ∈ us, u.oneCell' = true := by
  intro u hu
  obtain ⟨k, hk⟩ := List.getElem?_of_mem hu
  have hkl := (List.getElem?_eq_some_iff.1 hk).1
  rw [h.1] at hkl
  have hi : k / sz < els.length := by rw [Nat.div_lt_iff_lt_mul (by omega)]; exact hkl
  have hel := h.2.1 els[k / sz] (List.getElem_mem _)
  have ho : k % sz < els[k / sz].length := by rw [hel]; exact Nat.mod_lt _ (by omega)
  obtain ⟨h1, u', h2, h3⟩ := h.2.2 (k / sz) els[k / sz] (k % sz) els[k / sz][k % sz] (by simp [hi]) (by simp [ho])
  have e : k / sz * sz + k % sz = k := by rw [Nat.mul_comm]; exact Nat.div_add_mod k sz
  rw [e, hk] at h2
  cases h2
  exact h3.oneCell h1

theorem FR.ext {f f' : Nat → Prop} {w w' : World} (hE : Ext f f' w w') {φ ψ : Phi} {sz : Nat} {els : List (List V)} {us : List Value} (h : FR f w φ sz els us) (hψ : ∀ b v l, φ b v = some l → ψ b v = some l) : FR f' w' ψ sz els us :=
  ⟨h.1, h.2.1, fun i el o y hi ho => by obtain ⟨h1, u, h2, h3⟩ := h.2.2 i el o y hi ho; exact ⟨h1, u, h2, h3.ext hE ψ hψ⟩⟩

theorem fr_of_elr {sz : Nat} {els : List (List V)} {A : Addr} (hs : sz ≠ 0) (h : ElR forb w φ sz els A) : ∃ us, FR forb w φ sz els us ∧ ∀ (k : Nat) u, us[k]? = some u → w.cell? (A.add k) = some u := by
  have key : ∀ k, k < els.length * sz → ∃ u, w.cell? (A.add k) = some u := by
    intro k hk
    have hi : k / sz < els.length := by rw [Nat.div_lt_iff_lt_mul (by omega)]; exact hk
    have hel := h.1 els[k / sz] (List.getElem_mem _)
    have ho : k % sz < els[k / sz].length := by rw [hel]; exact Nat.mod_lt _ (by omega)
    obtain ⟨_, u, h2, _⟩ := h.2 (k / sz) els[k / sz] (k % sz) els[k / sz][k % sz] (by simp [hi]) (by simp [ho])
    have e : k / sz * sz + k % sz = k := by rw [Nat.mul_comm]; exact Nat.div_add_mod k sz
    rw [e] at h2
    exact ⟨u, h2⟩
  have hget : ∀ (k : Nat) u, ((List.range (els.length * sz)).map fun k => (w.cell? (A.add k)).getD undef)[k]? = some u → w.cell? (A.add k) = some u := by
    intro k u hu
    rw [List.getElem?_map] at hu
    rcases hk : (List.range (els.length * sz))[k]? with _ | j
    · rw [hk] at hu; cases hu
    · obtain ⟨hlt, rfl⟩ := List.getElem?_eq_some_iff.1 hk
      simp at hlt
      obtain ⟨u', h3⟩ := key k hlt
      rw [hk] at hu
      simp at hu
      rw [h3] at hu ⊢
      simpa using hu
  refine ⟨_, ⟨by simp, h.1, fun i el o y hi ho => ?_⟩, hget⟩
  obtain ⟨h1, u, h2, h3⟩ := h.2 i el o y hi ho
  refine ⟨h1, u, ?_, h3⟩
  have hil := (List.getElem?_eq_some_iff.1 hi).1
  have hol := (List.getElem?_eq_some_iff.1 ho).1
  have := h.1 el (List.mem_of_getElem? hi)
  have hlt : i * sz + o < els.length * sz := by
    have : (i + 1) * sz ≤ els.length * sz := Nat.mul_le_mul_right _ hil
    rw [Nat.add_mul] at this; omega
  rw [List.getElem?_map, List.getElem?_range hlt]
  simp [h2]

theorem run_first {sz n cap : Nat} {A : Addr} {us : List Value} (hl : us.length = n * sz) (hu : ∀ (k : Nat) u, us[k]? = some u → w.cell? (A.add k) = some u) : (Builtin.firstCells sz n (.slice (some A) n cap)).run P w = .ok us.toArray w := by
  have := run_loadCells_list (P := P) w A us hu
  rw [hl] at this
  exact this

/-- what is appended -/
theorem sources_ok (hR : Rel forb φ D base h w) {sz : Nat} (hs : sz ≠ 0) {v : V} {xs : List (List V)} {r : List Nat} {c : Value} (he : sources sz h v = some (xs, r)) (hv : VR forb w φ v c) (hr : ∀ b ∈ r, D b) :
    (Builtin.lenOf c).run P w = .ok xs.length w ∧ ∃ us, FR forb w φ sz xs us ∧ ∀ w' : World, (∀ cb : Nat, w'.heap[cb]? = w.heap[cb]?) → (Builtin.firstCells sz xs.length c).run P w' = .ok us.toArray w' := by
  unfold sources at he
  split at he
  · cases he; cases hv
    exact ⟨rfl, [], ⟨by simp, by simp, by simp⟩, fun _ _ => rfl⟩
  · rename_i b
    split at he
    · rename_i h1; subst h1
      cases he; cases hv
      have hsz : (⟨b.toArray⟩ : ByteArray).size = b.length := by show b.toArray.size = _; simp
      refine ⟨by simp [Builtin.lenOf, hsz], b.map fun c => .int .u8 c.toNat, ⟨by simp, by simp, fun i el o y hi ho => ?_⟩, fun w' _ => ?_⟩
      · rw [List.getElem?_map] at hi
        rcases hq : b[i]? with _ | q
        · rw [hq] at hi; cases hi
        · rw [hq] at hi; cases hi
          cases o with
          | zero => simp at ho; subst ho; exact ⟨rfl, .int .u8 q.toNat, by simp [List.getElem?_map, hq], .int⟩
          | succ o => simp at ho
      · have hex : (⟨b.toArray⟩ : ByteArray).extract 0 b.length = ⟨b.toArray⟩ := by rw [ByteArray.extract_mk]; simp
        simp [Builtin.firstCells, hex]
    · cases he
  · rename_i x _ _
    split at he
    · rename_i sz' els rr hq
      split at he
      · rename_i h1; subst h1
        cases he
        obtain ⟨A, cap, rfl, _, _, hel⟩ := elems_ok hR hq hv hr
        obtain ⟨us, h2, h3⟩ := fr_of_elr hs hel
        refine ⟨rfl, us, h2, fun w' hh => ?_⟩
        have h3' : ∀ (k : Nat) u, us[k]? = some u → w'.cell? (A.add k) = some u := fun k u hu => by
          rw [cell_congr (hh _)]; exact h3 k u hu
        exact run_first h2.1 h3'
      · cases he
    · cases he

/-- An append that must make a new row: n elements are there, m come. -/
theorem run_grows {ty ty' el T : TypeId} {inf : TypeInfo} {z : Value} {d : TypeDesc} (hu : P.underlying ty = some (.slice el)) (hu' : P.underlying ty' = some d) (hni : ∀ k, d ≠ .int k) (hi : P.info? el = some inf) (hz : inf.zero = some z) (hs0 : inf.size ≠ 0) (hb0 : inf.bytes ≠ 0) (hzs : z.cells.size = inf.size)
    {A : Option Addr} {n m cap : Nat} {x : Value} {os us : List Value} (hol : os.length = n * inf.size) (hul : us.length = m * inf.size) (hn : n ≤ cap) (hcap : cap ≤ 9223372036854775807) (hneed : ¬ n + m ≤ cap) (hbytes : (n + m) * inf.bytes ≤ 140737488355328)
    (hlen : (Builtin.lenOf x).run P w = .ok m w)
    (hold : ∀ w' : World, (∀ cb : Nat, w'.heap[cb]? = w.heap[cb]?) → (Builtin.firstCells inf.size n (.slice A n cap)).run P w' = .ok os.toArray w')
    (hnew : ∀ w' : World, (∀ cb : Nat, w'.heap[cb]? = w.heap[cb]?) → (Builtin.firstCells inf.size m x).run P w' = .ok us.toArray w') :
    ∃ cap' cells, (Builtin.append_ #[ty, ty'] T #[.slice A n cap, x]).run P w = .ok (.slice (some ⟨w.heap.size, 0, none⟩) (n + m) cap') (grow { w with drawn := w.drawn + 1 } (.cells cells el (0, 0))) ∧ n + m ≤ cap' ∧ cap' ≤ 9223372036854775807 ∧ cells.size = cap' * inf.size ∧ ∀ k, k < (n + m) * inf.size → cells[k]? = (os ++ us)[k]? := by
  have hb1 : n + m ≤ 140737488355328 := Nat.le_trans (Nat.le_mul_of_pos_right _ (by omega)) hbytes
  generalize hc' : n + m + w.tape w.drawn (.appendCap (n + m) cap el) % (2 ^ 63 - (n + m)) = cap'
  have hc1 : n + m ≤ cap' := by omega
  have hc2 : cap' ≤ 9223372036854775807 := by
    have := Nat.mod_lt (w.tape w.drawn (.appendCap (n + m) cap el)) (show 0 < 2 ^ 63 - (n + m) by omega)
    omega
  have hfit := growslice_fits (need := n + m) (old := cap) (bytes := inf.bytes) (by omega) hbytes
  have hch : (choose (.appendCap (n + m) cap el)).run P w = .ok cap' { w with drawn := w.drawn + 1 } := by rw [← hc']; rfl
  have hask : ∀ b, ∀ w' : World, (askRoom b).run P w' = .ok () w' := by
    intro b w'; unfold askRoom; split <;> rfl
  have hzero : ∀ w' : World, (zeroValue el).run P w' = .ok z w' := fun w' => by simp [zeroValue, typeInfo, hi, hz]
  have hti : ∀ w' : World, (typeInfo el).run P w' = .ok inf w' := fun w' => by simp [typeInfo, hi]
  have hsz : ∀ w' : World, (sizeOf el).run P w' = .ok inf.size w' := fun w' => by simp [sizeOf, hti]
  have hund : ∀ w' : World, (underlying ty').run P w' = .ok d w' := fun w' => run_underlying hu' w'
  refine ⟨cap', os.toArray ++ us.toArray ++ Builtin.zeroCells z.cells (cap' - (n + m)), ?_, hc1, hc2, ?_, fun k hk => ?_⟩
  · have hd : (match d with | .int _ => true | _ => false) = false := by cases d <;> first | rfl | exact (hni _ rfl).elim
    unfold Builtin.append_
    simp only [List.getElem?_toArray, List.getElem?_cons_zero, List.getElem?_cons_succ, Sem.run_bind, run_underlying hu, Result.andThen_ok, hsz, hund, hd, Bool.false_eq_true, if_false, hlen, Sem.run_ite, hneed, hti, hask, hzero, hch, Sem.run_pure]
    have c1 : ¬ (((n + m : Nat) : Int) > IntKind.i64.max ∧ (False ∨ inf.bytes = 0)) := by simp [hb0]
    have c2 : ¬ (Builtin.nextslicecap (n + m) cap * inf.bytes > 2 ^ 48) := by omega
    rw [if_neg c1, if_neg c2, hold { w with drawn := w.drawn + 1 } (fun _ => rfl)]
    simp only [Result.andThen_ok, Bool.not_false, if_true]
    rw [hnew { w with drawn := w.drawn + 1 } (fun _ => rfl)]
    simp only [Go.newRow, newObj, Sem.run_bind, Sem.run, Result.andThen_ok, Sem.run_pure]
  · simp [Builtin.zeroCells, hol, hul, hzs, ← Nat.add_mul, show n + m + (cap' - (n + m)) = cap' by omega]
  · have : k < (os ++ us).length := by simp [hol, hul, ← Nat.add_mul]; exact hk
    rw [Array.getElem?_append_left (by simpa using this)]
    simp

/-- An append in place. -/
theorem run_inplace {ty ty' el T : TypeId} {inf : TypeInfo} {d : TypeDesc} (hu : P.underlying ty = some (.slice el)) (hu' : P.underlying ty' = some d) (hni : ∀ k, d ≠ .int k) (hi : P.info? el = some inf)
    {A : Option Addr} {n m cap : Nat} {x : Value} {us : List Value} (hneed : n + m ≤ cap) {w' : World}
    (hlen : (Builtin.lenOf x).run P w = .ok m w) (hnew : (Builtin.firstCells inf.size m x).run P w = .ok us.toArray w)
    (hst : ∀ a, A = some a → (storeCells (a.add (n * inf.size)) us).run P w = .ok () w') (hno : A = none → w' = w) :
    (Builtin.append_ #[ty, ty'] T #[.slice A n cap, x]).run P w = .ok (.slice A (n + m) cap) w' := by
  have hsz : ∀ w' : World, (sizeOf el).run P w' = .ok inf.size w' := fun w' => by simp [sizeOf, typeInfo, hi]
  have hd : (match d with | .int _ => true | _ => false) = false := by cases d <;> first | rfl | exact (hni _ rfl).elim
  unfold Builtin.append_
  simp only [List.getElem?_toArray, List.getElem?_cons_zero, List.getElem?_cons_succ, Sem.run_bind, run_underlying hu, run_underlying hu', Result.andThen_ok, hsz, hd, Bool.false_eq_true, if_false, hlen, Sem.run_ite, hneed, if_true, Sem.run_pure, Bool.not_false, hnew]
  cases A with
  | none => obtain rfl := hno rfl; simp [Sem.run_pure]
  | some a => simp [Sem.run_bind, hst a rfl, Sem.run_pure]

theorem call_append {c : Call} {ty ty' : TypeId} {s x : Operand} (ho : o.op = .call c) (hc : c.callee = .builtin .append) (hts : c.argTypes.toList = [ty, ty']) (has : c.args.toList = [s, x]) :
    (execOp a.eval o).run P w = ((Builtin.append_ #[ty, ty'] o.type #[a.eval s, a.eval x]).run P w).andThen fun v w' => .ok (.value v) w' := by
  have hts' : c.argTypes = #[ty, ty'] := by rw [← Array.toArray_toList (xs := c.argTypes), hts]
  have has' : c.args = #[s, x] := by rw [← Array.toArray_toList (xs := c.args), has]
  unfold execOp; rw [ho]
  simp [resolve, hc, has', hts', invoke, builtin]

/-- A row that grew: a new version of block b lies in a new block. -/
theorem post_grown (hR : Rel forb φ D base h w) {b : Nat} {x x' : Row} {l' : Loc} {v : V} {c : Value} {r : List Nat} {cells : Array Value} {ty : TypeId} {wd : Nat}
    (hx : h[b]? = some (.row x)) (hb : D b) (hcur : x'.cur = x.cur + 1) (hl' : l'.cb = w.heap.size)
    (hrow : ∀ forb' w', Ext forb forb' w w' → w'.heap[w.heap.size]? = some (.cells cells ty (0, 0)) → RowOk forb' (upd φ b (x.cur + 1) l') w' x' (x.cur + 1) l')
    (hold : ∀ forb' w', Ext forb forb' w w' → (∀ cb, cb < w.heap.size → w'.heap[cb]? = w.heap[cb]?) → ∀ v l, x'.rd ≤ v → v ≤ x.cur → φ b v = some l → RowOk forb' (upd φ b (x.cur + 1) l') w' x' v l)
    (hv : ∀ forb' w', w'.heap[w.heap.size]? = some (.cells cells ty (0, 0)) → VR forb' w' (upd φ b (x.cur + 1) l') v c) :
    Post forb φ D base h w ⟨v, h.set b (.row x'), r, [b]⟩ c (grow { w with drawn := wd } (.cells cells ty (0, 0))) := by
  have hE : Ext forb (fun cb => forb cb ∨ cb = w.heap.size) w (grow { w with drawn := wd } (.cells cells ty (0, 0))) := (Ext.drew forb w wd).trans (ext_grow forb { w with drawn := wd } _)
  have hnone : ∀ v', φ b (x.cur + 1) = some v' → False := fun v' hv' => by have := hR.new b x _ _ hb hx hv'; omega
  have hm := upd_mono (φ := φ) (b := b) (v := x.cur + 1) (l := l') hnone
  have hg : ∀ cb, cb < w.heap.size → (grow { w with drawn := wd } (.cells cells ty (0, 0))).heap[cb]? = w.heap[cb]? := fun cb hcb => heap_grow (w := { w with drawn := wd }) hcb
  have hgn : (grow { w with drawn := wd } (.cells cells ty (0, 0))).heap[w.heap.size]? = some (.cells cells ty (0, 0)) := heap_grow_new { w with drawn := wd } _
  have hbl : b < h.length := (List.getElem?_eq_some_iff.1 hx).1
  have hother : ∀ b' v', b' ≠ b → upd φ b (x.cur + 1) l' b' v' = φ b' v' := fun b' v' e => by unfold upd; rw [if_neg]; rintro ⟨h1, _⟩; exact e h1
  have hin : ∀ v' l'', upd φ b (x.cur + 1) l' b v' = some l'' → (v' = x.cur + 1 ∧ l'' = l') ∨ φ b v' = some l'' := by
    intro v' l'' h1
    unfold upd at h1
    split at h1
    · rename_i e; cases h1; exact .inl ⟨e.2, rfl⟩
    · exact .inr h1
  refine ⟨fun cb => forb cb ∨ cb = w.heap.size, upd φ b (x.cur + 1) l', hv _ _ hgn, ⟨fun b' y v' l'' hb' hy h1 h2 hl'' => ?_, fun b' v' l'' hl'' => ?_, fun b1 v1 l1 b2 v2 l2 hl1 hl2 e => ?_, Nat.le_trans hR.top hE.size, fun b' y v' l'' hb' hy hl'' => ?_⟩, hE, hm, fun b' v' hb' => ?_, fun b' v' l'' hl'' _ => hg _ (hR.low _ _ _ hl'').2.1, fun b' v' hlt hne => ?_, by simp⟩
  · by_cases e : b' = b
    · subst e
      rw [List.getElem?_set_self hbl] at hy
      cases hy
      rcases hin v' l'' hl'' with ⟨rfl, rfl⟩ | h3
      · exact hrow _ _ hE hgn
      · exact hold _ _ hE hg v' l'' h1 (hR.new _ _ _ _ hb hx h3) h3
    · rw [List.getElem?_set_ne (Ne.symm e)] at hy
      rw [hother b' v' e] at hl''
      have hD : D b' := by
        rcases hb' with hb' | ⟨h3, h4⟩
        · exact hb'
        · simp at h4; omega
      exact (hR.row b' y v' l'' hD hy h1 h2 hl'').ext hE hm (hg _ (hR.low _ _ _ hl'').2.1)
  · have hbig : (grow { w with drawn := wd } (.cells cells ty (0, 0))).heap.size = w.heap.size + 1 := by simp [grow]
    by_cases e : b' = b
    · subst e
      rcases hin v' l'' hl'' with ⟨rfl, rfl⟩ | h3
      · exact ⟨by rw [hl']; exact hR.top, by rw [hbig]; omega, .inr hl'⟩
      · have := hR.low _ _ _ h3; exact ⟨this.1, by rw [hbig]; omega, .inl this.2.2⟩
    · rw [hother b' v' e] at hl''
      have := hR.low _ _ _ hl''; exact ⟨this.1, by rw [hbig]; omega, .inl this.2.2⟩
  · have norm : ∀ b' v' l'', upd φ b (x.cur + 1) l' b' v' = some l'' → (b' = b ∧ l'' = l') ∨ (φ b' v' = some l'') := by
      intro b' v' l'' h1
      by_cases e : b' = b
      · subst e
        rcases hin v' l'' h1 with ⟨_, h2⟩ | h2
        · exact .inl ⟨rfl, h2⟩
        · exact .inr h2
      · rw [hother b' v' e] at h1; exact .inr h1
    rcases norm _ _ _ hl1 with ⟨rfl, rfl⟩ | h1 <;> rcases norm _ _ _ hl2 with ⟨rfl, rfl⟩ | h2
    · exact ⟨rfl, rfl, rfl, rfl⟩
    · have := (hR.low _ _ _ h2).2.1; omega
    · have := (hR.low _ _ _ h1).2.1; omega
    · exact hR.apart _ _ _ _ _ _ h1 h2 e
  · by_cases e : b' = b
    · subst e
      rw [List.getElem?_set_self hbl] at hy
      cases hy
      rcases hin v' l'' hl'' with ⟨rfl, _⟩ | h3
      · omega
      · have := hR.new _ _ _ _ hb hx h3; omega
    · rw [List.getElem?_set_ne (Ne.symm e)] at hy
      rw [hother b' v' e] at hl''
      have hD : D b' := by
        rcases hb' with hb' | ⟨h3, h4⟩
        · exact hb'
        · simp at h4; omega
      exact hR.new _ _ _ _ hD hy hl''
  · simp at hb'; exact hother b' v' (by omega)
  · simp at hne; exact hother b' v' hne
end Go.Mini
