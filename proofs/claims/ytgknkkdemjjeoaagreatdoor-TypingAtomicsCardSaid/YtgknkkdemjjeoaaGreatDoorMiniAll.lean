/- A part of the proof: MiniAll. No condition. -/
import Derived.Test.YtgknkkdemjjeoaaGreatDoorMiniBody
set_option linter.all false
set_option maxRecDepth 100000
namespace Go.Mini
set_option linter.unusedVariables false
set_option linter.unusedSimpArgs false
variable {P : Program} {G : Nat → Option V} {forb forb2 : Nat → Prop} {φ ψ : Phi} {w : World} {D : Nat → Prop} {base n0 : Nat} {h : H} {t : List V} {a : Act} {C : FuncId → List V → H → Option Res}

theorem flatMap_nil {α β : Type} {f : α → List β} {l : List α} (h : l.flatMap f = []) : ∀ x ∈ l, f x = [] := by
  intro x hx
  exact List.flatMap_eq_nil_iff.1 h x hx
theorem map_fst_same {l : List V} {as : List (V × List Nat)} {f : V → Option (V × List Nat)} (hm : mapM? f l = some as) (h : ∀ x ∈ l, ∀ y, f x = some y → y ∈ as → y.1 = x) : as.map (·.1) = l := by
  apply List.ext_getElem?
  intro i
  rw [List.getElem?_map]
  rcases hq : as[i]? with _ | y
  · have h1 := List.getElem?_eq_none_iff.1 hq
    have h2 := mapM?_length hm
    rw [List.getElem?_eq_none (by omega)]; rfl
  · obtain ⟨x, h1, h2⟩ := mapM?_get hm i y hq
    rw [h1]; simp [h x (List.mem_of_getElem? h1) y h2 (List.mem_of_getElem? hq)]

/-- nothing lent: the value itself, and it leads nowhere -/
theorem lend_none : ∀ {k : Nat} {v : V} {u : V × List Nat} {N : Nat}, VB N v → lend h k v = some u → u.2 = [] → u.1 = v ∧ VB 0 v
  | 0, v, u, N, _, hl, _ => by simp [lend] at hl
  | k + 1, v, u, N, hv, hl, hr => by
    have many : ∀ {l : List V} {as : List (V × List Nat)}, (∀ x ∈ l, VB N x) → mapM? (lend h k) l = some as → as.flatMap (·.2) = [] → as.map (·.1) = l ∧ ∀ x ∈ l, VB 0 x := by
      intro l as hl hm hn
      have hn' := flatMap_nil hn
      refine ⟨map_fst_same hm fun x hx y hy hya => (lend_none (hl x hx) hy (hn' y hya)).1, fun x hx => ?_⟩
      obtain ⟨i, hi⟩ := List.getElem?_of_mem hx
      obtain ⟨y, h1, h2⟩ := mapM?_get' hm hi
      exact (lend_none (hl x hx) h2 (hn' y (List.mem_of_getElem? h1))).2
    cases v <;> simp only [lend] at hl
    case os =>
      repeat' split at hl
      all_goals first
        | (cases hl; done)
        | (cases hl; simp at hr)
    case ptr =>
      repeat' split at hl
      all_goals first
        | (cases hl; done)
        | (cases hl; simp at hr)
    case mp => cases hl
    case fn f cap =>
      split at hl
      · rename_i cs hm; cases hl
        cases hv; rename_i hv
        obtain ⟨h1, h2⟩ := many hv hm hr
        exact ⟨by simp [h1], .fn h2⟩
      · cases hl
    case agg cap =>
      split at hl
      · rename_i cs hm; cases hl
        cases hv; rename_i hv
        obtain ⟨h1, h2⟩ := many hv hm hr
        exact ⟨by simp [h1], .agg h2⟩
      · cases hl
    case tup cap =>
      split at hl
      · rename_i cs hm; cases hl
        cases hv; rename_i hv
        obtain ⟨h1, h2⟩ := many hv hm hr
        exact ⟨by simp [h1], .tup h2⟩
      · cases hl
    case rp cs => cases hl; cases hv; rename_i hv; exact ⟨rfl, .rp hv⟩
    case rs sz els => cases hl; cases hv; rename_i hv; exact ⟨rfl, .rs hv⟩
    all_goals (cases hl; exact ⟨rfl, by constructor⟩)

theorem lend_cell : ∀ {k : Nat} {v : V} {u : V × List Nat}, lend h k v = some u → u.1.isCell = v.isCell
  | 0, v, u, hl => by simp [lend] at hl
  | k + 1, v, u, hl => by
    cases v <;> simp only [lend] at hl
    all_goals
      repeat' split at hl
      all_goals first
        | (cases hl; done)
        | (cases hl; rfl)

/-- what is lent leads nowhere -/
theorem lend_vb : ∀ {k : Nat} {v : V} {u : V × List Nat} {N : Nat}, VB N v → HB N h → lend h k v = some u → VB 0 u.1
  | 0, v, u, N, _, _, hl => by simp [lend] at hl
  | k + 1, v, u, N, hv, hh, hl => by
    have many : ∀ {l : List V} {as : List (V × List Nat)}, (∀ x ∈ l, VB N x) → mapM? (lend h k) l = some as → ∀ x ∈ as.map (·.1), VB 0 x := by
      intro l as hl hm x hx
      obtain ⟨y, hy, rfl⟩ := List.mem_map.1 hx
      obtain ⟨z, h1, h2⟩ := mapM?_mem hm hy
      exact lend_vb (hl z h1) hh h2
    cases v <;> simp only [lend] at hl
    case os b vv sz i n clip =>
      split at hl
      · rename_i x hx
        split at hl
        · split at hl
          · rename_i els hm; cases hl
            refine .rs fun el hel => ?_
            obtain ⟨el0, g1, rfl⟩ := List.mem_map.1 hel
            obtain ⟨el1, g2, g3⟩ := mapM?_mem hm g1
            exact many (rowAt_vb hh hx el1 (List.mem_of_mem_drop (List.mem_of_mem_take g2))) g3
          · cases hl
        · cases hl
      · cases hl
    case ptr b vv i o =>
      split at hl
      · rename_i x hx
        split at hl
        · rename_i el hel
          split at hl
          · rename_i cs hm; cases hl
            exact .rp (many (fun y hy => rowAt_vb hh hx el (List.mem_of_getElem? hel) y (List.mem_of_mem_drop hy)) hm)
          · cases hl
        · cases hl
      · cases hl
    case mp => cases hl
    case fn f cap =>
      split at hl
      · rename_i cs hm; cases hl
        cases hv; rename_i hv
        exact .fn (many hv hm)
      · cases hl
    case agg cap =>
      split at hl
      · rename_i cs hm; cases hl
        cases hv; rename_i hv
        exact .agg (many hv hm)
      · cases hl
    case tup cap =>
      split at hl
      · rename_i cs hm; cases hl
        cases hv; rename_i hv
        exact .tup (many hv hm)
      · cases hl
    case rp cs => cases hl; cases hv; rename_i hv; exact .rp hv
    case rs sz els => cases hl; cases hv; rename_i hv; exact .rs hv
    all_goals (cases hl; constructor)

def noF : Nat → Prop := fun _ => False

/-- what is lent is the value -/
theorem lend_ok (hR : Rel forb φ D base h w) : ∀ {k : Nat} {v : V} {u : V × List Nat} {c : Value}, lend h k v = some u → (∀ b ∈ u.2, D b) → VR forb w φ v c → VR noF w noPhi u.1 c
  | 0, v, u, c, hl, _, _ => by simp [lend] at hl
  | k + 1, v, u, c, hl, hD, hv => by
    cases v <;> simp only [lend] at hl
    case os b vv sz i n clip =>
      split at hl
      · rename_i x hx
        split at hl
        · rename_i hc
          split at hl
          · rename_i els hm; cases hl
            have hDb : D b := hD b (by simp)
            have hel : elems h (.os b vv sz i n clip) = some (sz, (x.els.drop i).take n, [b]) := by simp [elems, hx, hc]
            obtain ⟨A, cap', rfl, e2, e3, e4, e5⟩ := elems_ok hR hel hv (by simpa using hDb)
            have hlen := mapM?_length hm
            have key : ∀ (j : Nat) el (o : Nat) y, (els.map (·.map (·.1)))[j]? = some el → el[o]? = some y → ∃ y0 z u, lend h k y0 = some z ∧ z.1 = y ∧ (∀ b ∈ z.2, D b) ∧ y0.isCell = true ∧ w.cell? (A.add (j * sz + o)) = some u ∧ VR forb w φ y0 u := by
              intro j el o y hj ho
              rw [List.getElem?_map] at hj
              rcases hq : els[j]? with _ | el1
              · rw [hq] at hj; cases hj
              · rw [hq] at hj; cases hj
                rw [List.getElem?_map] at ho
                rcases hq2 : el1[o]? with _ | z
                · rw [hq2] at ho; cases ho
                · rw [hq2] at ho; cases ho
                  obtain ⟨el0, g1, g2⟩ := mapM?_get hm j el1 hq
                  obtain ⟨y0, g3, g4⟩ := mapM?_get g2 o z hq2
                  obtain ⟨g5, u, g6, g7⟩ := e5 j el0 o y0 g1 g3
                  refine ⟨y0, z, u, g4, rfl, fun b hb => hD b ?_, g5, g6, g7⟩
                  simp only [List.mem_cons, List.mem_flatMap]
                  exact .inr ⟨el1, List.mem_of_getElem? hq, z, List.mem_of_getElem? hq2, hb⟩
            have hlen2 : ((x.els.drop i).take n).length = (els.map (·.map (·.1))).length := by simp [hlen]
            rw [hlen2]
            refine .rs (fun el hel => ?_) (by rw [← hlen2]; exact e2) e3 (fun j el o y hj ho => ?_) (fun j el o y c hj ho hcell => ?_)
            · obtain ⟨el1, g1, rfl⟩ := List.mem_map.1 hel
              obtain ⟨el0, g2, g3⟩ := mapM?_mem hm g1
              rw [List.length_map, mapM?_length g3]; exact e4 el0 g2
            · obtain ⟨y0, z, u, g1, g2, g3, g4, g5, g6⟩ := key j el o y hj ho
              exact ⟨fun h => h, by rw [← g2, lend_cell g1]; exact g4, u, g5⟩
            · obtain ⟨y0, z, u, g1, g2, g3, g4, g5, g6⟩ := key j el o y hj ho
              rw [g5] at hcell; cases hcell
              rw [← g2]; exact lend_ok hR g1 g3 g6
          · cases hl
        · cases hl
      · cases hl
    case ptr b vv i o =>
      split at hl
      · rename_i x hx
        split at hl
        · rename_i el hel
          split at hl
          · rename_i cs hm; cases hl
            have hDb : D b := hD b (by simp)
            have hd : deref h (.ptr b vv i o) = some (el.drop o, [b]) := by simp [deref, hx, hel]
            obtain ⟨A, rfl, e2⟩ := deref_ok hR hd hv (by simpa using hDb)
            have key : ∀ (o' : Nat) y, (cs.map (·.1))[o']? = some y → ∃ y0 z u, lend h k y0 = some z ∧ z.1 = y ∧ (∀ b ∈ z.2, D b) ∧ y0.isCell = true ∧ w.cell? (A.add o') = some u ∧ VR forb w φ y0 u := by
              intro o' y ho
              rw [List.getElem?_map] at ho
              rcases hq2 : cs[o']? with _ | z
              · rw [hq2] at ho; cases ho
              · rw [hq2] at ho; cases ho
                obtain ⟨y0, g3, g4⟩ := mapM?_get hm o' z hq2
                obtain ⟨g5, u, g6, g7⟩ := e2 o' y0 g3
                refine ⟨y0, z, u, g4, rfl, fun b hb => hD b ?_, g5, g6, g7⟩
                simp only [List.mem_cons, List.mem_flatMap]
                exact .inr ⟨z, List.mem_of_getElem? hq2, hb⟩
            refine .rp (fun o' y ho => ?_) (fun o' y c ho hcell => ?_)
            · obtain ⟨y0, z, u, g1, g2, g3, g4, g5, g6⟩ := key o' y ho
              exact ⟨fun h => h, by rw [← g2, lend_cell g1]; exact g4, u, g5⟩
            · obtain ⟨y0, z, u, g1, g2, g3, g4, g5, g6⟩ := key o' y ho
              rw [g5] at hcell; cases hcell
              rw [← g2]; exact lend_ok hR g1 g3 g6
          · cases hl
        · cases hl
      · cases hl
    case mp => cases hl
    case fn f cap =>
      split at hl
      · rename_i cs hm; cases hl
        obtain ⟨caps, rfl, hlen, hc⟩ := hv.fn_inv
        refine .fn (by rw [hlen, List.length_map, mapM?_length hm]) fun i y c hy hcc => ?_
        rw [List.getElem?_map] at hy
        rcases hq : cs[i]? with _ | z
        · rw [hq] at hy; cases hy
        · rw [hq] at hy; cases hy
          obtain ⟨y0, g1, g2⟩ := mapM?_get hm i z hq
          exact lend_ok hR g2 (fun b hb => hD b (List.mem_flatMap.2 ⟨z, List.mem_of_getElem? hq, hb⟩)) (hc i y0 c g1 hcc)
      · cases hl
    case agg cap =>
      split at hl
      · rename_i cs hm; cases hl
        obtain ⟨caps, rfl, hlen, hcell, hc⟩ := hv.agg_inv
        refine .agg (by rw [hlen, List.length_map, mapM?_length hm]) (fun y hy => ?_) fun i y c hy hcc => ?_
        · obtain ⟨z, g1, rfl⟩ := List.mem_map.1 hy
          obtain ⟨y0, g2, g3⟩ := mapM?_mem hm g1
          rw [lend_cell g3]; exact hcell y0 g2
        rw [List.getElem?_map] at hy
        rcases hq : cs[i]? with _ | z
        · rw [hq] at hy; cases hy
        · rw [hq] at hy; cases hy
          obtain ⟨y0, g1, g2⟩ := mapM?_get hm i z hq
          exact lend_ok hR g2 (fun b hb => hD b (List.mem_flatMap.2 ⟨z, List.mem_of_getElem? hq, hb⟩)) (hc i y0 c g1 hcc)
      · cases hl
    case tup cap =>
      split at hl
      · rename_i cs hm; cases hl
        cases hv
        rename_i caps hlen hc
        refine .tup (by rw [hlen, List.length_map, mapM?_length hm]) fun i y c hy hcc => ?_
        rw [List.getElem?_map] at hy
        rcases hq : cs[i]? with _ | z
        · rw [hq] at hy; cases hy
        · rw [hq] at hy; cases hy
          obtain ⟨y0, g1, g2⟩ := mapM?_get hm i z hq
          exact lend_ok hR g2 (fun b hb => hD b (List.mem_flatMap.2 ⟨z, List.mem_of_getElem? hq, hb⟩)) (hc i y0 c g1 hcc)
      · cases hl
    case rp cs =>
      cases hl
      obtain ⟨a, rfl, q1, q2⟩ := hv.rp_inv
      exact .rp (fun o x ho => ⟨fun h => h, (q1 o x ho).2⟩) fun o x c ho hc => (q2 o x c ho hc).less (fun _ h => h.elim) fun _ _ _ h => h
    case rs sz els =>
      cases hl
      obtain ⟨a, cap, rfl, q1, q2, q3, q4, q5⟩ := hv.rs_inv
      exact .rs q1 q2 q3 (fun i el o x hi ho => ⟨fun h => h, (q4 i el o x hi ho).2⟩) fun i el o x c hi ho hc => (q5 i el o x c hi ho hc).less (fun _ h => h.elim) fun _ _ _ h => h
    all_goals (cases hl; cases hv; constructor)

theorem plain1_ok {v : V} {c : Value} (h : VR forb w φ v c) (hp : v.plain1 = true) {f2 : Nat → Prop} {w2 : World} {ψ : Phi} : VR f2 w2 ψ v c := by
  cases h <;> first | (cases hp; done) | constructor
theorem aggPlain_ok {cs : List V} {c : Value} (h : VR forb w φ (.agg cs) c) (hp : cs.all V.plain1 = true) {f2 : Nat → Prop} {w2 : World} {ψ : Phi} : VR f2 w2 ψ (.agg cs) c := by
  obtain ⟨vs, rfl, h1, h2, h3⟩ := h.agg_inv
  exact .agg h1 h2 fun i x c hx hc => plain1_ok (h3 i x c hx hc) (List.all_eq_true.1 hp x (List.mem_of_getElem? hx))
/-- a value that leads nowhere is itself in every world -/
theorem plain_ok {v : V} {c : Value} (h : VR forb w φ v c) (hp : v.plain = true) {f2 : Nat → Prop} {w2 : World} {ψ : Phi} : VR f2 w2 ψ v c := by
  unfold V.plain at hp
  split at hp
  · exact aggPlain_ok h hp
  · cases h
    rename_i vs h1 h2
    refine .tup h1 fun i x c hx hc => ?_
    have h4 := h2 i x c hx hc
    have h5 := List.all_eq_true.1 hp x (List.mem_of_getElem? hx)
    split at h5
    · exact aggPlain_ok h4 h5
    · exact plain1_ok h4 h5
  · exact plain1_ok h hp

/-- What is known of a call that is told without the heap. -/
def PureOk (P : Program) (G : Nat → Option V) (f : FuncId) (args : List V) (v : V) : Prop :=
  VB 0 v ∧ Enters P f ∧ ∀ forb φ base w cargs, VRs forb w φ args cargs → Rel forb φ (fun _ => True) base [] w → (∀ n v, G n = some v → VR forb w noPhi v (.pointer (some ⟨n, 0, none⟩))) →
    Calls P f ⟨cargs⟩ w (fun e w' => ∃ c, e = .returned c ∧ Post forb φ (fun _ => True) base [] w ⟨v, [], [], []⟩ c w')

structure EnvOk (P : Program) (E : Env) : Prop extends FnOk P E where
  memo : ∀ f args v, E.memo f args = some v → PureOk P E.G f args v

theorem hb_nil {n : Nat} : HB n [] := fun b x hb => by simp at hb

theorem body_pure {E : Env} (hC : CallOk P E.G C) (hL : LenOk C) (hV : VbOk C) (hE : FnOk P E) (hmix : P.follows .mixedOrders = true) {f : FuncId} {n : Nat} {args : List V} (ha : ∀ v ∈ args, VB 0 v) {x : Res} (hx : callBody E C n false args [] (E.fn f) = some x) : PureOk P E.G f args x.v := by
  rcases hm : E.fn f with _ | m
  · rw [hm] at hx; cases hx
  · rw [hm] at hx
    obtain ⟨l1, l2, l3⟩ := body_len hL hV hE hm hx
    obtain ⟨v1, v2⟩ := body_vb hL hV hE hm hx ha hb_nil
    obtain ⟨e, s, vs, r1, _, _, _, h4⟩ := callBody_some hx
    obtain ⟨u, h', h5, h6, hxe⟩ := callOut_frozen h4
    have hh : h' = [] := by
      have := (fzBlk_ok h6).1
      simp at this; exact this
    have hw : x.w = [] := by
      rcases hq : x.w with _ | ⟨b, l⟩
      · rfl
      · have := l2 b (by rw [hq]; simp); simp at this
    obtain ⟨p1, p2⟩ := body_ok hC hL hV hE hmix hm hx
    have hxh : x.h = [] := by rw [hxe]; exact hh
    refine ⟨by rw [hxh] at v1; exact v1, p1, fun forb φ base w cargs q1 q2 q3 => ?_⟩
    refine (p2 forb φ (fun _ => True) base w cargs ha hb_nil q1 q2 q3 (fun _ _ => trivial) (fun b v g1 g2 => by rw [hxh] at g2; simp at g2)).mono fun ed w' ⟨c, hc, forb', φ', k1, k2, k3, k4, k5, k6, k7, k8⟩ => ⟨c, hc, forb', φ', k1, ?_, k3, k4, ?_, ?_, ?_, Nat.le_refl _⟩
    · rw [hxh] at k2; exact k2
    · rw [hxh] at k5; exact k5
    · rw [hw] at k6; exact k6
    · rw [hw] at k7; exact k7

theorem rel_nil (hR : Rel forb φ D base h w) : Rel forb φ (fun _ => True) base [] w :=
  ⟨fun b x v l _ hb => by simp at hb, hR.low, hR.apart, hR.top, fun b x v l _ hb => by simp at hb⟩
theorem rel_no (w : World) : Rel noF noPhi (fun _ => True) w.heap.size [] w :=
  ⟨fun b x v l _ hb => by simp at hb, (fun _ _ _ h => by cases h), (fun _ _ _ _ _ _ h => by cases h), Nat.le_refl _, fun b x v l _ hb => by simp at hb⟩

theorem pureBody_ok {E : Env} (hC : CallOk P E.G C) (hL : LenOk C) (hV : VbOk C) (hE : EnvOk P E) (hmix : P.follows .mixedOrders = true) {n : Nat} {f : FuncId} {args : List V} (ha : ∀ v ∈ args, VB 0 v) {v : V} (hx : pureBody E C n f args = some v) : PureOk P E.G f args v := by
  unfold pureBody at hx
  split at hx
  · rename_i u hu; cases hx; exact hE.memo f args _ hu
  · split at hx
    · rename_i x hb; cases hx; exact body_pure hC hL hV hE.toFnOk hmix ha hb
    · cases hx

theorem callPure_some {p : List V → Option V} {as : Option (List (V × List Nat))} {x : Res} (hx : callPure p h as = some x) : ∃ l v, as = some l ∧ p (l.map (·.1)) = some v ∧ ((l.flatMap (·.2)).isEmpty = true ∨ v.plain = true) ∧ x = ⟨v, h, l.flatMap (·.2), []⟩ := by
  unfold callPure at hx
  split at hx
  · rename_i l
    split at hx
    · rename_i v hv
      simp only [cond_eq_ite] at hx
      split at hx
      · rename_i hc; cases hx; exact ⟨l, v, rfl, hv, by simpa using hc, rfl⟩
      · cases hx
    · cases hx
  · cases hx

theorem lent_vb {args : List V} {l : List (V × List Nat)} {N : Nat} (ha : ∀ v ∈ args, VB N v) (hh : HB N h) (hl : mapM? (lend h 100) args = some l) : ∀ v ∈ l.map (·.1), VB 0 v := by
  intro x hx
  obtain ⟨y, hy, rfl⟩ := List.mem_map.1 hx
  obtain ⟨z, h1, h2⟩ := mapM?_mem hl hy
  exact lend_vb (ha z h1) hh h2

theorem call_all {E : Env} (hE : EnvOk P E) (hmix : P.follows .mixedOrders = true) : ∀ n, CallOk P E.G (call E n) ∧ LenOk (call E n) ∧ VbOk (call E n)
  | 0 => ⟨fun f args h x hx => by simp [call] at hx, fun f args h x hx => by simp [call] at hx, fun f args h x hx => by simp [call] at hx⟩
  | n + 1 => by
    obtain ⟨hC, hL, hV⟩ := call_all hE hmix n
    have hcase : ∀ {f args h x}, call E (n + 1) f args h = some x → (∃ keep m, E.fn f = some m ∧ callBody E (call E n) n keep args h (some m) = some x) ∨ ∃ l v, mapM? (lend h 100) args = some l ∧ pureBody E (call E n) n f (l.map (·.1)) = some v ∧ ((l.flatMap (·.2)).isEmpty = true ∨ v.plain = true) ∧ x = ⟨v, h, l.flatMap (·.2), []⟩ := by
      intro f args h x hx
      simp only [call] at hx
      have body : ∀ keep, callBody E (call E n) n keep args h (E.fn f) = some x → ∃ keep m, E.fn f = some m ∧ callBody E (call E n) n keep args h (some m) = some x := by
        intro keep hb
        rcases hm : E.fn f with _ | m
        · rw [hm] at hb; cases hb
        · rw [hm] at hb; exact ⟨keep, m, rfl, hb⟩
      cases hmode : E.mode f <;> rw [hmode] at hx <;> simp only [callStep] at hx
      · exact .inl (body _ hx)
      · exact .inl (body _ hx)
      · exact .inr (callPure_some hx)
    refine ⟨fun f args h x hx => ?_, fun f args h x hx => ?_, fun f args h x hx ha hh => ?_⟩
    · rcases hcase hx with ⟨keep, m, hm, hb⟩ | ⟨l, v, h1, h2, h3, rfl⟩
      · exact body_ok hC hL hV hE.toFnOk hmix hm hb
      · have ent : Enters P f := by
          unfold pureBody at h2
          split at h2
          · rename_i u hu; exact (hE.memo f _ _ hu).2.1
          · split at h2
            · rename_i y hb
              rcases hm : E.fn f with _ | m
              · rw [hm] at hb; cases hb
              · rw [hm] at hb; exact (body_ok hC hL hV hE.toFnOk hmix hm hb).1
            · cases h2
        refine ⟨ent, fun forb φ D base w cargs ha hh hargs hR hglob hD hfree => ?_⟩
        obtain ⟨v0, _, hP⟩ := pureBody_ok hC hL hV hE hmix (lent_vb ha hh h1) h2
        by_cases he : l.flatMap (·.2) = []
        · have hn := flatMap_nil he
          have hsame : l.map (·.1) = args := map_fst_same h1 fun x hx y hy hya => (lend_none (ha x hx) hy (hn y hya)).1
          rw [hsame] at hP
          refine (hP forb φ base w cargs hargs (rel_nil hR) hglob).mono fun ed w' ⟨c, hc, forb', φ', k1, k2, k3, k4, k5, k6, k7, k8⟩ => ⟨c, hc, forb', φ, ?_, ⟨fun b x v l hb hx hx1 hx2 hl => ?_, fun b v l hl => k2.low b v l (k4 _ _ _ hl), fun b v l b' v' l' hl hl' => k2.apart _ _ _ _ _ _ (k4 _ _ _ hl) (k4 _ _ _ hl'), k2.top, fun b x v l hb hx hl => ?_⟩, k3, fun _ _ _ h => h, fun _ _ _ => rfl, fun b v l hl _ => k6 b v l hl (by simp), fun _ _ _ _ => rfl, Nat.le_refl _⟩
          · exact k1.less (fun _ h => h) fun b v l hl => by have := k5 b v (Nat.zero_le _); rw [this] at hl; exact hl
          · have hDb : D b := by
              rcases hb with hb | ⟨p1, p2⟩
              · exact hb
              · have : b < h.length := p2
                omega
            exact (hR.row b x v l hDb hx hx1 hx2 hl).ext k3 (fun _ _ _ h => h) (k6 b v l hl (by simp))
          · have hDb : D b := by
              rcases hb with hb | ⟨p1, p2⟩
              · exact hb
              · have : b < h.length := p2
                omega
            exact hR.new b x v l hDb hx hl
        · have hp : v.plain = true := h3.resolve_left (by simpa using he)
          have hargs2 : VRs noF w noPhi (l.map (·.1)) cargs := by
            refine ⟨by rw [hargs.1, List.length_map, mapM?_length h1], fun i y c hy hc => ?_⟩
            rw [List.getElem?_map] at hy
            rcases hq : l[i]? with _ | z
            · rw [hq] at hy; cases hy
            · rw [hq] at hy; cases hy
              obtain ⟨y0, g1, g2⟩ := mapM?_get h1 i z hq
              exact lend_ok hR g2 (fun b hb => hD b (.inl (List.mem_flatMap.2 ⟨z, List.mem_of_getElem? hq, hb⟩))) (hargs.2 i y0 c g1 hc)
          refine (hP noF noPhi w.heap.size w cargs hargs2 (rel_no w) (fun n v hv => (hglob n v hv).less (fun _ h => h.elim) (fun _ _ _ h => h))).mono fun ed w' ⟨c, hc, forb', φ', k1, k2, k3, k4, k5, k6, k7, k8⟩ => ?_
          have hkeep : ∀ cb, cb < w.heap.size → w'.heap[cb]? = w.heap[cb]? := fun cb hcb => k3.keep cb hcb (fun h => h)
          have hE2 : Ext forb forb w w' := ⟨fun _ h => .inl h, fun cb hcb _ => hkeep cb hcb, k3.shape, k3.size, k3.os, k3.tape, k3.output⟩
          refine ⟨c, hc, forb, φ, plain_ok k1 hp, ⟨fun b x v l hb hx hx1 hx2 hl => ?_, fun b v l hl => ?_, hR.apart, Nat.le_trans hR.top k3.size, fun b x v l hb hx hl => ?_⟩, hE2, fun _ _ _ h => h, fun _ _ _ => rfl, fun b v l hl _ => hkeep _ (hR.low b v l hl).2.1, fun _ _ _ _ => rfl, Nat.le_refl _⟩
          · have hDb : D b := by
              rcases hb with hb | ⟨p1, p2⟩
              · exact hb
              · have : b < h.length := p2
                omega
            exact (hR.row b x v l hDb hx hx1 hx2 hl).ext hE2 (fun _ _ _ h => h) (hkeep _ (hR.low b v l hl).2.1)
          · obtain ⟨p1, p2, p3⟩ := hR.low b v l hl
            exact ⟨p1, Nat.lt_of_lt_of_le p2 k3.size, p3⟩
          · have hDb : D b := by
              rcases hb with hb | ⟨p1, p2⟩
              · exact hb
              · have : b < h.length := p2
                omega
            exact hR.new b x v l hDb hx hl
    · rcases hcase hx with ⟨keep, m, hm, hb⟩ | ⟨l, v, h1, h2, h3, rfl⟩
      · exact body_len hL hV hE.toFnOk hm hb
      · exact ⟨Nat.le_refl _, by simp, fun _ _ _ => rfl⟩
    · rcases hcase hx with ⟨keep, m, hm, hb⟩ | ⟨l, v, h1, h2, h3, rfl⟩
      · exact body_vb hL hV hE.toFnOk hm hb ha hh
      · exact ⟨(pureBody_ok hC hL hV hE hmix (lent_vb ha hh h1) h2).1.up, hh⟩

/-- A closed run, told as a call that only reads. -/
theorem pure_of_call {E : Env} (hE : EnvOk P E) (hmix : P.follows .mixedOrders = true) {n : Nat} {f : FuncId} {args : List V} (ha : ∀ v ∈ args, VB 0 v) {v : V} (hx : pureBody E (call E n) n f args = some v) : PureOk P E.G f args v := by
  obtain ⟨hC, hL, hV⟩ := call_all hE hmix n
  exact pureBody_ok hC hL hV hE hmix ha hx

/-- A call that is handed nothing. -/
theorem PureOk.calls {f : FuncId} {v : V} (h : PureOk P (fun _ => none) f [] v) (w : World) : Calls P f #[] w (fun e w' => ∃ c, e = .returned c ∧ VR noF w' noPhi v c ∧ w.heap.size ≤ w'.heap.size ∧ (∀ b, b < w.heap.size → w'.heap[b]? = w.heap[b]?) ∧ w'.os = w.os ∧ w'.tape = w.tape ∧ w'.output = w.output) := by
  obtain ⟨_, _, hP⟩ := h
  refine (hP noF noPhi w.heap.size w [] ⟨rfl, by simp⟩ (rel_no w) (fun _ _ h => by cases h)).mono fun ed w' ⟨c, hc, forb', φ', k1, k2, k3, k4, k5, k6, k7, k8⟩ => ⟨c, hc, ?_, k3.size, fun b hb => k3.keep b hb (fun h => h), k3.os, k3.tape, k3.output⟩
  exact k1.less (fun _ h => h.elim) fun b v l hl => by rw [k5 b v (Nat.zero_le _)] at hl; exact hl
end Go.Mini
