/- A part of the proof: GrBase. No condition. -/
import Derived.Test.YtdidbboahhpaoaaDoorKnownGr
import Derived.Test.YtdidbboahhpaoaaDoorGrMath
import Derived.Test.YtdidbboahhpaoaaDoorMiniC
import Derived.Test.YtdidbboahhpaoaaDoorHeapD
set_option linter.all false
set_option maxRecDepth 100000
namespace Go.Mini
set_option linter.all false
/-- a call that only reads told by a run, whatever it returns -/
theorem pures_any {E : Env} {nt : Nat} {body : MCode} {res : List MRes} {f : FuncId} {args t0 : List V} {v : V} (hm : E.memo f args = none) (hf : E.fn f = some ⟨nt, body, res⟩) (h0 : args ++ List.replicate (nt - args.length) .undef = t0)
    (hg : RQ E 0 body ⟨t0, [], [], []⟩ fun e s => (e = .ret ∨ e = .normal) ∧ ∃ vs r1, resV s.h s.t res = some (vs, r1) ∧ fz 0 s.h 100 false (tupV vs) = some v) : Pures E f args v := by
  obtain ⟨e, s, h1, he, vs, r1, h2, h3⟩ := hg
  have hw : s.w = [] := by
    obtain ⟨n, hn⟩ := h1
    exact exec_w hn
  refine pures_run hm hf h0 h1 he (x := ⟨v, [], uni 0 r1 s.r, []⟩) ?_ rfl
  have : fzBlk 0 s.h [] (s.h.take 0) = some [] := rfl
  simp only [callRes, h2, callOut, cond_false, h3, this, hw]
/-- a call that only reads, at the operation -/
theorem pc {E : Env} {f : FuncId} {args as1 : List V} {h : H} {xs : List (V × List Nat)} {v : V} (hm : E.mode f = .pure) (hl : mapM? (lend h 100) args = some xs) (h1 : xs.map (·.1) = as1) (hv : Pures E f as1 v) (hb : ((xs.flatMap (·.2)).isEmpty || v.plain) = true) : ∃ r, Calls' E f args h ⟨v, h, r, []⟩ :=
  ⟨_, calls_pure hm hl h1 rfl hv hb⟩
end Go.Mini
namespace Go.GrMath
open Go.Mini Go.HeapRun
set_option linter.all false
def prs (p : Int × Int) : List V := [.int .i64 p.1, .int .i64 p.2]
/-- the graph whose struct lies in block g -/
structure GA (h : H) (g bl bm : Nat) (L : List (Int × Int)) (K : Ky) : Prop where
  top : ∃ cur iv, h[g]? = some (.row ⟨3, [[.os bl cur 2 0 L.length false, .mp bm, iv]], 0, 0⟩) ∧ h[bl]? = some (.row ⟨2, L.map prs, cur, 0⟩)
  map : h[bm]? = some (.mp (K.map ent))
  n1 : g ≠ bl
  n2 : g ≠ bm
  n3 : bl ≠ bm
theorem GA.frame {h h' : H} {g bl bm : Nat} {L : List (Int × Int)} {K : Ky} {bs : List Nat} (a : GA h g bl bm L K) (f : Keeps h h' bs) (h1 : g ∉ bs) (h2 : bl ∉ bs) (h3 : bm ∉ bs) : GA h' g bl bm L K := by
  obtain ⟨⟨cur, iv, e1, e2⟩, e3, n1, n2, n3⟩ := a
  exact ⟨⟨cur, iv, by rw [f.2 g (List.getElem?_eq_some_iff.1 e1).1 h1]; exact e1, by rw [f.2 bl (List.getElem?_eq_some_iff.1 e2).1 h2]; exact e2⟩, by rw [f.2 bm (List.getElem?_eq_some_iff.1 e3).1 h3]; exact e3, n1, n2, n3⟩
theorem GA.lt {h : H} {g bl bm : Nat} {L : List (Int × Int)} {K : Ky} (a : GA h g bl bm L K) : g < h.length ∧ bl < h.length ∧ bm < h.length := by
  obtain ⟨⟨cur, iv, e1, e2⟩, e3, _⟩ := a
  exact ⟨(List.getElem?_eq_some_iff.1 e1).1, (List.getElem?_eq_some_iff.1 e2).1, (List.getElem?_eq_some_iff.1 e3).1⟩
section
variable {E : Env} {n0 : Nat} {R : St → Prop} {ms : List MOper} {x y : Opd} {dst : Option Nat} {op : MOp} {g : Option (Nat × Bool)} {t t1 : List V} {h h1 : H} {r r1 w w1 : List Nat} {v : V}
/-- what has been drawn comes behind all that was noted -/
def DA (E : Env) (n0 : Nat) (ms : List MOper) (j : Nat) (masks : List Nat) (lo : Nat) (s : St) (R : St → Prop) : Prop := ∀ fs : List (Nat × List Nat × List Nat), (∀ x ∈ fs, lo ≤ x.1 ∧ x.1 < j) → DQ E n0 ms j masks fs s R
variable {j m lo : Nat} {masks : List Nat}
theorem da_start (lo : Nat) {s : St} (hk : DA E n0 ms 0 masks lo s R) : DQ E n0 ms 0 masks [] s R := hk [] fun x hx => by cases hx
theorem da_nil {s : St} (hk : R s) : DA E n0 [] j masks lo s R := fun fs _ => d_nil hk
theorem da_skip (hw : wantedV t g = false) (ht : putV t dst .undef = t1) (hk : DA E n0 ms (j + 1) masks lo ⟨t1, h, r, w⟩ R) : DA E n0 (⟨dst, op, g⟩ :: ms) j (m :: masks) lo ⟨t, h, r, w⟩ R := fun fs hfs => d_skip hw ht (hk fs fun x hx => ⟨(hfs x hx).1, by have := (hfs x hx).2; omega⟩)
theorem da_none (hw : wantedV t g = true) (hx : Ops E t op h ⟨v, h, [], []⟩) (ht : putV t dst v = t1) (hk : DA E n0 ms (j + 1) masks lo ⟨t1, h, r, w⟩ R) : DA E n0 (⟨dst, op, g⟩ :: ms) j (m :: masks) lo ⟨t, h, r, w⟩ R := fun fs hfs => by
  refine d_go2 hw hx ht ?_ note_same (hk fs fun x hx => ⟨(hfs x hx).1, by have := (hfs x hx).2; omega⟩)
  rw [allW_same]; exact free_empty
def maskAll (lo j m : Nat) : Bool := (List.range j).all fun i => Nat.blt i lo || m.testBit i
theorem maskAll_ok (hm : maskAll lo j m = true) {fs : List (Nat × List Nat × List Nat)} (hfs : ∀ x ∈ fs, lo ≤ x.1 ∧ x.1 < j) : ∀ x ∈ fs, m.testBit x.1 = true := fun x hx => by
  have h1 := List.all_eq_true.1 hm x.1 (List.mem_range.2 (hfs x hx).2)
  rw [Bool.or_eq_true] at h1
  rcases h1 with h1 | h1
  · rw [Nat.blt_eq] at h1; have := (hfs x hx).1; omega
  · exact h1
theorem note_in {w r : List Nat} {fs : List (Nat × List Nat × List Nat)} (hl : lo ≤ j) (hfs : ∀ x ∈ fs, lo ≤ x.1 ∧ x.1 < j) : ∀ x ∈ note j r w fs, lo ≤ x.1 ∧ x.1 < j + 1 := fun x hx => by
  unfold note at hx
  split at hx
  · exact ⟨(hfs x hx).1, by have := (hfs x hx).2; omega⟩
  · rcases List.mem_cons.1 hx with rfl | hx
    · exact ⟨hl, Nat.lt_succ_self _⟩
    · exact ⟨(hfs x hx).1, by have := (hfs x hx).2; omega⟩
theorem da_step (hw : wantedV t g = true) (hx : Ops E t op h ⟨v, h1, r1, w1⟩) (ht : putV t dst v = t1) (hm : maskAll lo j m = true) (hl : Nat.ble lo j = true) (hk : DA E n0 ms (j + 1) masks lo ⟨t1, h1, uni n0 r1 r, uni n0 w1 w⟩ R) : DA E n0 (⟨dst, op, g⟩ :: ms) j (m :: masks) lo ⟨t, h, r, w⟩ R := fun fs hfs =>
  d_go2 hw hx ht (free_mask_all (maskAll_ok hm hfs)) rfl (hk _ (note_in (Nat.le_of_ble_eq_true hl) hfs))
theorem da_call {f : FuncId} {xs : List Opd} {cap ys : List V} {D : H → Prop} (hw : wantedV t g = true) (hx : ev E.G t x = some (.fn f cap)) (ha : evs E.G t xs = some ys) (hc : Does E f (ys ++ cap) h v D) (ht : putV t dst v = t1) (hm : maskAll lo j m = true) (hl : Nat.ble lo j = true) (hk : ∀ r1 w1 h1, D h1 → DA E n0 ms (j + 1) masks lo ⟨t1, h1, uni n0 r1 r, uni n0 w1 w⟩ R) : DA E n0 (⟨dst, .call x xs, g⟩ :: ms) j (m :: masks) lo ⟨t, h, r, w⟩ R := by
  obtain ⟨r1, w1, h1, k1, k2⟩ := hc
  exact da_step hw (ops_call hx ha k1) ht hm hl (hk r1 w1 h1 k2)
theorem da_read {f : FuncId} {xs : List Opd} {cap ys : List V} (hw : wantedV t g = true) (hx : ev E.G t x = some (.fn f cap)) (ha : evs E.G t xs = some ys) (hc : ∃ r, Calls' E f (ys ++ cap) h ⟨v, h, r, []⟩) (ht : putV t dst v = t1) (hm : maskAll lo j m = true) (hl : Nat.ble lo j = true) (hk : ∀ r1, DA E n0 ms (j + 1) masks lo ⟨t1, h, uni n0 r1 r, w⟩ R) : DA E n0 (⟨dst, .call x xs, g⟩ :: ms) j (m :: masks) lo ⟨t, h, r, w⟩ R := by
  obtain ⟨r1, k1⟩ := hc
  exact da_step hw (ops_call hx ha k1) ht hm hl (hk r1)
theorem ops_xor {m : Int} {cmp : Cmp} (hx : ev E.G t x = some (.int .i64 m)) (hy : ev E.G t y = some (.int .i64 1)) : Ops E t (.bin .xor cmp x y) h ⟨.int .i64 (notG m), h, [], []⟩ :=
  ops_of (by simp only [opV, op_bin, hx, hy, binV, intV, kindEq, cond_true, forceI_eq, one]; rfl)
theorem ops_neqB {a b : Bool} {c : Bool} (hx : ev E.G t x = some (.bool a)) (hy : ev E.G t y = some (.bool b)) (hc : (!(a == b)) = c) : Ops E t (.bin .neq .bool x y) h ⟨.bool c, h, [], []⟩ :=
  ops_of (by subst hc; simp only [opV, op_bin, hx, hy, binV, boolV, eqOp, one])
theorem ops_eqlB {a b : Bool} {c : Bool} (hx : ev E.G t x = some (.bool a)) (hy : ev E.G t y = some (.bool b)) (hc : (a == b) = c) : Ops E t (.bin .eql .bool x y) h ⟨.bool c, h, [], []⟩ :=
  ops_of (bin_eqb hx hy hc)
theorem ops_box2 {u w : V} (hx : ev E.G t x = some (.agg [u, w])) : Ops E t (.box 2 x) h ⟨.ptr h.length 0 0 0, h ++ [.row ⟨2, [[u, w]], 0, 0⟩], [], []⟩ :=
  ops_of (by simp only [opV, op_box, hx]; rfl)
theorem ops_bs2 {u w p q : V} (hx : ev E.G t x = some (.agg [u, w])) : Ops E t (.bslice 2 1 [p, q] [(0, 2, x)]) h ⟨.os h.length 0 2 0 1 true, h ++ [.row ⟨2, [[u, w]], 0, 0⟩], [], []⟩ := by
  refine ops_of ?_
  have e1 : evP E.G t [(0, 2, x)] = some [(0, 2, .agg [u, w])] := by simp only [evP, hx]
  simp only [opV, op_bslice, e1]
  rfl
theorem ops_push2 {bb bt n cur : Nat} {els : List (List V)} {u : List V} (hs : ev E.G t y = some (.os bb cur 2 0 n false)) (hx : ev E.G t x = some (.os bt 0 2 0 1 true)) (ht : h[bt]? = some (.row ⟨2, [u], 0, 0⟩)) (hb : h[bb]? = some (.row ⟨2, els, cur, 0⟩)) (hn : els.length = n) (hbig : n ≤ 1000000) :
    Ops E t (.append 2 16 y x) h ⟨.os bb (cur + 1) 2 0 (n + 1) false, h.set bb (.row ⟨2, els ++ [u], cur + 1, 0⟩), [bt], [bb]⟩ := by
  refine ops_of ?_
  have h1 : sources 2 h (.os bt 0 2 0 1 true) = some ([u], [bt]) := by
    simp only [sources, elems, rowAt_of ht (Nat.le_refl _) (Nat.le_refl _)]
    rfl
  have h2 : Mini.rowAt h bb cur = some ⟨2, els, cur, 0⟩ := rowAt_of hb (Nat.zero_le _) (Nat.le_refl _)
  simp only [opV, op_append, hs, hx, appendV, h1, h2]
  simp only [List.isEmpty_cons, Bool.false_eq_true, if_false]
  rw [if_pos ⟨trivial, trivial, by omega, by simp; omega⟩]
  simp [hn, List.take_of_length_le (Nat.le_of_eq hn)]
theorem note_rset {v : V} {j a b : Nat} {o : Ob} {w r : List Nat} {fs : List (Nat × List Nat × List Nat)} : note j (a :: r) (allW h ⟨v, h.set b o, a :: r, w⟩) fs = (j, a :: r, w) :: fs := by rw [allW_set]; rfl
theorem ops_all2 {p q : V} : Ops E t (.alloc [p, q]) h ⟨.ptr h.length 0 0 0, h ++ [.row ⟨2, [[p, q]], 0, 0⟩], [], []⟩ := ops_of rfl
theorem ops_str2 {p q u w : V} (ha : ev E.G t x = some (.ptr h.length 0 0 0)) (hx : ev E.G t y = some (.agg [u, w])) : Ops E t (.store 2 x y) (h ++ [.row ⟨2, [[p, q]], 0, 0⟩]) ⟨.undef, h ++ [.row ⟨2, [[u, w]], 0, 0⟩], [], [h.length]⟩ := by
  refine ops_struct (row := ⟨2, [[p, q]], 0, 0⟩) (el := [p, q]) ha hx (by simp) rfl rfl rfl rfl rfl (by simp) ?_
  simp [setFrom]; rfl
theorem ops_lda {u w : V} {b : Nat} (ha : ev E.G t x = some (.ptr b 0 0 0)) (hb : h[b]? = some (.row ⟨2, [[u, w]], 0, 0⟩)) : Ops E t (.load (some 2) x) h ⟨.agg [u, w], h, [b], []⟩ :=
  ops_load (row := ⟨2, [[u, w]], 0, 0⟩) (el := [u, w]) ha (rowAt_of hb (Nat.le_refl _) (Nat.le_refl _)) rfl rfl
theorem ops_look {b : Nat} {K : Ky} {p q : Int} (hm : ev E.G t x = some (.mp b)) (hk : ev E.G t y = some (.agg [.int .i64 p, .int .i64 q])) (hb : h[b]? = some (.mp (K.map ent))) : Ops E t (.look [.i, .i] .i64 0 true x y) h ⟨lookR .i64 0 true ((lookK p q K).map fun e => (IntKind.i64, e)), h, [b], []⟩ := by
  refine ops_of ?_
  have h1 : mapAt h b = some (K.map ent) := by simp only [mapAt, hb]
  have h2 : keyOfV [.i, .i] (.agg [.int .i64 p, .int .i64 q]) = some [(.i64, p), (.i64, q)] := rfl
  simp only [opV, op_look, hm, hk, h1, h2, lookE_ent]
theorem ops_mput {b : Nat} {K : Ky} {p q e : Int} {z : Opd} (hm : ev E.G t x = some (.mp b)) (hk : ev E.G t y = some (.agg [.int .i64 p, .int .i64 q])) (hz : ev E.G t z = some (.int .i64 e)) (hb : h[b]? = some (.mp (K.map ent))) (hno : lookK p q K = none) : Ops E t (.mput [.i, .i] x y z) h ⟨.undef, h.set b (.mp ((K ++ [((p, q), e)]).map ent)), [], [b]⟩ := by
  refine ops_of ?_
  have h1 : mapAt h b = some (K.map ent) := by simp only [mapAt, hb]
  have h2 : keyOfV [.i, .i] (.agg [.int .i64 p, .int .i64 q]) = some [(.i64, p), (.i64, q)] := rfl
  have h3 := lookE_ent p q K
  rw [hno] at h3
  simp only [opV, op_mput, hm, hk, hz, h1, h2, h3, List.map_append]
  rfl
theorem ops_look_some {b : Nat} {K : Ky} {p q e : Int} (hm : ev E.G t x = some (.mp b)) (hk : ev E.G t y = some (.agg [.int .i64 p, .int .i64 q])) (hb : h[b]? = some (.mp (K.map ent))) (hq : lookK p q K = some e) : Ops E t (.look [.i, .i] .i64 0 true x y) h ⟨.tup [.int .i64 e, .bool true], h, [b], []⟩ := by
  have := ops_look (E := E) hm hk hb
  rw [hq] at this; exact this
theorem ops_look_none {b : Nat} {K : Ky} {p q : Int} (hm : ev E.G t x = some (.mp b)) (hk : ev E.G t y = some (.agg [.int .i64 p, .int .i64 q])) (hb : h[b]? = some (.mp (K.map ent))) (hq : lookK p q K = none) : Ops E t (.look [.i, .i] .i64 0 true x y) h ⟨.tup [.int .i64 0, .bool false], h, [b], []⟩ := by
  have := ops_look (E := E) hm hk hb
  rw [hq] at this; exact this
theorem ops_stg {b : Nat} {u x0 x1 x2 : V} (ha : ev E.G t x = some (.ptr b 0 0 0)) (hx : ev E.G t y = some u) (hb : h[b]? = some (.row ⟨3, [[x0, x1, x2]], 0, 0⟩)) (hu : u.cells = [u]) (hl : u.lies = true) : Ops E t (.store 1 x y) h ⟨.undef, h.set b (.row ⟨3, [[u, x1, x2]], 0, 0⟩), [], [b]⟩ := by
  refine ops_struct (row := ⟨3, [[x0, x1, x2]], 0, 0⟩) (el := [x0, x1, x2]) ha hx hb rfl rfl (by rw [hu]; rfl) hl rfl (by simp) ?_
  simp [setFrom, hu]
end
end Go.GrMath
