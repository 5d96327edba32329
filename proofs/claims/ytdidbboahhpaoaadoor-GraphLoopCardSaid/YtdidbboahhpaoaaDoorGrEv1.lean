/- A part of the proof: GrEv1. No condition. -/
import Derived.Test.YtdidbboahhpaoaaDoorGrXor
import Derived.Test.YtdidbboahhpaoaaDoorGrOnce2
set_option linter.all false
set_option maxRecDepth 100000
namespace Go.GrMath
open Go.Mini Go.HeapRun Go.HeapMath
set_option linter.all false
def cellsB (W : List Bool) : List (List V) := W.map fun b => [V.bool b]
theorem cellsB_len (W : List Bool) : (cellsB W).length = W.length := by simp [cellsB]
theorem cellsB_get {W : List Bool} {i : Nat} (h : i < W.length) : (cellsB W)[i]? = some [.bool (W.getD i false)] := by
  unfold cellsB
  rw [List.getElem?_map, List.getD_eq_getElem?_getD, List.getElem?_eq_getElem h]; rfl
theorem cellsB_set {W : List Bool} {i : Nat} {b : Bool} : (cellsB W).set i [.bool b] = cellsB (W.set i b) := by unfold cellsB; rw [← List.map_set]
theorem prs_get {L : List (Int × Int)} {i : Nat} {p : Int × Int} (h : L[i]? = some p) : (L.map prs)[i]? = some [.int .i64 p.1, .int .i64 p.2] := by rw [List.getElem?_map, h]; rfl
section
variable {E : Env} {t : List V} {h : H} {x y a : Opd}
theorem ops_ldB {b i : Nat} {els : List (List V)} {u : V} (ha : ev E.G t a = some (.ptr b 0 i 0)) (hb : h[b]? = some (.row ⟨1, els, 0, 0⟩)) (hu : els[i]? = some [u]) : Ops E t (.load none a) h ⟨u, h, [b], []⟩ :=
  ops_load (row := ⟨1, els, 0, 0⟩) (el := [u]) ha (rowAt_of hb (Nat.le_refl _) (Nat.le_refl _)) hu rfl
theorem ops_ldC {b i cur : Nat} {els : List (List V)} {u : V} (ha : ev E.G t a = some (.ptr b cur i 0)) (hb : h[b]? = some (.row ⟨1, els, cur, 0⟩)) (hu : els[i]? = some [u]) : Ops E t (.load none a) h ⟨u, h, [b], []⟩ :=
  ops_load (row := ⟨1, els, cur, 0⟩) (el := [u]) ha (rowAt_of hb (Nat.zero_le _) (Nat.le_refl _)) hu rfl
theorem ops_ldP {b i cur : Nat} {els : List (List V)} {p q : Int} (ha : ev E.G t a = some (.ptr b cur i 0)) (hb : h[b]? = some (.row ⟨2, els, cur, 0⟩)) (hu : els[i]? = some [.int .i64 p, .int .i64 q]) : Ops E t (.load (some 2) a) h ⟨.agg [.int .i64 p, .int .i64 q], h, [b], []⟩ :=
  ops_load (row := ⟨2, els, cur, 0⟩) (el := [.int .i64 p, .int .i64 q]) ha (rowAt_of hb (Nat.zero_le _) (Nat.le_refl _)) hu rfl
theorem ops_ldP0 {b i cur : Nat} {els : List (List V)} {p q : Int} (ha : ev E.G t a = some (.ptr b cur i 0)) (hb : h[b]? = some (.row ⟨2, els, cur, 0⟩)) (hu : els[i]? = some [.int .i64 p, .int .i64 q]) : Ops E t (.load none a) h ⟨.int .i64 p, h, [b], []⟩ :=
  ops_load (row := ⟨2, els, cur, 0⟩) (el := [.int .i64 p, .int .i64 q]) ha (rowAt_of hb (Nat.zero_le _) (Nat.le_refl _)) hu rfl
theorem ops_ldP1 {b i cur : Nat} {els : List (List V)} {p q : Int} (ha : ev E.G t a = some (.ptr b cur i 1)) (hb : h[b]? = some (.row ⟨2, els, cur, 0⟩)) (hu : els[i]? = some [.int .i64 p, .int .i64 q]) : Ops E t (.load none a) h ⟨.int .i64 q, h, [b], []⟩ :=
  ops_load (row := ⟨2, els, cur, 0⟩) (el := [.int .i64 p, .int .i64 q]) ha (rowAt_of hb (Nat.zero_le _) (Nat.le_refl _)) hu rfl
theorem ops_eqP {p q : Int} {c : Bool} (hx : ev E.G t x = some (.agg [.int .i64 p, .int .i64 q])) (hy : ev E.G t y = some (.agg [.int .i64 (-1), .int .i64 (-1)])) (hc : decide (p = -1 ∧ q = -1) = c) : Ops E t (.bin .eql (.flat [.i, .i]) x y) h ⟨.bool c, h, [], []⟩ :=
  ops_of (by
    have h1 : eqCs [.i, .i] [.int .i64 p, .int .i64 q] [.int .i64 (-1), .int .i64 (-1)] = some c := by
      simp only [eqCs, eqC, kindEq, cond_true, beqI]
      subst hc
      by_cases h1 : p = -1
      · by_cases h2 : q = -1
        · simp [h1, h2]
        · simp [h1, h2]
      · simp [h1]
    simp only [opV, op_bin, hx, hy, binV, aggV, h1, eqOp, one])
theorem ops_stB {b i : Nat} {W : List Bool} {c : Bool} (ha : ev E.G t x = some (.ptr b 0 i 0)) (hx : ev E.G t y = some (.bool c)) (hb : h[b]? = some (.row ⟨1, cellsB W, 0, 0⟩)) (hi : i < W.length) : Ops E t (.store 1 x y) h ⟨.undef, h.set b (.row ⟨1, cellsB (W.set i c), 0, 0⟩), [], [b]⟩ := by
  refine ops_store (row := ⟨1, cellsB W, 0, 0⟩) (el := [.bool (W.getD i false)]) ha hx (rowAt_of hb (Nat.le_refl _) (Nat.le_refl _)) rfl rfl rfl (cellsB_get hi) (by simp) ?_
  simp only [← cellsB_set]; rfl
theorem ops_mksB {n : Nat} (hx : ev E.G t x = some (.int .i64 (n : Nat))) (hy : ev E.G t y = some (.int .i64 (n : Nat))) (hn : n ≤ 1000) : Ops E t (.mkslice 1 1 [(.bool false)] x y) h ⟨.os h.length 0 1 0 n false, h ++ [.row ⟨1, cellsB (List.replicate n false), 0, 0⟩], [], []⟩ := by
  refine ops_of ?_
  simp only [opV, op_mkslice, hx, hy]
  rw [if_neg (by omega)]
  simp [Mini.newRow, cellsB]
theorem ops_all1 {p : V} : Ops E t (.alloc [p]) h ⟨.ptr h.length 0 0 0, h ++ [.row ⟨1, [[p]], 0, 0⟩], [], []⟩ := ops_of rfl
theorem ops_st1 {p u : V} (ha : ev E.G t x = some (.ptr h.length 0 0 0)) (hx : ev E.G t y = some u) (hu : u.cells = [u]) (hl : u.lies = true) : Ops E t (.store 1 x y) (h ++ [.row ⟨1, [[p]], 0, 0⟩]) ⟨.undef, h ++ [.row ⟨1, [[u]], 0, 0⟩], [], [h.length]⟩ := by
  refine ops_struct (row := ⟨1, [[p]], 0, 0⟩) (el := [p]) ha hx (by simp) rfl rfl (by rw [hu]; rfl) hl rfl (by simp) ?_
  simp [setFrom, hu]
end
section
variable {E : Env} {n0 : Nat} {R : St → Prop} {ms : List MOper} {x y : Opd} {dst : Option Nat} {op : MOp} {g : Option (Nat × Bool)} {t t1 : List V} {h h1 : H} {r r1 w w1 : List Nat} {v : V} {j m : Nat} {masks : List Nat}
/-- what has been drawn only reads -/
def DR (E : Env) (n0 : Nat) (ms : List MOper) (j : Nat) (masks : List Nat) (s : St) (R : St → Prop) : Prop := ∀ fs : List (Nat × List Nat × List Nat), (∀ x ∈ fs, x.1 < j ∧ x.2.2 = []) → DQ E n0 ms j masks fs s R
theorem dr_from {s : St} (hk : DR E n0 ms 0 masks s R) : DQ E n0 ms 0 masks [] s R := hk [] fun x hx => by cases hx
theorem dr_nil {s : St} (hk : R s) : DR E n0 [] j masks s R := fun fs _ => d_nil hk
theorem dr_skip (hw : wantedV t g = false) (ht : putV t dst .undef = t1) (hk : DR E n0 ms (j + 1) masks ⟨t1, h, r, w⟩ R) : DR E n0 (⟨dst, op, g⟩ :: ms) j (m :: masks) ⟨t, h, r, w⟩ R := fun fs hfs => d_skip hw ht (hk fs fun x hx => ⟨by have := (hfs x hx).1; omega, (hfs x hx).2⟩)
theorem dr_all {fs : List (Nat × List Nat × List Nat)} (hfs : ∀ x ∈ fs, x.1 < j ∧ x.2.2 = []) : (fs.all fun x => x.2.2.isEmpty) = true := List.all_eq_true.2 fun x hx => by rw [(hfs x hx).2]; rfl
theorem dr_op (hw : wantedV t g = true) (hx : Ops E t op h ⟨v, h, r1, []⟩) (ht : putV t dst v = t1) (hk : DR E n0 ms (j + 1) masks ⟨t1, h, uni n0 r1 r, w⟩ R) : DR E n0 (⟨dst, op, g⟩ :: ms) j (m :: masks) ⟨t, h, r, w⟩ R := fun fs hfs => by
  refine d_go2 hw hx ht ?_ rfl (hk _ fun x hx => ?_)
  · rw [allW_same]; exact free_reads (dr_all hfs)
  · rw [allW_same] at hx
    unfold note at hx
    split at hx
    · exact ⟨by have := (hfs x hx).1; omega, (hfs x hx).2⟩
    · rcases List.mem_cons.1 hx with rfl | hx
      · exact ⟨Nat.lt_succ_self _, rfl⟩
      · exact ⟨by have := (hfs x hx).1; omega, (hfs x hx).2⟩
theorem dr_read {f : FuncId} {xs : List Opd} {cap ys : List V} (hw : wantedV t g = true) (hx : ev E.G t x = some (.fn f cap)) (ha : evs E.G t xs = some ys) (hc : ∃ r, Calls' E f (ys ++ cap) h ⟨v, h, r, []⟩) (ht : putV t dst v = t1) (hk : ∀ r1, DR E n0 ms (j + 1) masks ⟨t1, h, uni n0 r1 r, w⟩ R) : DR E n0 (⟨dst, .call x xs, g⟩ :: ms) j (m :: masks) ⟨t, h, r, w⟩ R := by
  obtain ⟨r1, k1⟩ := hc
  exact dr_op hw (ops_call hx ha k1) ht (hk r1)
theorem dr_last (hw : wantedV t g = true) (hx : Ops E t op h ⟨v, h1, r1, w1⟩) (ht : putV t dst v = t1) (hm : maskAll 0 j m = true) (hk : R ⟨t1, h1, uni n0 r1 r, uni n0 w1 w⟩) : DR E n0 [⟨dst, op, g⟩] j (m :: masks) ⟨t, h, r, w⟩ R := fun fs hfs =>
  d_go2 hw hx ht (free_mask_all (maskAll_ok (lo := 0) hm fun x hx => ⟨Nat.zero_le _, (hfs x hx).1⟩)) rfl (d_nil hk)
end
/-- a call in the mode 'keep', whatever it answers -/
theorem keepX {E : Env} {f : FuncId} {args t0 : List V} {h : H} {nt : Nat} {body : MCode} {res : List MRes} {Q : V → H → Prop} (hm : E.mode f = .keep) (hf : E.fn f = some ⟨nt, body, res⟩) (h0 : args ++ List.replicate (nt - args.length) .undef = t0)
    (hg : RQ E h.length body ⟨t0, h, [], []⟩ fun e s => (e = .ret ∨ e = .normal) ∧ ∃ vs r1, resV s.h s.t res = some (vs, r1) ∧ Q (tupV vs) s.h) : ∃ v r w h', Calls' E f args h ⟨v, h', r, w⟩ ∧ Q v h' := by
  obtain ⟨e, s, h1, he, vs, r1, h2, h3⟩ := hg
  refine ⟨tupV vs, uni h.length r1 s.r, s.w, s.h, calls_keep hm hf h0 h1 he ?_, h3⟩
  simp only [callRes, h2, callOut, cond_true]
/-- bits as a slice of one's own -/
def BB (h : H) (v : V) (b : Nat) (W : List Bool) : Prop := (W = [] ∧ v = .nils) ∨ ∃ cur, W ≠ [] ∧ v = .os b cur 1 0 W.length false ∧ h[b]? = some (.row ⟨1, cellsB W, cur, 0⟩)
theorem bb_push {EE : Env} {h : H} {v : V} {b : Nat} {W : List Bool} (a : BB h v b W) (hW : W.length ≤ 100000) (x : Bool) : ∃ v' b' h2 r w, BB h2 v' b' (W ++ [x]) ∧ ((W ≠ [] ∧ b' = b) ∨ h.length ≤ b') ∧ (∀ c, c < h.length → (c ≠ b ∨ W = []) → h2[c]? = h[c]?) ∧ h.length ≤ h2.length ∧
    ∀ (t : List V) (p q : Opd), ev EE.G t p = some v → ev EE.G t q = some (.os h.length 0 1 0 1 true) → Ops EE t (.append 1 1 p q) (h ++ [.row ⟨1, [[.bool x]], 0, 0⟩]) ⟨v', h2, r, w⟩ := by
  have hend : (h ++ [Ob.row ⟨1, [[.bool x]], 0, 0⟩])[h.length]? = some (.row ⟨1, [[.bool x]], 0, 0⟩) := by simp
  have h1 : sources 1 (h ++ [Ob.row ⟨1, [[.bool x]], 0, 0⟩]) (.os h.length 0 1 0 1 true) = some ([[.bool x]], [h.length]) := by
    simp only [sources, elems, rowAt_of hend (Nat.le_refl _) (Nat.le_refl _)]
    rfl
  rcases a with ⟨rfl, rfl⟩ | ⟨cur, hW0, rfl, hb⟩
  · refine ⟨.os (h.length + 1) 0 1 0 1 false, h.length + 1, (h ++ [Ob.row ⟨1, [[.bool x]], 0, 0⟩]) ++ [.row ⟨1, [[.bool x]], 0, 0⟩], [h.length], [], .inr ⟨0, by simp, rfl, ?_⟩, .inr (by omega), fun c hc _ => ?_, by simp, fun t p q hp hq => ops_of ?_⟩
    · rw [List.getElem?_append_right (by simp)]; simp [cellsB]
    · rw [List.getElem?_append_left (by simp; omega), List.getElem?_append_left hc]
    · simp only [opV, op_append, hp, hq, appendV, h1]
      simp only [List.isEmpty_cons, Bool.false_eq_true, if_false]
      rw [if_pos (by simp)]
      simp only [List.length_append, List.length_cons, List.length_nil, Mini.newRow]
  · have hlt := (List.getElem?_eq_some_iff.1 hb).1
    have hb' : (h ++ [Ob.row ⟨1, [[.bool x]], 0, 0⟩])[b]? = some (.row ⟨1, cellsB W, cur, 0⟩) := by rw [List.getElem?_append_left hlt]; exact hb
    have h2 : Mini.rowAt (h ++ [Ob.row ⟨1, [[.bool x]], 0, 0⟩]) b cur = some ⟨1, cellsB W, cur, 0⟩ := rowAt_of hb' (Nat.zero_le _) (Nat.le_refl _)
    refine ⟨.os b (cur + 1) 1 0 (W.length + 1) false, b, (h ++ [Ob.row ⟨1, [[.bool x]], 0, 0⟩]).set b (.row ⟨1, cellsB W ++ [[.bool x]], cur + 1, 0⟩), [h.length], [b], .inr ⟨cur + 1, by simp, by simp, ?_⟩, .inl ⟨hW0, rfl⟩, fun c hc hn => ?_, by simp, fun t p q hp hq => ops_of ?_⟩
    · rw [List.getElem?_set_self (by simp; omega)]; simp [cellsB]
    · have hn := hn.resolve_right hW0
      rw [List.getElem?_set_ne (Ne.symm hn), List.getElem?_append_left hc]
    · simp only [opV, op_append, hp, hq, appendV, h1, h2]
      simp only [List.isEmpty_cons, Bool.false_eq_true, if_false]
      rw [if_pos ⟨trivial, trivial, by rw [cellsB_len]; omega, by simp; omega⟩]
      simp [cellsB_len, List.take_of_length_le]
end Go.GrMath
