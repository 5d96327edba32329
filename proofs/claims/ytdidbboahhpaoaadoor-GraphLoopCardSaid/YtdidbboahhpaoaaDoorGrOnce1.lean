/- A part of the proof: GrOnce1. No condition. -/
import Derived.Test.YtdidbboahhpaoaaDoorGrRun3
set_option linter.all false
set_option maxRecDepth 100000
namespace Go.GrMath
open Go.Mini Go.HeapRun Go.HeapMath
set_option linter.all false
/-- whole numbers as a slice of one's own -/
def IB (h : H) (v : V) (b : Nat) (E : List Int) : Prop := ∃ cur c, v = .os b cur 1 0 E.length c ∧ h[b]? = some (.row ⟨1, ints E, cur, 0⟩)
theorem IB.lt {h : H} {v : V} {b : Nat} {E : List Int} (a : IB h v b E) : b < h.length := by
  obtain ⟨cur, c, _, e⟩ := a
  exact (List.getElem?_eq_some_iff.1 e).1
theorem IB.frame {h h' : H} {v : V} {b : Nat} {E : List Int} {bs : List Nat} (a : IB h v b E) (f : Keeps h h' bs) (hn : b ∉ bs) : IB h' v b E := by
  have hl := a.lt
  obtain ⟨cur, c, e1, e2⟩ := a
  exact ⟨cur, c, e1, by rw [f.2 b hl hn]; exact e2⟩
theorem ints_app (E : List Int) (x : Int) : ints (E ++ [x]) = ints E ++ [[.int .i64 x]] := by simp [ints]
theorem ib_push {EE : Env} {h : H} {v : V} {b : Nat} {E : List Int} (a : IB h v b E) (hE : E.length ≤ 100000) (x : Int) : ∃ v' b' h2 r w, IB h2 v' b' (E ++ [x]) ∧ (b' = b ∨ h.length ≤ b') ∧ Keeps h h2 [b] ∧
    ∀ (t : List V) (p q : Opd), ev EE.G t p = some v → ev EE.G t q = some (.os h.length 0 1 0 1 true) → Ops EE t (.append 1 8 p q) (h ++ [.row ⟨1, [[.int .i64 x]], 0, 0⟩]) ⟨v', h2, r, w⟩ := by
  have hlt := a.lt
  obtain ⟨cur, c, rfl, hb⟩ := a
  have hend : (h ++ [Ob.row ⟨1, [[.int .i64 x]], 0, 0⟩])[h.length]? = some (.row ⟨1, [[.int .i64 x]], 0, 0⟩) := by simp
  have h1 : sources 1 (h ++ [Ob.row ⟨1, [[.int .i64 x]], 0, 0⟩]) (.os h.length 0 1 0 1 true) = some ([[.int .i64 x]], [h.length]) := by
    simp only [sources, elems, rowAt_of hend (Nat.le_refl _) (Nat.le_refl _)]
    rfl
  have hb' : (h ++ [Ob.row ⟨1, [[.int .i64 x]], 0, 0⟩])[b]? = some (.row ⟨1, ints E, cur, 0⟩) := by rw [List.getElem?_append_left hlt]; exact hb
  have h2 : Mini.rowAt (h ++ [Ob.row ⟨1, [[.int .i64 x]], 0, 0⟩]) b cur = some ⟨1, ints E, cur, 0⟩ := rowAt_of hb' (Nat.zero_le _) (Nat.le_refl _)
  have hk1 : Keeps h (h ++ [Ob.row ⟨1, [[.int .i64 x]], 0, 0⟩]) [b] := Keeps.push
  cases c
  · exact ⟨.os b (cur + 1) 1 0 (E.length + 1) false, b, (h ++ [Ob.row ⟨1, [[.int .i64 x]], 0, 0⟩]).set b (.row ⟨1, ints E ++ [[.int .i64 x]], cur + 1, 0⟩), [h.length], [b],
      ⟨cur + 1, false, by simp, by rw [List.getElem?_set_self (by simp; omega), ints_app]⟩, .inl rfl, hk1.trans (Keeps.set (by simp)), fun t p q hp hq => ops_of (by
        simp only [opV, op_append, hp, hq, appendV, h1, h2]
        simp only [List.isEmpty_cons, Bool.false_eq_true, if_false]
        rw [if_pos ⟨trivial, trivial, by rw [ints_len]; omega, by simp; omega⟩]
        simp [ints_len, List.take_of_length_le])⟩
  · exact ⟨.os (h.length + 1) 0 1 0 (E.length + 1) false, h.length + 1, (h ++ [Ob.row ⟨1, [[.int .i64 x]], 0, 0⟩]) ++ [.row ⟨1, ints E ++ [[.int .i64 x]], 0, 0⟩], b :: [h.length], [],
      ⟨0, false, by simp, by rw [List.getElem?_append_right (by simp), ints_app]; simp⟩, .inr (by omega), hk1.trans Keeps.push, fun t p q hp hq => ops_of (by
        simp only [opV, op_append, hp, hq, appendV, h1, h2]
        simp only [List.isEmpty_cons, Bool.false_eq_true, if_false]
        rw [if_pos ⟨trivial, trivial, by rw [ints_len]; omega, by simp; omega⟩]
        simp [ints_len, List.take_of_length_le, Mini.newRow])⟩
theorem lend_ints (h : H) (k : Nat) : ∀ E : List Int, mapM? (mapM? (lend h (k + 1))) (ints E) = some ((ints E).map fun c => c.map fun x => (x, ([] : List Nat)))
  | [] => rfl
  | x :: E => by
    have ih := lend_ints h k E
    have e1 : mapM? (lend h (k + 1)) [V.int .i64 x] = some [(.int .i64 x, [])] := rfl
    show mapM? (mapM? (lend h (k + 1))) ([V.int .i64 x] :: ints E) = _
    simp only [mapM?, e1, ih]
    rfl
theorem lend_os {h : H} {k b vv sz i n : Nat} {c : Bool} {x : Row} (hx : Mini.rowAt h b vv = some x) (hc : x.sz = sz ∧ i + n ≤ x.els.length) {els : List (List (V × List Nat))} (hm : mapM? (mapM? (lend h k)) ((x.els.drop i).take n) = some els) :
    lend h (k + 1) (.os b vv sz i n c) = some (.rs sz (els.map (·.map (·.1))), b :: els.flatMap (·.flatMap (·.2))) := by
  simp only [lend, hx]
  rw [if_pos hc, hm]
theorem tagged (E : List Int) : (((ints E).map fun c => c.map fun x => (x, ([] : List Nat))).map fun c => c.map (·.1)) = ints E := by simp [ints]
theorem untold : ∀ E : List Int, ((ints E).map fun c => c.map fun x => (x, ([] : List Nat))).flatMap (fun c => c.flatMap (·.2)) = []
  | [] => rfl
  | x :: E => by
    have ih := untold E
    show [] ++ ((ints E).map fun c => c.map fun x => (x, ([] : List Nat))).flatMap (fun c => c.flatMap (·.2)) = []
    rw [ih]; rfl
theorem lend_ib {h : H} {v : V} {b : Nat} {E : List Int} (a : IB h v b E) (k : Nat) : lend h (k + 2) v = some (.rs 1 (ints E), [b]) := by
  obtain ⟨cur, c, rfl, hb⟩ := a
  have h2 : Mini.rowAt h b cur = some ⟨1, ints E, cur, 0⟩ := rowAt_of hb (Nat.zero_le _) (Nat.le_refl _)
  have h4 : ((ints E).drop 0).take E.length = ints E := by rw [List.drop_zero, List.take_of_length_le (by rw [ints_len]; exact Nat.le_refl _)]
  have := lend_os (k := k + 1) (sz := 1) (i := 0) (n := E.length) (c := c) h2 ⟨rfl, by rw [ints_len]; omega⟩ (by rw [h4]; exact lend_ints h k E)
  rw [this, tagged, untold]
section
variable {E : Env} {t : List V} {h : H} {x y : Opd}
theorem ops_lenI {L : List Int} (hx : ev E.G t x = some (.rs 1 (ints L))) : Ops E t (.len x) h ⟨.int .i64 (L.length : Nat), h, [], []⟩ :=
  ops_of (by simp only [opV, op_len, hx, ints_len])
theorem ops_lenO {b cur n : Nat} {c : Bool} (hx : ev E.G t x = some (.os b cur 1 0 n c)) : Ops E t (.len x) h ⟨.int .i64 (n : Nat), h, [], []⟩ :=
  ops_of (by simp only [opV, op_len, hx])
end
/-- acts -/
def AS (x0 : V) (n : Nat) (A B : Nat → Int) : Prop := (∀ i, (-9223372036854775808 ≤ A i ∧ A i ≤ 9223372036854775807) ∧ (-9223372036854775808 ≤ B i ∧ B i ≤ 9223372036854775807)) ∧
  ((n = 0 ∧ x0 = .nils) ∨ ∃ els : List (List V), x0 = .rs 4 els ∧ els.length = n ∧ ∀ i, i < n → ∃ k c : Int, els[i]? = some [.int .i64 k, .int .i64 (A i), .int .i64 (B i), .int .i64 c])
theorem AS.len {EE : Env} {x0 : V} {n : Nat} {A B : Nat → Int} (a : AS x0 n A B) {t : List V} {x : Opd} {h : H} (hx : ev EE.G t x = some x0) : Ops EE t (.len x) h ⟨.int .i64 (n : Nat), h, [], []⟩ := by
  obtain ⟨_, ⟨rfl, rfl⟩ | ⟨els, rfl, hl, _⟩⟩ := a
  · exact ops_of (by simp only [opV, op_len, hx]; rfl)
  · exact ops_of (by simp only [opV, op_len, hx, hl])
theorem AS.at {EE : Env} {x0 : V} {n : Nat} {A B : Nat → Int} (a : AS x0 n A B) {i : Nat} (hi : i < n) : ∃ k c : Int, ∀ (t : List V) (x y : Opd) (h : H), ev EE.G t x = some x0 → ev EE.G t y = some (.int .i64 (i : Nat)) → Ops EE t (.iaddr 4 x y) h ⟨.rp [.int .i64 k, .int .i64 (A i), .int .i64 (B i), .int .i64 c], h, [], []⟩ := by
  obtain ⟨_, ⟨rfl, rfl⟩ | ⟨els, rfl, hl, hat⟩⟩ := a
  · omega
  · obtain ⟨k, c, he⟩ := hat i hi
    exact ⟨k, c, fun t x y h hx hy => ops_iaddrR hx hy (by omega) rfl (by simpa using he)⟩
end Go.GrMath
