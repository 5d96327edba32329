/- A part of the proof: LexBuf. No condition. -/
import Derived.Test.YtbalajldicbbbaaDoorLexNm2
set_option linter.all false
set_option maxRecDepth 100000
namespace Go.Mini
set_option linter.all false
/-- a slice that holds a byte k times -/
def Buf (h : H) (v : V) (k : Nat) (c : Nat) : Prop := (k = 0 ∧ v = .nils) ∨ ∃ b cur, 0 < k ∧ v = .os b cur 1 0 k false ∧ h[b]? = some (.row ⟨1, List.replicate k [.int .u8 (c : Nat)], cur, 0⟩)
variable {E : Env} {t : List V} {h : H} {x y : Opd} {v : V} {k c : Nat}
theorem buf_push (hb : Buf h v k c) (hk : k ≤ 100000) : ∃ v' h2 r2 w2, Buf h2 v' (k + 1) c ∧ ∀ (t : List V) (x y : Opd), ev E.G t x = some v → ev E.G t y = some (.os h.length 0 1 0 1 true) → Ops E t (.append 1 1 x y) (h ++ [.row ⟨1, [[.int .u8 (c : Nat)]], 0, 0⟩]) ⟨v', h2, r2, w2⟩ := by
  have hend : (h ++ [Ob.row ⟨1, [[.int .u8 (c : Nat)]], 0, 0⟩])[h.length]? = some (.row ⟨1, [[.int .u8 (c : Nat)]], 0, 0⟩) := by simp
  have h1 : sources 1 (h ++ [Ob.row ⟨1, [[.int .u8 (c : Nat)]], 0, 0⟩]) (.os h.length 0 1 0 1 true) = some ([[.int .u8 (c : Nat)]], [h.length]) := by
    simp only [sources, elems, rowAt_of hend (Nat.le_refl _) (Nat.le_refl _)]
    rfl
  rcases hb with ⟨rfl, rfl⟩ | ⟨b, cur, h0, rfl, hrow⟩
  · refine ⟨.os (h.length + 1) 0 1 0 1 false, (h ++ [Ob.row ⟨1, [[.int .u8 (c : Nat)]], 0, 0⟩]) ++ [.row ⟨1, [[.int .u8 (c : Nat)]], 0, 0⟩], [h.length], [], .inr ⟨h.length + 1, 0, by omega, rfl, ?_⟩, fun t x y hx hy => ops_of ?_⟩
    · rw [List.getElem?_append_right (by simp)]
      simp
    · simp only [opV, op_append, hx, hy, appendV, h1]
      simp only [List.isEmpty_cons, Bool.false_eq_true, if_false]
      rw [if_pos (by simp)]
      simp only [List.length_append, List.length_cons, List.length_nil, newRow]
  · have hlt := (List.getElem?_eq_some_iff.1 hrow).1
    have hb' : (h ++ [Ob.row ⟨1, [[.int .u8 (c : Nat)]], 0, 0⟩])[b]? = some (.row ⟨1, List.replicate k [.int .u8 (c : Nat)], cur, 0⟩) := by
      rw [List.getElem?_append_left hlt]; exact hrow
    have h2 := rowAt_of hb' (Nat.zero_le _) (Nat.le_refl cur)
    refine ⟨.os b (cur + 1) 1 0 (k + 1) false, (h ++ [Ob.row ⟨1, [[.int .u8 (c : Nat)]], 0, 0⟩]).set b (.row ⟨1, List.replicate k [.int .u8 (c : Nat)] ++ [[.int .u8 (c : Nat)]], cur + 1, 0⟩), [h.length], [b], .inr ⟨b, cur + 1, by omega, rfl, ?_⟩, fun t x y hx hy => ops_of ?_⟩
    · rw [List.getElem?_set_self (by simp; omega), List.replicate_succ']
    · simp only [opV, op_append, hx, hy, appendV, h1, h2]
      simp only [List.isEmpty_cons, Bool.false_eq_true, if_false]
      rw [if_pos ⟨trivial, trivial, by simp, by simp; omega⟩]
      simp [List.take_of_length_le]
theorem mapM_rep {α β : Type} {f : α → Option β} {a : α} {b : β} (h : f a = some b) : ∀ k, mapM? f (List.replicate k a) = some (List.replicate k b)
  | 0 => rfl
  | k + 1 => by
    rw [List.replicate_succ, List.replicate_succ]
    simp only [mapM?, h, mapM_rep h k]
theorem buf_str (hb : Buf h v k c) : ∃ r, ∀ (t : List V) (x : Opd), ev E.G t x = some v → Ops E t (.b2s x) h ⟨.str (List.replicate k (UInt8.ofNat c)), h, r, []⟩ := by
  rcases hb with ⟨rfl, rfl⟩ | ⟨b, cur, h0, rfl, hrow⟩
  · exact ⟨[], fun t x hx => ops_of (by simp only [opV, op_b2s, hx]; rfl)⟩
  · refine ⟨[b], fun t x hx => ops_of ?_⟩
    have h2 := rowAt_of hrow (Nat.zero_le _) (Nat.le_refl cur)
    simp only [opV, op_b2s, hx, elems, h2]
    rw [if_pos ⟨trivial, by simp⟩]
    simp only [List.drop_zero, List.take_of_length_le (show (List.replicate k [V.int .u8 (c : Nat)]).length ≤ k by simp)]
    rw [mapM_rep (b := UInt8.ofNat c) (by simp) k]
theorem buf_len (hb : Buf h v k c) {h' : H} (hx : ev E.G t x = some v) : Ops E t (.len x) h' ⟨.int .i64 (k : Nat), h', [], []⟩ := by
  rcases hb with ⟨rfl, rfl⟩ | ⟨b, cur, h0, rfl, hrow⟩
  · exact ops_of (by simp only [opV, op_len, hx]; rfl)
  · exact ops_of (by simp only [opV, op_len, hx])
theorem ops_remK {kd : IntKind} {m n r : Int} {cmp : Cmp} (hx : ev E.G t x = some (.int kd m)) (hy : ev E.G t y = some (.int kd n)) (hn : n ≠ 0) (hr : m.tmod n = r) : Ops E t (.bin .rem cmp x y) h ⟨.int kd r, h, [], []⟩ :=
  ops_of (by
    have h1 : eqF n 0 = false := by rw [beqI]; simpa using hn
    have h2 : kindEq kd kd = true := by cases kd <;> rfl
    simp only [opV, op_bin, hx, hy, binV, intV, h2, cond_true, h1, cond_false, forceI_eq, hr, one])
theorem ops_alloc2 {p q : V} : Ops E t (.alloc [p, q]) h ⟨.ptr h.length 0 0 0, h ++ [.row ⟨2, [[p, q]], 0, 0⟩], [], []⟩ := ops_of rfl
theorem ops_st2 {p q u w : V} (ha : ev E.G t x = some (.ptr h.length 0 0 0)) (hx : ev E.G t y = some (.agg [u, w])) : Ops E t (.store 2 x y) (h ++ [.row ⟨2, [[p, q]], 0, 0⟩]) ⟨.undef, h ++ [.row ⟨2, [[u, w]], 0, 0⟩], [], [h.length]⟩ := by
  refine ops_struct (row := ⟨2, [[p, q]], 0, 0⟩) (el := [p, q]) ha hx (by simp) rfl rfl rfl rfl rfl (by simp) ?_
  simp [setFrom]; rfl
theorem ops_ld2 {u w : V} (ha : ev E.G t x = some (.ptr h.length 0 0 0)) : Ops E t (.load (some 2) x) (h ++ [.row ⟨2, [[u, w]], 0, 0⟩]) ⟨.agg [u, w], h ++ [.row ⟨2, [[u, w]], 0, 0⟩], [h.length], []⟩ :=
  ops_load (row := ⟨2, [[u, w]], 0, 0⟩) (el := [u, w]) ha (rowAt_of (by simp) (Nat.le_refl _) (Nat.le_refl _)) rfl rfl
theorem ops_ld0 {u w : V} (ha : ev E.G t x = some (.ptr h.length 0 0 0)) : Ops E t (.load none x) (h ++ [.row ⟨2, [[u, w]], 0, 0⟩]) ⟨u, h ++ [.row ⟨2, [[u, w]], 0, 0⟩], [h.length], []⟩ :=
  ops_load (row := ⟨2, [[u, w]], 0, 0⟩) (el := [u, w]) ha (rowAt_of (by simp) (Nat.le_refl _) (Nat.le_refl _)) rfl rfl
end Go.Mini
