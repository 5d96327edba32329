/- A part of the proof: HeapM7. No condition. -/
import Derived.Test.YtmmipfmdkoaekaaHeapR
import Derived.Test.YtmmipfmdkoaekaaHeapL7
set_option linter.all false
set_option maxRecDepth 100000
namespace Go.Proofs.Ytmmipfmdkoaekaa.Code
open Go.Mini Go.HeapMath Go.HeapRun
set_option linter.all false
/-- acts, cell by cell -/
def acts (L : List (Int × Int × Int)) : List (List V) := L.map fun x => [V.int .i64 x.1, V.int .i64 x.2.1, V.int .i64 x.2.2]
theorem acts_of {els : List (List V)} (h : ∀ el ∈ els, ∃ a b c : Int, el = [V.int .i64 a, V.int .i64 b, V.int .i64 c]) : ∃ L, els = acts L := by
  induction els with
  | nil => exact ⟨[], rfl⟩
  | cons el els ih =>
    obtain ⟨L, h1⟩ := ih fun el hel => h el (by simp [hel])
    obtain ⟨a, b, c, h2⟩ := h el (by simp)
    exact ⟨(a, b, c) :: L, by rw [h1, h2]; rfl⟩
def gA (L : List (Int × Int × Int)) (i : Nat) : Int × Int × Int := L.getD i (0, 0, 0)
theorem acts_get {L : List (Int × Int × Int)} {i : Nat} (h : i < L.length) : (acts L)[i]? = some [V.int .i64 (gA L i).1, V.int .i64 (gA L i).2.1, V.int .i64 (gA L i).2.2] := by
  unfold acts gA
  rw [List.getElem?_map, List.getD_eq_getElem?_getD, List.getElem?_eq_getElem h]; rfl
theorem slA_nil : SlA .nils 0 (fun _ => 0) (fun _ => 0) (fun _ => 0) :=
  ⟨fun hx => ops_of (by simp only [opV, op_len, hx]; rfl), fun _ _ h => by omega⟩
theorem slA_rs {L : List (Int × Int × Int)} : SlA (.rs 3 (acts L)) (acts L).length (fun i => (gA L i).1) (fun i => (gA L i).2.1) (fun i => (gA L i).2.2) :=
  ⟨fun hx => ops_of (by simp only [opV, op_len, hx]), fun {t x y h k u} hx hy hu => ops_iaddrR (n := (u : Int)) hx hy (by omega) rfl (by rw [Int.toNat_natCast]; exact acts_get (by simpa [acts] using hu))⟩
theorem int3 {xs : List V} (h : hasT Try.prog 2 3 xs) : ∃ z, xs = [V.int .i64 z] := by
  rw [hasT_int Try.underlying3] at h
  obtain ⟨z, h, _⟩ := h
  exact ⟨z, h⟩
theorem int2 {xs : List V} (h : hasT Try.prog 2 2 xs) : ∃ z, xs = [V.int .i64 z] := by
  rw [hasT_int Try.underlying2] at h
  obtain ⟨z, h, _⟩ := h
  exact ⟨z, h⟩
theorem actsOf {x : V} (h : hasV Try.prog 4 37 x) : ∃ n gk gv gy, SlA x n gk gv gy := by
  rw [hasV_slice Try.underlying37, hasT_slice Try.underlying37] at h
  rcases h with h | ⟨els, h, _, h2⟩
  · cases h; exact ⟨_, _, _, _, slA_nil⟩
  · cases h
    obtain ⟨L, h3⟩ := acts_of (els := els) (fun el hel => by
      have := h2 el hel
      rw [hasT_struct Try.underlying41] at this
      simp only [hasF] at this
      obtain ⟨a1, b1, rfl, e1, a2, b2, rfl, e2, a3, b3, rfl, e3, rfl⟩ := this
      obtain ⟨z1, rfl⟩ := int3 e1
      obtain ⟨z2, rfl⟩ := int3 e2
      obtain ⟨z3, rfl⟩ := int2 e3
      exact ⟨z1, z2, z3, rfl⟩)
    rw [h3, show Try.prog.cellsOf 41 = 3 by kernel_rfl]
    exact ⟨_, _, _, _, slA_rs⟩
theorem intOf {x : V} (h : hasV Try.prog 4 3 x) : ∃ z : Int, x = .int .i64 z ∧ -9223372036854775808 ≤ z ∧ z ≤ 9223372036854775807 := by
  rw [hasV_int Try.underlying3, hasT_int Try.underlying3] at h
  obtain ⟨z, h1, h2, h3⟩ := h
  cases h1
  exact ⟨z, rfl, h2, h3⟩
theorem heapActs_run (x0 x1 : V) (h0 : hasV Try.prog 4 3 x0) (h1 : hasV Try.prog 4 37 x1) : PureOk Try.prog (fun _ => none) 7 [x0, x1] (.bool true) := by
  have g := vb2 (hasV_vb h0) (hasV_vb h1)
  obtain ⟨z, rfl, hz⟩ := intOf h0
  obtain ⟨n, gk, gv, gy, hs⟩ := actsOf h1
  exact heap_pure (act_law hs hz) g
end Go.Proofs.Ytmmipfmdkoaekaa.Code
